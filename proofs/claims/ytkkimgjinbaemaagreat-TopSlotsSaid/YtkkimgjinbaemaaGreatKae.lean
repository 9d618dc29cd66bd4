/- The walk. -/
import Derived.Test.YtkkimgjinbaemaaGreatKad
namespace Go.Proofs.YtkkimgjinbaemaaGreat
open Go.RowKit
set_option linter.unusedVariables false
set_option linter.unusedSimpArgs false
set_option maxRecDepth 100000
set_option maxHeartbeats 4000000
section
variable {P : Program}
mutual
def AV.ren (ρ : Nat -> Option Nat) : AV -> AV
 | .own id n => match ρ id with | some j => .own j n | none => .any
 | .sub id n lo m => match ρ id with | some j => .sub j n lo m | none => .any
 | .ptr id off => match ρ id with | some j => .ptr j off | none => .any
 | .rptr id n i off => match ρ id with | some j => .rptr j n i off | none => .any
 | .bsl id n => match ρ id with | some j => .bsl j n | none => .any
 | .agg cs => .agg (Mq ρ cs)
 | .tup cs => .tup (Mq ρ cs)
 | .fn f cs => .fn f (Mq ρ cs)
 | .gd t v => .gd t (v.ren ρ)
 | .any => .any
 | .lit v => .lit v
 | .nil k => .nil k
 | .imm fr k es => .imm fr k es
 | .iptr fr cs off => .iptr fr cs off
def Mq (ρ : Nat -> Option Nat) : List AV -> List AV
 | [] => []
 | c :: cs => c.ren ρ :: Mq ρ cs
end
theorem Ny (ρ : Nat -> Option Nat) : ∀ (cs : List AV) (i : Nat), (Mq ρ cs)[i]? = (cs[i]?).map (AV.ren ρ)
 | [], i => by simp [Mq]
 | c :: cs, 0 => by simp [Mq]
 | c :: cs, i + 1 => by simp [Mq, Ny ρ cs i]
theorem Nx (ρ : Nat -> Option Nat) : ∀ (cs : List AV), (Mq ρ cs).length = cs.length
 | [] => rfl
 | c :: cs => by simp [Mq, Nx ρ cs]
def Ob.ren (ρ : Nat -> Option Nat) : Ob -> Ob
 | .box ty cs => .box ty (Mq ρ cs)
 | o => o
def Le (c c' : AV) : Prop := ∀ C u, Dv C c u -> Dv C c' u
theorem Le.refl (c : AV) : Le c c := fun _ _ h => h
theorem Le.any (c : AV) : Le c .any := fun _ u _ => .any u
theorem Le.nil (k : Nat) (fr : Bool) (k' : Nat) : Le (.nil k) (.imm fr k' []) := fun _ _ h => by
 cases h with
 | nil k A => exact .imm _ _ _ _ (.nil _ _ _)
theorem Le.imm {fr fr' : Bool} (hf : fr' = true -> fr = true) (k : Nat) (es : List (List T)) : Le (.imm fr k es) (.imm fr' k es) := fun _ _ h => by
 cases h with
 | imm fr k es u h => exact .imm _ _ _ _ (VC.T_weak h hf)
theorem Le.gd (v : AV) : Le (.gd true v) v := fun _ _ h => by
 cases h with
 | gd t v u h1 h2 => exact h1 rfl
inductive LeL : List AV -> List AV -> Prop
  | nil : LeL [] []
  | cons {c c' : AV} {cs cs' : List AV} : Le c c' -> LeL cs cs' -> LeL (c :: cs) (c' :: cs')
theorem LeL.refl : ∀ (cs : List AV), LeL cs cs
 | [] => .nil
 | c :: cs => .cons (Le.refl c) (LeL.refl cs)
theorem LeL.length {cs cs' : List AV} (h : LeL cs cs') : cs.length = cs'.length := by
 induction h with
 | nil => rfl
 | cons _ _ ih => simp [ih]
theorem LeL.get {cs cs' : List AV} (h : LeL cs cs') : ∀ {i : Nat} {c' : AV}, cs'[i]? = some c' -> ∃ c, cs[i]? = some c /\ Le c c' := by
 induction h with
 | nil => intro i c' h; simp at h
 | cons h1 _ ih =>
  intro i c' h
  cases i with
  | zero => simp at h; subst h; exact ⟨_, rfl, h1⟩
  | succ i => simp at h; obtain ⟨c, h2, h3⟩ := ih h; exact ⟨c, by simpa using h2, h3⟩
theorem Le.agg {cs cs' : List AV} (h : LeL cs cs') : Le (.agg cs) (.agg cs') := fun C u hr => by
 cases hr with
 | agg cs us h1 h2 =>
  refine .agg _ _ (by rw [<- h.length]; exact h1) fun i c u hc hu => ?_
  obtain ⟨c0, g1, g2⟩ := h.get hc
  exact g2 C u (h2 i c0 u g1 hu)
theorem Le.tup {cs cs' : List AV} (h : LeL cs cs') : Le (.tup cs) (.tup cs') := fun C u hr => by
 cases hr with
 | tup cs us h1 h2 =>
  refine .tup _ _ (by rw [<- h.length]; exact h1) fun i c u hc hu => ?_
  obtain ⟨c0, g1, g2⟩ := h.get hc
  exact g2 C u (h2 i c0 u g1 hu)
inductive Tm : Ob -> Ob -> Prop
  | gone : Tm .gone .gone
  | box {ty : TypeId} {cs cs' : List AV} : LeL cs cs' -> Tm (.box ty cs) (.box ty cs')
  | row {ty k : Nat} {fr fz fr' fz' : Bool} {es : List (List T)} : (fr' = true -> fr = true) -> (fz' = false -> fz = false) -> Tm (.row ty k fr fz es) (.row ty k fr' fz' es)
theorem Tm.refl (o : Ob) : Tm o o := by
 cases o with
 | gone => exact .gone
 | box ty cs => exact .box (LeL.refl cs)
 | row ty k fr fz es => exact .row (fun e => e) fun e => e
theorem Dv.ren {C C' : VC} {ρ : Nat -> Option Nat} (hh : C'.h = C.h) (ho : ∀ id j, ρ id = some j -> Sim (C.ob id) (C'.ob j) /\ C'.β j = C.β id) (hS : ∀ fr b, C.S fr b -> C'.S fr b) {c : AV} {u : Value} (h : Dv C c u) : Dv C' (c.ren ρ) u := by
 have hT : ∀ fr t u, F3 C.h (C.S fr) t u -> F3 C'.h (C'.S fr) t u := fun fr t u h => by
  rw [hh]
  exact h.keep (fun _ _ => rfl) (hS fr)
 induction h with
 | any u => exact .any u
 | lit v => exact .lit v
 | nil k A => exact .nil k A
 | imm fr k es u h => exact .imm fr k es u (hT fr _ _ h)
 | own id n u h =>
  simp only [AV.ren]
  cases hr : ρ id with
  | none => exact .any u
  | some j =>
   obtain ⟨h0, ty, k, fr, fz, es, h1, h2, h3⟩ := h
   obtain ⟨e1, e2⟩ := ho id j hr
   rw [h1] at e1
   obtain ⟨fr', fz', e1⟩ := e1
   exact .own _ _ _ ⟨h0, ty, k, fr', fz', es, e1, h2, fun e => by
    have := h3 e
    rw [e2, hh]; exact this⟩
 | sub id n lo m u h =>
  simp only [AV.ren]
  cases hr : ρ id with
  | none => exact .any u
  | some j =>
   obtain ⟨h0, ty, k, fr, fz, es, h1, h2, h3⟩ := h
   obtain ⟨e1, e2⟩ := ho id j hr
   rw [h1] at e1
   obtain ⟨fr', fz', e1⟩ := e1
   exact .sub _ _ _ _ _ ⟨h0, ty, k, fr', fz', es, e1, h2, fun e => by
    have := h3 e
    rw [e2]; exact this⟩
 | bsl id n u h =>
  simp only [AV.ren]
  cases hr : ρ id with
  | none => exact .any u
  | some j =>
   obtain ⟨ty, cs, b, c, h1, h2, h3⟩ := h
   obtain ⟨e1, e2⟩ := ho id j hr
   rw [h1] at e1
   obtain ⟨cs', e1⟩ := e1
   exact .bsl _ _ _ ⟨ty, cs', b, c, e1, by rw [e2]; exact h2, h3⟩
 | ptr id off u h =>
  simp only [AV.ren]
  cases hr : ρ id with
  | none => exact .any u
  | some j =>
   obtain ⟨ty, cs, b, h1, h2, h3⟩ := h
   obtain ⟨e1, e2⟩ := ho id j hr
   rw [h1] at e1
   obtain ⟨cs', e1⟩ := e1
   exact .ptr _ _ _ ⟨ty, cs', b, e1, by rw [e2]; exact h2, h3⟩
 | rptr id n i off u h =>
  simp only [AV.ren]
  cases hr : ρ id with
  | none => exact .any u
  | some j =>
   obtain ⟨h0, ty, k, fr, fz, es, h1, h2, h3⟩ := h
   obtain ⟨e1, e2⟩ := ho id j hr
   rw [h1] at e1
   obtain ⟨fr', fz', e1⟩ := e1
   exact .rptr _ _ _ _ _ ⟨h0, ty, k, fr', fz', es, e1, h2, fun e => by
    have := h3 e
    rw [e2]; exact this⟩
 | iptr fr cs off b o cur ty fz us h1 h2 h3 =>
  exact .iptr fr cs off b o cur ty fz us (by rw [hh]; exact h1) (hS fr b h2) fun j x hx => ⟨(h3 j x hx).1, hT fr _ _ (h3 j x hx).2⟩
 | agg cs us h1 h2 ih =>
  refine .agg _ _ (by rw [Nx]; exact h1) fun i c u hc' hu => ?_
  rw [Ny] at hc'
  cases hx : cs[i]? with
  | none => rw [hx] at hc'; cases hc'
  | some x =>
   rw [hx] at hc'
   simp only [Ai, Option.some.injEq] at hc'
   subst hc'
   exact ih i x u hx hu
 | tup cs us h1 h2 ih =>
  refine .tup _ _ (by rw [Nx]; exact h1) fun i c u hc' hu => ?_
  rw [Ny] at hc'
  cases hx : cs[i]? with
  | none => rw [hx] at hc'; cases hc'
  | some x =>
   rw [hx] at hc'
   simp only [Ai, Option.some.injEq] at hc'
   subst hc'
   exact ih i x u hx hu
 | fn f cs us h1 h2 ih =>
  refine .fn f _ _ (by rw [Nx]; exact h1) fun i c u hc' hu => ?_
  rw [Ny] at hc'
  cases hx : cs[i]? with
  | none => rw [hx] at hc'; cases hc'
  | some x =>
   rw [hx] at hc'
   simp only [Ai, Option.some.injEq] at hc'
   subst hc'
   exact ih i x u hx hu
 | gd t v u h1 h2 ih => exact .gd t _ u (fun e => ih e) h2
inductive LeS (ρ : Nat -> Option Nat) (l : List (Nat × AV)) : List (Nat × AV) -> Prop
  | nil : LeS ρ l []
  | cons {t : Nat} {c' : AV} {l' : List (Nat × AV)} : Le ((El l t).ren ρ) c' -> LeS ρ l l' -> LeS ρ l ((t, c') :: l')
theorem LeS.get {ρ : Nat -> Option Nat} {l l' : List (Nat × AV)} (h : LeS ρ l l') (t : Nat) : Le ((El l t).ren ρ) (El l' t) := by
 induction h with
 | nil => exact Le.any _
 | @cons t' c' l' h1 _ ih =>
  simp only [El]
  cases hb : t' == t with
  | true =>
   have : t' = t := by simpa using hb
   subst this
   exact h1
  | false => exact ih
structure Ae6 (st : St) (sel : List Nat) (st' : St) : Prop where
  sl : LeS (fun id => idx id sel 0) st.sl st'.sl
  ob : ∀ j, j < sel.length -> Tm ((st.o (sel.getD j 0)).ren fun id => idx id sel 0) (st'.o j)
  len : st'.ob.length = sel.length
  nd : sel.Nodup
theorem Rel.weakE {E : Ent} {β : Nat -> Option Nat} {st st' : St} {a : Act} {w : World} (r : Rel E β st a w) {sel : List Nat} (h : Ae6 st sel st') (hE : ∀ id, E.o0 id ≠ .gone -> sel[id]? = some id) : Rel E (fun j => (sel[j]?).bind β) st' a w := by
 let β' : Nat -> Option Nat := fun j => (sel[j]?).bind β
 show Rel E β' st' a w
 have hgone : ∀ j, sel.length <= j -> st'.o j = .gone := fun j hj => Gr st' j (by rw [h.len]; exact hj)
 have hle : ∀ j id, sel[j]? = some id -> Tm ((st.o id).ren fun id => idx id sel 0) (st'.o j) := fun j id hj => by
  have hlt : j < sel.length := (Ab.1 hj).1
  have := h.ob j hlt
  rw [Ad, hj] at this
  exact this
 have hng : ∀ j id, sel[j]? = some id -> st'.o j ≠ .gone -> st.o id ≠ .gone := fun j id hj hne e => by
  have := hle j id hj
  rw [e] at this
  simp only [Ob.ren] at this
  cases hq : st'.o j with
  | gone => exact hne hq
  | box ty cs => rw [hq] at this; cases this
  | row ty k fr fz es => rw [hq] at this; cases this
 have hsel : ∀ j, st'.o j ≠ .gone -> ∃ id, sel[j]? = some id := fun j hj => by
  by_cases hlt : j < sel.length
  ·exact ⟨_, Aa hlt⟩
  exact absurd (hgone j (by omega)) hj
 have hβ : ∀ j id, sel[j]? = some id -> β' j = β id := fun j id hj => by simp [β', hj]
 have hS : ∀ fr b, (E.C β st w).S fr b -> (E.C β' st' w).S fr b := fun fr b ⟨h1, h2, h3⟩ => by
  refine ⟨h1, fun ⟨j, g1, g2⟩ => h2 ?_, h3⟩
  have g1 : β' j = some b := g1
  have g2 : (st'.o j).live := g2
  obtain ⟨id, hj⟩ := hsel j fun e => by rw [e] at g2; exact g2
  rw [hβ j id hj] at g1
  refine ⟨id, g1, ?_⟩
  show (st.o id).live
  have hl := hle j id hj
  cases hq : st.o id with
  | gone => rw [hq] at hl; simp only [Ob.ren] at hl; cases hp : st'.o j with
   | gone => rw [hp] at g2; exact g2
   | box ty cs => rw [hp] at hl; cases hl
   | row ty k fr fz es => rw [hp] at hl; cases hl
  | box ty cs => trivial
  | row ty k fr fz es =>
   rw [hq] at hl
   simp only [Ob.ren] at hl
   cases hp : st'.o j with
   | gone => rw [hp] at hl; cases hl
   | box ty cs => rw [hp] at hl; cases hl
   | row ty' k' fr' fz' es' =>
    rw [hp] at hl g2
    cases hl with
    | row e1 e2 => exact e2 g2
 have hsim : ∀ id j, idx id sel 0 = some j -> Sim (st.o id) (st'.o j) /\ β' j = β id := fun id j hj => by
  obtain ⟨_, hj⟩ := X4 hj
  rw [Nat.sub_zero] at hj
  refine ⟨?_, hβ j id hj⟩
  have hl := hle j id hj
  cases hq : st.o id with
  | gone => trivial
  | box ty cs => rw [hq] at hl; simp only [Ob.ren] at hl; cases hp : st'.o j with
   | gone => rw [hp] at hl; cases hl
   | box ty' cs' => rw [hp] at hl; cases hl with
    | box e => exact ⟨_, rfl⟩
   | row ty k fr fz es => rw [hp] at hl; cases hl
  | row ty k fr fz es => rw [hq] at hl; simp only [Ob.ren] at hl; cases hp : st'.o j with
   | gone => rw [hp] at hl; cases hl
   | box ty cs => rw [hp] at hl; cases hl
   | row ty' k' fr' fz' es' => rw [hp] at hl; cases hl with
    | row e1 e2 => exact ⟨_, _, rfl⟩
 have hV : ∀ c u, Dv (E.C β st w) c u -> Dv (E.C β' st' w) (c.ren fun id => idx id sel 0) u := fun c u hc => Dv.ren (C := E.C β st w) (C' := E.C β' st' w) rfl hsim hS hc
 refine ⟨r.sz, fun t => h.sl.get t _ _ (hV _ _ (r.sl t)), r.df, fun j => ?_, ?_, ?_, r.kp, ?_, r.kb, r.dk⟩
 ·by_cases hj : st'.o j = .gone
  ·rw [hj]; trivial
  obtain ⟨id, hid⟩ := hsel j hj
  have hr := r.ob id
  have hl := hle j id hid
  cases hq : st.o id with
  | gone => exact absurd hq (hng j id hid hj)
  | box ty cs =>
   rw [hq] at hr hl
   simp only [Ob.ren] at hl
   obtain ⟨b, cur, q1, q2, q3, q4⟩ := hr
   cases hp : st'.o j with
   | gone => exact absurd hp hj
   | row ty k fr fz es => rw [hp] at hl; cases hl
   | box ty' cs' =>
    rw [hp] at hl
    cases hl with
    | box e =>
     refine ⟨b, cur, by show β' j = _; rw [hβ j id hid]; exact q1, q2, by rw [<- e.length, Nx]; exact q3, fun i c u hc hu => ?_⟩
     obtain ⟨c1, g1, g2⟩ := e.get hc
     rw [Ny] at g1
     cases hx : cs[i]? with
     | none => rw [hx] at g1; cases g1
     | some x =>
      rw [hx] at g1
      simp only [Ai, Option.some.injEq] at g1
      subst g1
      exact ⟨g2 _ _ (hV x u (q4 i x u hx hu).1), (q4 i x u hx hu).2⟩
  | row ty k fr fz es =>
   rw [hq] at hr hl
   simp only [Ob.ren] at hl
   obtain ⟨q1, q2⟩ := hr
   cases hp : st'.o j with
   | gone => exact absurd hp hj
   | box ty cs => rw [hp] at hl; cases hl
   | row ty' k' fr' fz' es' =>
    rw [hp] at hl
    cases hl with
    | row e1 e2 =>
     refine ⟨q1, ?_⟩
     have hb : (E.C β' st' w).β j = (E.C β st w).β id := hβ j id hid
     rw [hb]
     cases hbb : (E.C β st w).β id with
     | none => rw [hbb] at q2; exact q2
     | some b =>
      rw [hbb] at q2
      obtain ⟨cur, c, g1, g2, g3, g4, g5⟩ := q2
      refine ⟨cur, c, g1, g2, g3, g4, fun i e j x he hx => ?_⟩
      obtain ⟨u, p1, p2⟩ := g5 i e j x he hx
      exact ⟨u, p1, VC.T_weak (C := E.C β' st' w) (p2.keep (fun _ _ => rfl) (hS fr)) e1⟩
 ·intro i j b hi hj h1 h2
  obtain ⟨x, hx⟩ := hsel i hi
  obtain ⟨y, hy⟩ := hsel j hj
  rw [hβ i x hx] at h1
  rw [hβ j y hy] at h2
  have := r.inj x y b (hng i x hx hi) (hng j y hy hj) h1 h2
  subst this
  obtain ⟨hi', hx'⟩ := Ab.1 hx
  obtain ⟨hj', hy'⟩ := Ab.1 hy
  have hnd := List.pairwise_iff_getElem.1 h.nd
  rcases Nat.lt_trichotomy i j with hlt | he | hlt
  ·exact absurd (hx'.trans hy'.symm) (hnd i j hi' hj' hlt)
  ·exact he
  exact absurd (hy'.trans hx'.symm) (hnd j i hj' hi' hlt)
 ·intro i b hi h1
  obtain ⟨x, hx⟩ := hsel i hi
  rw [hβ i x hx] at h1
  exact r.rng x b (hng i x hx hi) h1
 refine ⟨fun id ty cs ho => ?_, fun id ty k fr fz es ho => ?_⟩
 ·have hid := hE id (by rw [ho]; simp)
  obtain ⟨⟨cs', q1⟩, q2⟩ := r.ct.box id ty cs ho
  have q1 : st.o id = _ := q1
  have hl := hle id id hid
  rw [q1] at hl
  simp only [Ob.ren] at hl
  cases hp : st'.o id with
  | gone => rw [hp] at hl; cases hl
  | row ty k fr fz es => rw [hp] at hl; cases hl
  | box ty' cs2 =>
   rw [hp] at hl
   cases hl with
   | box e => exact ⟨⟨_, hp⟩, by show β' id = _; rw [hβ id id hid]; exact q2⟩
 have hid := hE id (by rw [ho]; simp)
 obtain ⟨fr', fz', es', q1, q2, q3⟩ := r.ct.row id ty k fr fz es ho
 have q1 : st.o id = _ := q1
 have hl := hle id id hid
 rw [q1] at hl
 simp only [Ob.ren] at hl
 cases hp : st'.o id with
 | gone => rw [hp] at hl; cases hl
 | box ty cs => rw [hp] at hl; cases hl
 | row ty2 k2 fr2 fz2 es2 =>
  rw [hp] at hl
  cases hl with
  | row e1 e2 =>
   refine ⟨fr2, fz2, es', hp, q2, fun e => ?_⟩
   obtain ⟨g1, g2⟩ := q3 e
   exact ⟨by show β' id = _; rw [hβ id id hid]; exact g1, g2⟩
theorem Rel.weak {E : Ent} {β : Nat -> Option Nat} {st st' : St} {a : Act} {w : World} (r : Rel E β st a w) {sel : List Nat} (h : Ae6 st sel st') (hE : ∀ id, E.o0 id ≠ .gone -> sel[id]? = some id) : ∃ β', Rel E β' st' a w := ⟨_, r.weakE h hE⟩
theorem VW.weak {n m : Nat} {st : St} {K : Exit -> St -> Prop} {c : Code} {sel : List Nat} {st' : St} (h : Ae6 st sel st') (hm : ∀ id, id < m -> sel[id]? = some id) (hv : VW P n m c st' K) : VW P n m c st K := fun E F hE hF β a w r => by
 obtain ⟨β', r'⟩ := r.weak h fun id hid => hm id (Nat.lt_of_not_le fun hle => hid (hE.2 id hle))
 exact hv E F hE hF β' a w r'
def Wu (P : Program) (st : St) : ResultVar -> Eff
 | .tmp t => ⟨El st.sl t, [], True⟩
 | .cell a t => let e := Ja P t (El st.sl a).sv st.o; ⟨e.v, [], (El st.sl a).sb = true /\ e.c⟩
def J0 (P : Program) (st : St) (rs : List ResultVar) : AV := match rs with
 | [r] => (Wu P st r).v
 | rs => .tup (rs.map fun r => (Wu P st r).v)
def Tl (P : Program) (st : St) : List ResultVar -> Prop
 | [] => True
 | r :: rs => (Wu P st r).c /\ Tl P st rs
theorem An6 {E : Ent} {β : Nat -> Option Nat} {st : St} {a : Act} {w : World} (r : Rel E β st a w) {x : ResultVar} (hc : (Wu P st x).c) :
 ∃ v, ((match x with | .tmp t => pure (a.tmps.getD t undef) | .cell ad t => do loadVar t (<- asAddr (a.tmps.getD ad undef)) : Sem Value)).run P w = .ok v w /\ Dv (E.C β st w) (Wu P st x).v v := by
 cases x with
 | tmp t => exact ⟨_, rfl, Lm r (.tmp t)⟩
 | cell ad t =>
  obtain ⟨h1, h2⟩ := hc
  have hx := (Lm r (.tmp ad)).sv.1 h1
  obtain ⟨v, g1, g2, _⟩ := Ana (P := P) r hx h2
  refine ⟨v, ?_, g2⟩
  simp only [Act.eval] at g1
  revert g1
  simp only [Instr.loadAt]
  generalize a.tmps.getD ad undef = u
  intro g1
  cases u with
  | pointer A =>
   cases A with
   | some x => simpa [Instr.sureAddr, asAddr] using g1
   | none => simp [Instr.sureAddr] at g1
  | _ => simp [Instr.sureAddr] at g1
theorem Afp {E : Ent} {β : Nat -> Option Nat} {st : St} {a : Act} {w : World} (r : Rel E β st a w) {fn : Func} {rs : List ResultVar} (hrs : fn.results = rs.toArray) (hc : Tl P st rs) :
 ∃ v, (results fn a.tmps).run P w = .ok v w /\ Dv (E.C β st w) (J0 P st rs) v := by
 have hall : ∀ (rs : List ResultVar), Tl P st rs -> ∃ vs : List Value, (rs.mapM (fun x => (match x with | .tmp t => pure (a.tmps.getD t undef) | .cell ad t => do loadVar t (<- asAddr (a.tmps.getD ad undef)) : Sem Value))).run P w = .ok vs w /\ vs.length = rs.length /\
  ∀ (i : Nat) (x : ResultVar) (v : Value), rs[i]? = some x -> vs[i]? = some v -> Dv (E.C β st w) (Wu P st x).v v := by
  intro rs
  induction rs with
  | nil => intro _; exact ⟨[], rfl, rfl, fun i x v h => by simp at h⟩
  | cons x rs ih =>
   intro ⟨h1, h2⟩
   obtain ⟨v, g1, g2⟩ := An6 r h1
   obtain ⟨vs, q1, q2, q3⟩ := ih h2
   refine ⟨v :: vs, ?_, by simp [q2], fun i y u hy hu => ?_⟩
   ·rw [List.mapM_cons]
    simp only [Sem.run_bind]
    rw [g1]
    simp only [Result.andThen_ok]
    rw [q1]
    rfl
   cases i with
   | zero => simp at hy hu; subst hy hu; exact g2
   | succ i => simp at hy hu; exact q3 i y u hy hu
 obtain ⟨vs, h1, h2, h3⟩ := hall rs hc
 refine ⟨if h : vs.toArray.size = 1 then vs.toArray[0] else .tuple vs.toArray, ?_, ?_⟩
 ·unfold results
  rw [hrs, List.mapM_toArray]
  simp only [map_eq_pure_bind, bind_assoc, pure_bind, Sem.run_bind]
  exact congrArg (fun r => Result.andThen r fun (a : List Value) w' => Sem.run P (pure (if h : a.toArray.size = 1 then a.toArray[0] else Value.tuple a.toArray)) w') h1
 match rs, h2, h3 with
 | [], h2, h3 =>
  have : vs = [] := List.eq_nil_of_length_eq_zero h2
  subst this
  exact .tup _ _ rfl fun i c u h => by simp at h
 | [x], h2, h3 =>
  obtain ⟨v, rfl⟩ : ∃ v, vs = [v] := by
   match vs, h2 with
   | [v], _ => exact ⟨v, rfl⟩
  exact h3 0 x v rfl rfl
 | x :: y :: rs, h2, h3 =>
  have hne : ¬ vs.toArray.size = 1 := by simp at h2 ⊢; omega
  rw [dif_neg hne]
  refine .tup _ _ (by simp at h2 ⊢; omega) fun i c u hc hu => ?_
  rw [Ap] at hc
  cases hq : (x :: y :: rs)[i]? with
  | none => rw [hq] at hc; cases hc
  | some z =>
   rw [hq] at hc
   simp only [Ai, Option.some.injEq] at hc
   subst hc
   exact h3 i z u hq (by simpa using hu)
def P0 (P : Program) (m : Nat) (rs : List ResultVar) (σr : List Ob) (res : AV) (e : Exit) (st : St) : Prop :=
 (e = .normal \/ e = .ret) /\ Tl P st rs /\ ∃ sel, Ae6 ⟨[(0, J0 P st rs)], st.ob⟩ sel ⟨[(0, res)], σr⟩ /\ ∀ id, id < m -> sel[id]? = some id
theorem Rel.shut {E : Ent} {β : Nat -> Option Nat} {st : St} {a : Act} {w : World} (r : Rel E β st a w) {D : Nat} {ds : List Nat} (hds : E.ds = D :: ds) :
 Rel { E with ds := ds, kb := fun b => if b = D then none else E.kb b } β st ⟨a.tmps, ds.map dmk⟩ (w.putObj D (.deferred none)) := by
 have hD := r.dk.2 D (by rw [hds]; simp)
 have hDw := r.kb D _ hD.1
 have hsz : (w.putObj D (.deferred none)).heap.size = w.heap.size := by simp [World.putObj]
 have hfar : ∀ b, b ≠ D -> (w.putObj D (.deferred none)).heap[b]? = w.heap[b]? := fun b hb => World.putObj_heap_other hb
 have hcell : ∀ b cur ty fz, w.heap[b]? = some (.cells cur ty fz) -> b ≠ D := fun b cur ty fz h e => by
  subst e
  rw [h] at hDw
  have := hDw.2
  rw [show (.deferred (some []) : Obj) = .cells cur ty fz from (Option.some.inj hDw.1).symm] at this
  cases this
 have s : U1 (E.C β st w) (E.C β st (w.putObj D (.deferred none))) := by
  refine ⟨rfl, fun _ h => h, fun _ h => h, fun _ h => h, Nat.le_of_eq hsz.symm, fun b _ h => h, fun b cur ty fz _ _ h => (hfar b (hcell b _ _ _ h)).trans h, fun id ty cs h => ⟨⟨cs, h⟩, rfl⟩, fun id ty k fr fz es h => ⟨fr, fz, es, h, Aj _, fun _ => ⟨rfl, fun b cur hb hc => ⟨cur, (hfar b (hcell b _ _ _ hc)).trans hc, rfl⟩⟩⟩⟩
 refine ⟨r.sz, fun t => (r.sl t).stepW s, rfl, fun id => ?_, r.inj, fun i b hi hb => ?_, ?_, r.ct.stepW s, fun b o h => ?_, ?_⟩
 ·have hr := r.ob id
  cases hq : st.o id with
  | gone => trivial
  | box ty cs =>
   rw [hq] at hr
   refine hr.stepW s rfl fun b hb => ?_
   obtain ⟨b', cur, q1, q2, _⟩ := hr
   have q1 : β id = some b' := q1
   have hb : β id = some b := hb
   rw [hb] at q1
   injection q1 with q1
   subst q1
   exact hfar b (hcell b _ _ _ q2)
  | row ty k fr fz es =>
   rw [hq] at hr
   refine hr.stepW s rfl fun b hb => ?_
   have h2 := hr.2
   rw [hb] at h2
   obtain ⟨cur, c, q2, _⟩ := h2
   exact hfar b (hcell b _ _ _ q2)
 ·have := r.rng i b hi hb
  exact ⟨by rw [hsz]; exact this.1, this.2⟩
 ·have h := r.kp
  have h2 := hD.2
  exact ⟨h.os, h.tape, h.output, by have h3 := h.size; show E.w0.heap.size <= (w.putObj D (.deferred none)).heap.size; rw [hsz]; exact h3, fun b hb hm => (hfar b (by have hb : b < E.w0.heap.size := hb; omega)).trans (h.block b hb hm)⟩
 ·have h : (if b = D then none else E.kb b) = some o := h
  by_cases e : b = D
  ·rw [if_pos e] at h; cases h
  rw [if_neg e] at h
  exact ⟨(hfar b e).trans (r.kb b o h).1, (r.kb b o h).2⟩
 have h1 := r.dk.1
 rw [hds] at h1
 obtain ⟨h2, h3⟩ := List.nodup_cons.1 h1
 refine ⟨h3, fun D' hD' => ?_⟩
 have := r.dk.2 D' (by rw [hds]; simp [hD'])
 refine ⟨?_, this.2⟩
 show (if D' = D then none else E.kb D') = _
 rw [if_neg fun e => h2 (by rw [<- e]; exact hD')]
 exact this.1
theorem Zc {E0 : Ent} {fn : Func} {rs : List ResultVar} (hrs : fn.results = rs.toArray) {m : Nat} {σr : List Ob} {res : AV} (hE : ∀ id, m <= id -> E0.o0 id = .gone) (h0 : ∀ b o, E0.kb b = some o -> b < E0.w0.heap.size) (h0d : E0.ds = []) {R : Ending -> World -> Prop} (hR : ∀ v β' w', Rel { E0 with n := 1 } β' ⟨[(0, res)], σr⟩ ⟨#[v], []⟩ w' -> R (.returned v) w') : ∀ (ds : List Nat) (E : Ent) (β : Nat -> Option Nat) (st : St) (a : Act) (w : World), G4 { E0 with n := fn.ntmps } E -> E.ds = ds -> Rel E β st a w -> Tl P st rs -> (∃ sel, Ae6 ⟨[(0, J0 P st rs)], st.ob⟩ sel ⟨[(0, res)], σr⟩ /\ ∀ id, id < m -> sel[id]? = some id) ->
 LeavesInM Fence.wide 0 P fn a.tmps R (ds.map dmk) .returning w
 | [], E, β, st, a, w, hle, hds, r, hc, ⟨sel, hw, hm⟩ => by
  obtain ⟨v, g1, g2⟩ := Afp r hrs hc
  have hle' := hle
  obtain ⟨⟨ds1, kb1, rfl⟩, hkb⟩ := hle'
  have r3 : Rel { E0 with n := 1 } β ⟨[(0, J0 P st rs)], st.ob⟩ ⟨#[v], []⟩ w := by
   refine ⟨rfl, fun t => ?_, by show [] = E0.ds.map dmk; rw [h0d]; rfl, r.ob, r.inj, r.rng, r.kp, r.ct, fun b o h => r.kb b o (hkb b o h), by show E0.ds.Nodup /\ _; rw [h0d]; exact ⟨List.nodup_nil, fun D h => by cases h⟩⟩
   cases t with
   | zero => exact g2
   | succ t => exact .any _
  obtain ⟨β2, r4⟩ := r3.weak hw fun id hid => hm id (Nat.lt_of_not_le fun hle2 => hid (hE id hle2))
  exact ⟨v, g1, hR v β2 w r4⟩
 | D :: ds, E, β, st, a, w, hle, hds, r, hc, hw => by
  have hD := r.dk.2 D (by rw [hds]; simp)
  have hDw := (r.kb D _ hD.1).1
  refine ⟨by simp, .inl ⟨D, _, rfl, run_takeDeferred hDw, ?_⟩⟩
  have hle' := hle
  obtain ⟨⟨ds1, kb1, rfl⟩, hkb⟩ := hle'
  exact Zc hrs hE h0 h0d hR ds _ β st ⟨a.tmps, ds.map dmk⟩ _ ⟨⟨_, _, rfl⟩, fun b o h => by
   have h1 := h0 b o h
   have h2 : E0.w0.heap.size <= D := hD.2
   show (if b = D then none else kb1 b) = some o
   rw [if_neg (by omega)]
   exact hkb b o h⟩ rfl (r.shut hds) hc hw
theorem Abm {f : FuncId} {fn : Func} {c : Code} {args : List AV} {σa σr : List Ob} {res : AV} (hf : P.funcs[f]? = some fn) (hb : fn.body = some c) (hn : (fn.name == "runtime.NumGoroutine") = false) {rs : List ResultVar} (hrs : fn.results = rs.toArray) (hk : args.length <= fn.ntmps)
 (h : VW P fn.ntmps σa.length c ⟨Hc 0 args, σa⟩ (P0 P σa.length rs σr res)) : Ei P f σa args σr res := by
 refine ⟨⟨fn, hf, by rw [hb]; rfl, hn⟩, fun E β us hen ho hβ r => ?_⟩
 have hsz : us.size = args.length := r.sz.trans hen
 have hds : E.ds = [] := by
  have := r.df
  cases hq : E.ds with
  | nil => rfl
  | cons x xs => rw [hq] at this; cases this
 refine (callsIn_wide (n := 0)).1 (callsIn_of_wp_marks hf hb trivial ?_)
 have r' : Rel { E with n := fn.ntmps } β ⟨Hc 0 args, σa⟩ ⟨us ++ Array.replicate (fn.ntmps - us.size) undef, []⟩ E.w0 := by
  refine ⟨by simp [hsz]; omega, fun t => ?_, r.df, r.ob, r.inj, r.rng, r.kp, r.ct, r.kb, r.dk⟩
  have hr := r.sl t
  by_cases ht : t < us.size
  ·show Dv _ _ ((us ++ Array.replicate (fn.ntmps - us.size) undef).getD t undef)
   rw [Av, Bk ht, <- Av]
   exact hr
  have : El (Hc 0 args) t = .any := by
   rw [Kn, Nat.sub_zero, if_pos (Ae _), Ad, Ar (by omega)]; rfl
  show Dv _ (El (Hc 0 args) t) _
  rw [this]
  exact .any _
 have hE : ∀ id, σa.length <= id -> E.o0 id = .gone := fun id hid => by
  rw [ho]
  exact Gr ⟨[], σa⟩ id hid
 have h0 : ∀ b o, E.kb b = some o -> b < E.w0.heap.size := fun b o h => (Aw.1 (r.kb b o h).1).1
 refine wpIn_mono (h { E with n := fn.ntmps } Fence.wide ⟨rfl, hE⟩ (.inl rfl) β _ _ r') fun e a w ⟨E', s, β1, hle, h1, h2⟩ => ?_
 obtain ⟨he, hc, hw⟩ := h1
 have key : LeavesInM Fence.wide 0 P fn a.tmps (fun e w' => ∃ v β', e = .returned v /\ Rel { E with n := 1 } β' ⟨[(0, res)], σr⟩ ⟨#[v], []⟩ w') a.defers .returning w := by
  rw [h2.df]
  exact Zc (E0 := E) hrs hE h0 hds (fun v β' w' h => ⟨v, β', rfl, h⟩) E'.ds E' β1 s a w hle rfl h2 hc hw
 rcases he with rfl | rfl <;> exact key
end
section
variable {P : Program} {d : Option Tmp} {ty : TypeId} {os : List VO} {st : St} {K : St -> Prop}
theorem Ap2 : runs P [] st K = K st := rfl
def Ap5 (P : Program) (d : Option Tmp) (op : Op) (ty : TypeId) (v : AV) (want : Bool) (os : List VO) (st : St) (K : St -> Prop) : Prop :=
 Hh v.sv = true /\ ((v.sb && (Ew v.sv == want)) = true -> G5 P op ty st st.ob.length) /\
  runs P os (st.after d (.gd (v.sb && (Ew v.sv == want)) (Hv P op ty st st.ob.length).1) (bif (v.sb && (Ew v.sv == want)) then (Hv P op ty st st.ob.length).2 else [])) K
def Ar6 (P : Program) (d : Option Tmp) (op : Op) (ty : TypeId) (os : List VO) (st : St) (K : St -> Prop) : Prop :=
 ∃ e : AV × List (Nat × Ob), Sx P op ty st st.ob.length e /\ runs P os (st.after d e.1 e.2) K
def Wz (P : Program) (d : Option Tmp) (op : Op) (ty : TypeId) (v : AV) (want : Bool) (os : List VO) (st : St) (K : St -> Prop) : Prop :=
 Hh v.sv = true /\ ∃ e : AV × List (Nat × Ob), ((v.sb && (Ew v.sv == want)) = true -> Sx P op ty st st.ob.length e) /\ runs P os (st.after d (.gd (v.sb && (Ew v.sv == want)) e.1) (bif (v.sb && (Ew v.sv == want)) then e.2 else [])) K
theorem Ask {op : Op} : runs P (⟨d, op, ty, .no⟩ :: os) st K = if Et op = true then Ar6 P d op ty os st K else (G5 P op ty st st.ob.length /\ runs P os (st.after d (Hv P op ty st st.ob.length).1 (Hv P op ty st st.ob.length).2) K) := by
 simp only [runs, St.gc, St.gb, St.afterG, true_and, forall_const, Ar6]
theorem Asl {op : Op} {t : Tmp} {want : Bool} : runs P (⟨d, op, ty, .at t want⟩ :: os) st K = if Et op = true then Wz P d op ty (El st.sl t) want os st K else Ap5 P d op ty (El st.sl t) want os st K := by
 simp only [runs, St.gc, St.gb, St.afterG, Ap5, Wz]
 split <;> simp only [and_true, true_and]
theorem Ei.le {f : FuncId} {σa : List Ob} {args args' : List AV} {σr : List Ob} {res : AV} (h : Ei P f σa args' σr res) (ha : LeL args args') : Ei P f σa args σr res := by
 refine ⟨h.1, fun E β us hn ho hβ r => h.2 E β us (by rw [hn, ha.length]) ho hβ ⟨r.sz, fun t => ?_, r.df, r.ob, r.inj, r.rng, r.kp, r.ct, r.kb, r.dk⟩⟩
 have hr := r.sl t
 have hr : Dv (E.C β ⟨Hc 0 args', σa⟩ E.w0) (El (Hc 0 args) t) (us.getD t undef) := hr
 show Dv _ (El (Hc 0 args') t) _
 rw [Kn, Nat.sub_zero, if_pos (Ae _), Ad] at hr ⊢
 cases hq : args'[t]? with
 | none => exact .any _
 | some c' =>
  obtain ⟨c, g1, g2⟩ := ha.get hq
  rw [g1] at hr
  exact g2 _ _ hr
section
variable {nid : Nat} {x y z c a b : Operand} {t u : TypeId}
theorem Ao0 : G5 P (.move x) ty st nid = ((st.raw x).sb = true /\ True) := rfl
theorem Aou : Hv P (.move x) ty st nid = (Ae1 P ty (st.raw x).sv, []) := rfl
theorem Akn : G5 P (.assign x) ty st nid = ((st.raw x).sb = true /\ True) := rfl
theorem Akl : Hv P (.assign x) ty st nid = (Ae1 P ty (st.raw x).sv, []) := rfl
theorem Amj : G5 P (.alloc t) ty st nid = (zok P t = true) := by simp [G5, Ox, vop, Ak6, Op.operands]
theorem Ame : Hv P (.alloc t) ty st nid = (.ptr nid 0, [(nid, .box t (Gv P t))]) := rfl
theorem Ar0 : G5 P (.box t x) ty st nid = ((st.raw x).sb = true /\ ∀ c ∈ (st.raw x).sv.cl, c.one = true) := rfl
theorem Arw : Hv P (.box t x) ty st nid = (.ptr nid 0, [(nid, .box t (st.raw x).sv.cl)]) := rfl
theorem Ao2 : G5 P (.load t x) ty st nid = ((st.raw x).sb = true /\ (Ja P t (st.raw x).sv st.o).c) := rfl
theorem Aow : Hv P (.load t x) ty st nid = ((Ja P t (st.raw x).sv st.o).v, (Ja P t (st.raw x).sv st.o).up) := rfl
theorem Amf : G5 P (.store t x y) ty st nid = (((st.raw x).sb = true /\ (st.raw y).sb = true) /\ (Ho P t (st.raw x).sv (Ae1 P t (st.raw y).sv) st.o).c) := rfl
theorem Ama : Hv P (.store t x y) ty st nid = ((Ho P t (st.raw x).sv (Ae1 P t (st.raw y).sv) st.o).v, (Ho P t (st.raw x).sv (Ae1 P t (st.raw y).sv) st.o).up) := rfl
theorem Ae4 : G5 P (.nilCheck x) ty st nid = ((st.raw x).sb = true /\ (Aec (st.raw x).sv).c) := rfl
theorem Ae2 : Hv P (.nilCheck x) ty st nid = ((Aec (st.raw x).sv).v, (Aec (st.raw x).sv).up) := rfl
theorem Ami {op : BinOp} : G5 P (.binOp op t x y u) ty st nid = (((st.raw x).sb = true /\ (st.raw y).sb = true) /\ (Ago P op t (st.raw x).sv (st.raw y).sv).c) := rfl
theorem Amd {op : BinOp} : Hv P (.binOp op t x y u) ty st nid = ((Ago P op t (st.raw x).sv (st.raw y).sv).v, (Ago P op t (st.raw x).sv (st.raw y).sv).up) := rfl
theorem Aoy {op : UnOp} : G5 P (.unOp op t x) ty st nid = ((st.raw x).sb = true /\ (vun op (st.raw x).sv).c) := rfl
theorem Aos {op : UnOp} : Hv P (.unOp op t x) ty st nid = ((vun op (st.raw x).sv).v, (vun op (st.raw x).sv).up) := rfl
theorem Ah2 : G5 P (.convert t u x) ty st nid = ((st.raw x).sb = true /\ (P9 P t u (st.raw x).sv st.o).c) := rfl
theorem Ahw : Hv P (.convert t u x) ty st nid = ((P9 P t u (st.raw x).sv st.o).v, (P9 P t u (st.raw x).sv st.o).up) := rfl
theorem Adv {f : Nat} : G5 P (.fieldAddr t x f) ty st nid = ((st.raw x).sb = true /\ (Og P t (st.raw x).sv f st.o).c) := rfl
theorem Adr {f : Nat} : Hv P (.fieldAddr t x f) ty st nid = ((Og P t (st.raw x).sv f st.o).v, (Og P t (st.raw x).sv f st.o).up) := rfl
theorem Adu : G5 P (.indexAddr t x y) ty st nid = (((st.raw x).sb = true /\ (st.raw y).sb = true) /\ (Of P t (st.raw x).sv (st.raw y).sv st.o).c) := rfl
theorem Adq : Hv P (.indexAddr t x y) ty st nid = ((Of P t (st.raw x).sv (st.raw y).sv st.o).v, (Of P t (st.raw x).sv (st.raw y).sv st.o).up) := rfl
theorem Ah1 {i : Nat} : G5 P (.extract x i) ty st nid = ((st.raw x).sb = true /\ (Agm (st.raw x).sv i).c) := rfl
theorem Ahv {i : Nat} : Hv P (.extract x i) ty st nid = ((Agm (st.raw x).sv i).v, (Agm (st.raw x).sv i).up) := rfl
theorem Aoz : G5 P (.pick c a b) ty st nid = (W8 (st.raw c) (st.raw a) (st.raw b)).c := rfl
theorem Aot : Hv P (.pick c a b) ty st nid = ((W8 (st.raw c) (st.raw a) (st.raw b)).v, []) := rfl
theorem Amh {ps : List (Nat × Operand)} : G5 P (.build t ps.toArray) ty st nid = ((ps.all fun p => (st.raw p.2).sb) = true /\ (Yn P t (ps.map fun p => (p.1, (st.raw p.2).sv))).c) := by simp [G5, Ox, vop, Op.operands]
theorem Amc {ps : List (Nat × Operand)} : Hv P (.build t ps.toArray) ty st nid = (.agg (Z8 (tpl P t) (Gv P t) (ps.map fun p => (p.1, (st.raw p.2).sv))), []) := rfl
theorem Abd {n : Nat} {ps : List (Nat × Operand)} : G5 P (.buildSlice t n ps.toArray) ty st nid = ((ps.all fun p => (st.raw p.2).sb) = true /\ (Zq P t n (ps.map fun p => (p.1, (st.raw p.2).sv)) nid).c) := by simp [G5, Ox, vop, Op.operands]
theorem Abc {n : Nat} {ps : List (Nat × Operand)} : Hv P (.buildSlice t n ps.toArray) ty st nid = ((Zq P t n (ps.map fun p => (p.1, (st.raw p.2).sv)) nid).v, (Zq P t n (ps.map fun p => (p.1, (st.raw p.2).sv)) nid).up) := rfl
theorem Ae5 {f : FuncId} {fi cs : List Operand} : G5 P (.makeFunc (.func f) fi.toArray cs.toArray) ty st nid = ((fi.all fun x => (st.raw x).sb) = true /\ (cs.all fun x => (st.raw x).sb) = true /\ fi = []) := by simp [G5, Ox, vop, Op.operands, and_assoc]
theorem Ae3 {f : FuncId} {fi cs : List Operand} : Hv P (.makeFunc (.func f) fi.toArray cs.toArray) ty st nid = (.fn f (cs.map fun x => (st.raw x).sv), []) := rfl
theorem Adt : G5 P (.makeSlice t x y) ty st nid = (((st.raw x).sb = true /\ (st.raw y).sb = true) /\ (S2 P t (st.raw x).sv (st.raw y).sv nid).c) := by simp [G5, Ox, vop, Op.operands]
theorem Adp : Hv P (.makeSlice t x y) ty st nid = ((S2 P t (st.raw x).sv (st.raw y).sv nid).v, (S2 P t (st.raw x).sv (st.raw y).sv nid).up) := rfl
theorem Ah0 : G5 P (.slice t x none none none) ty st nid = ((st.raw x).sb = true /\ (Hp P t (st.raw x).sv none none st.o).c) := by simp [G5, Ox, vop, Op.operands]
theorem Ahu : Hv P (.slice t x none none none) ty st nid = ((Hp P t (st.raw x).sv none none st.o).v, (Hp P t (st.raw x).sv none none st.o).up) := rfl
theorem Ahy : G5 P (.slice t x (some y) none none) ty st nid = (((st.raw x).sb = true /\ (st.raw y).sb = true) /\ (Hp P t (st.raw x).sv (some (st.raw y).sv) none st.o).c) := by simp [G5, Ox, vop, Op.operands]
theorem Ahs : Hv P (.slice t x (some y) none none) ty st nid = ((Hp P t (st.raw x).sv (some (st.raw y).sv) none st.o).v, (Hp P t (st.raw x).sv (some (st.raw y).sv) none st.o).up) := rfl
theorem Ahz : G5 P (.slice t x none (some y) none) ty st nid = (((st.raw x).sb = true /\ (st.raw y).sb = true) /\ (Hp P t (st.raw x).sv none (some (st.raw y).sv) st.o).c) := by simp [G5, Ox, vop, Op.operands]
theorem Aht : Hv P (.slice t x none (some y) none) ty st nid = ((Hp P t (st.raw x).sv none (some (st.raw y).sv) st.o).v, (Hp P t (st.raw x).sv none (some (st.raw y).sv) st.o).up) := rfl
theorem Ahx : G5 P (.slice t x (some y) (some z) none) ty st nid = (((st.raw x).sb = true /\ (st.raw y).sb = true /\ (st.raw z).sb = true) /\ (Hp P t (st.raw x).sv (some (st.raw y).sv) (some (st.raw z).sv) st.o).c) := by simp [G5, Ox, vop, Op.operands]
theorem Ahr : Hv P (.slice t x (some y) (some z) none) ty st nid = ((Hp P t (st.raw x).sv (some (st.raw y).sv) (some (st.raw z).sv) st.o).v, (Hp P t (st.raw x).sv (some (st.raw y).sv) (some (st.raw z).sv) st.o).up) := rfl
theorem Arz : G5 P (.call ⟨.builtin .len, #[x], #[t]⟩) ty st nid = ((st.raw x).sb = true /\ (Aag P t (st.raw x).sv st.o).c) := by simp [G5, Ox, vop, Op.operands, Call.operands]
theorem Arv : Hv P (.call ⟨.builtin .len, #[x], #[t]⟩) ty st nid = ((Aag P t (st.raw x).sv st.o).v, (Aag P t (st.raw x).sv st.o).up) := rfl
theorem Ako : G5 P (.call ⟨.builtin .append, #[x, y], #[t, t]⟩) ty st nid = (((st.raw x).sb = true /\ (st.raw y).sb = true) /\ (Yo P t (st.raw x).sv (st.raw y).sv st.o nid).c) := by simp [G5, Ox, vop, Op.operands, Call.operands]
theorem Akm : Hv P (.call ⟨.builtin .append, #[x, y], #[t, t]⟩) ty st nid = ((Yo P t (st.raw x).sv (st.raw y).sv st.o nid).v, (Yo P t (st.raw x).sv (st.raw y).sv st.o nid).up) := rfl
theorem Amg : G5 P (.call ⟨.builtin .clear, #[x], #[t]⟩) ty st nid = ((st.raw x).sb = true /\ (Oh P t (st.raw x).sv st.o).c) := by simp [G5, Ox, vop, Op.operands, Call.operands]
theorem Amb : Hv P (.call ⟨.builtin .clear, #[x], #[t]⟩) ty st nid = ((Oh P t (st.raw x).sv st.o).v, (Oh P t (st.raw x).sv st.o).up) := rfl
theorem Ao3 : G5 P (.call ⟨.builtin .copy, #[x, y], #[t, u]⟩) ty st nid = (((st.raw x).sb = true /\ (st.raw y).sb = true) /\ (S3 P t (st.raw x).sv (st.raw y).sv st.o).c) := by simp [G5, Ox, vop, Op.operands, Call.operands]
theorem Aox : Hv P (.call ⟨.builtin .copy, #[x, y], #[t, u]⟩) ty st nid = ((S3 P t (st.raw x).sv (st.raw y).sv st.o).v, (S3 P t (st.raw x).sv (st.raw y).sv st.o).up) := rfl
theorem Arx {ts : Array TypeId} : G5 P (.call ⟨.builtin .min, #[x, y], ts⟩) ty st nid = (((st.raw x).sb = true /\ (st.raw y).sb = true) /\ (Gx false (st.raw x).sv (st.raw y).sv).c) := by simp [G5, Ox, vop, Op.operands, Call.operands]
theorem Art {ts : Array TypeId} : Hv P (.call ⟨.builtin .min, #[x, y], ts⟩) ty st nid = ((Gx false (st.raw x).sv (st.raw y).sv).v, (Gx false (st.raw x).sv (st.raw y).sv).up) := rfl
theorem Ao1 {ts : Array TypeId} : G5 P (.call ⟨.builtin .min, #[x, y, z], ts⟩) ty st nid = (((st.raw x).sb = true /\ (st.raw y).sb = true /\ (st.raw z).sb = true) /\ (Gx false (st.raw x).sv (st.raw y).sv).c /\ (Gx false (Gx false (st.raw x).sv (st.raw y).sv).v (st.raw z).sv).c) := by simp [G5, Ox, vop, Apd, Op.operands, Call.operands]
theorem Aov {ts : Array TypeId} : Hv P (.call ⟨.builtin .min, #[x, y, z], ts⟩) ty st nid = ((Gx false (Gx false (st.raw x).sv (st.raw y).sv).v (st.raw z).sv).v, []) := rfl
theorem Ary {ts : Array TypeId} : G5 P (.call ⟨.builtin .max, #[x, y], ts⟩) ty st nid = (((st.raw x).sb = true /\ (st.raw y).sb = true) /\ (Gx true (st.raw x).sv (st.raw y).sv).c) := by simp [G5, Ox, vop, Op.operands, Call.operands]
theorem Aru {ts : Array TypeId} : Hv P (.call ⟨.builtin .max, #[x, y], ts⟩) ty st nid = ((Gx true (st.raw x).sv (st.raw y).sv).v, (Gx true (st.raw x).sv (st.raw y).sv).up) := rfl
theorem Aqy : Et (.move x) = false := rfl
theorem Alz : Et (.assign x) = false := rfl
theorem Aoi : Et (.alloc t) = false := rfl
theorem As3 : Et (.box t x) = false := rfl
theorem Aqz : Et (.load t x) = false := rfl
theorem Aod : Et (.store t x y) = false := rfl
theorem Ahg : Et (.nilCheck x) = false := rfl
theorem Aoh {op : BinOp} : Et (.binOp op t x y u) = false := rfl
theorem Aqw {op : UnOp} : Et (.unOp op t x) = false := rfl
theorem Aj1 : Et (.convert t u x) = false := rfl
theorem Ae0 {f : Nat} : Et (.fieldAddr t x f) = false := rfl
theorem Aez : Et (.indexAddr t x y) = false := rfl
theorem Aj0 {f : Nat} : Et (.extract x f) = false := rfl
theorem Aqx : Et (.pick c a b) = false := rfl
theorem Aog {ps : Array (Nat × Operand)} : Et (.build t ps) = false := rfl
theorem Adc {f : Nat} {ps : Array (Nat × Operand)} : Et (.buildSlice t f ps) = false := rfl
theorem Ahh {f : Fn} {fi cs : Array Operand} : Et (.makeFunc f fi cs) = false := rfl
theorem Aey : Et (.makeSlice t x y) = false := rfl
theorem Aoe {l1 l2 l3 : Option Operand} : Et (.slice t x l1 l2 l3) = false := rfl
theorem Aof {f : Builtin} {fi : Array Operand} {ts : Array TypeId} : Et (.call ⟨.builtin f, fi, ts⟩) = false := rfl
theorem Aq0 {fo : Operand} {fi : Array Operand} {ts : Array TypeId} : Et (.call ⟨.value fo, fi, ts⟩) = true := rfl
end
theorem Ass {t : Tmp} : st.raw (.tmp t) = El st.sl t := rfl
theorem Asu {k : IntKind} {n : Int} : st.raw (.const (.int k n)) = .lit (.int k n) := rfl
theorem Aqi {b : Bool} : st.raw (.const (.bool b)) = .lit (.bool b) := rfl
theorem Alo {b : ByteArray} : st.raw (.const (.string b)) = .lit (.string b) := rfl
theorem Ast : st.raw (.const (.slice none 0 0)) = .nil 0 := rfl
theorem Aqh {f : FuncId} : st.raw (.func f) = .fn f [] := rfl
theorem Aoc {p : Nat × AV} {l : List (Nat × AV)} {t : Nat} : El (p :: l) t = bif p.1 == t then p.2 else El l t := rfl
theorem Al8 {t : Tmp} {v : AV} {up : List (Nat × Ob)} {sl : List (Nat × AV)} {ob : List Ob} : (St.mk sl ob).after (some t) v up = (St.mk ((t, v) :: sl) ob).sets up := rfl
theorem Al9 {v : AV} {up : List (Nat × Ob)} : st.after none v up = st.sets up := rfl
theorem Apv : st.sets [] = st := rfl
theorem Anv {id : Nat} {o : Ob} {l : List (Nat × Ob)} {sl : List (Nat × AV)} {ob : List Ob} : (St.mk sl ob).sets ((id, o) :: l) = (St.mk sl (Nw ob id o)).sets l := rfl
theorem Axv {sl : List (Nat × AV)} {ob : List Ob} {id : Nat} : (St.mk sl ob).o id = ob.getD id .gone := rfl
theorem Apx {x : Ob} : Nw [] 0 x = [x] := rfl
theorem Anx {y x : Ob} {l : List Ob} : Nw (y :: l) 0 x = x :: l := rfl
theorem Any {y x : Ob} {l : List Ob} {n : Nat} : Nw (y :: l) (n + 1) x = y :: Nw l n x := rfl
theorem Apy {α : Type} (cs : List α) (n : Nat) : Jt cs n [] = cs := rfl
theorem An0 {α : Type} (cs : List α) (n : Nat) (v : α) (vs : List α) : Jt cs n (v :: vs) = Jt (cs.set n v) (n + 1) vs := rfl
attribute [go_sem] Ap2 Ask Asl Ap5 Aqy Alz Aoi As3 Aqz Aod Ahg Aoh Aqw Aj1 Ae0 Aez Aj0 Aqx Aog Adc Ahh Aey Aoe Aof Aq0 Fy Mj St.gb St.gc Ao0 Aou Akn Akl Amj Ame Ar0 Arw Ao2 Aow Amf Ama Ae4 Ae2 Ami Amd Aoy Aos Ah2 Ahw Adv Adr Adu Adq Ah1 Ahv Aoz Aot Amh Amc Abd Abc Ae5 Ae3 Adt Adp Ah0 Ahu Ahy Ahs Ahz Aht Ahx Ahr Arz Arv Ako Akm Amg Amb Ao3 Aox Arx Art Ary Aru Ass Asu Aqi Alo Ast Aqh Aoc Al8 Al9 Apv Anv Axv Apx Anx Any Apy An0 Ao1 Aov
attribute [go_sem] AV.sv AV.sb AV.cl AV.one AV.toT AV.laid AV.fresh Ae1 Fg Mu Ew Hh Ja Ho Aec Ago Ak3 vun P9 Og Of Agm W8 Yn Zq S2 Hp Aag L7 Yo Pl Oh Ky S3 Nn Gx ldv ldc Eff.bad T.av F7 O4 Aa2 Kj An5 Q8 Fp Py Rd Z8 Ang El Hc
theorem Axr {rs : List ResultVar} {res : AV} (hc : Tl P st rs) (h : Le ((J0 P st rs).ren fun _ => none) res) : P0 P 0 rs [] res .ret st :=
 ⟨.inr rfl, hc, [], ⟨.cons h .nil, fun j hj => by simp at hj, rfl, List.nodup_nil⟩, fun id hid => by omega⟩
attribute [go_sem] Tl Wu J0 AV.ren Mq
attribute [go_sem] List.map_cons List.map_nil List.getElem?_toArray Bb List.getElem?_cons_zero Option.bind_some true_and and_true eq_self Bl if_false if_true cond_true cond_false List.getD_cons_zero List.getD_cons_succ A6 List.length_nil List.all_cons List.all_nil
abbrev AV.li (x : Int) : AV := .lit (.int .i64 x)
abbrev T.li (x : Int) : T := .lit (.int .i64 x)
abbrev AV.lb (x : Bool) : AV := .lit (.bool x)
abbrev T.lb (x : Bool) : T := .lit (.bool x)
attribute [go_sem] AV.li T.li AV.lb T.lb
end
section
variable {P : Program}
theorem Adg {cs : List AV} {c : AV} (h : c ∈ cs) {x : Nat} (hx : x ∈ c.ids) : x ∈ Gl cs := by
 induction cs with
 | nil => cases h
 | cons d ds ih =>
  cases h with
  | head => simp [Gl, hx]
  | tail _ h => simp [Gl, ih h]
theorem Aj5 (a b : List AV) : Gl (a ++ b) = Gl a ++ Gl b := by
 induction a with
 | nil => rfl
 | cons c cs ih => simp [Gl, ih]
theorem Ag3 : ∀ (v : AV) {x : Nat}, x ∈ v.sv.ids -> x ∈ v.ids
 | .gd t v, x, h => by simp only [AV.ids]; exact Ag3 v h
 | .any, x, h => h
 | .lit _, x, h => h
 | .nil _, x, h => h
 | .imm _ _ _, x, h => h
 | .own _ _, x, h => h
 | .sub _ _ _ _, x, h => h
 | .ptr _ _, x, h => h
 | .rptr _ _ _ _, x, h => h
 | .bsl _ _, x, h => h
 | .iptr _ _ _, x, h => h
 | .agg _, x, h => h
 | .tup _, x, h => h
 | .fn _ _, x, h => h
mutual
theorem Alu {o o' : Nat -> Ob} : ∀ (c : AV), (∀ id ∈ c.ids, o id = o' id) -> c.pass o = c.pass o' /\ c.passC o = c.passC o'
 | .own id n, h => by have := h id (by simp [AV.ids]); simp [AV.pass, AV.passC, this]
 | .sub id n lo m, h => by have := h id (by simp [AV.ids]); simp [AV.pass, AV.passC, this]
 | .agg cs, h => by have := J6 cs (by simpa only [AV.ids] using h); simp [AV.pass, AV.passC, this]
 | .tup cs, h => by have := J6 cs (by simpa only [AV.ids] using h); simp [AV.pass, AV.passC, this]
 | .fn f cs, h => by have := J6 cs (by simpa only [AV.ids] using h); simp [AV.pass, AV.passC, this]
 | .any, h => by simp [AV.pass, AV.passC]
 | .lit _, h => by simp [AV.pass, AV.passC]
 | .nil _, h => by simp [AV.pass, AV.passC]
 | .imm _ _ _, h => by simp [AV.pass, AV.passC]
 | .ptr _ _, h => by simp [AV.pass, AV.passC]
 | .rptr _ _ _ _, h => by simp [AV.pass, AV.passC]
 | .bsl _ _, h => by simp [AV.pass, AV.passC]
 | .iptr _ _ _, h => by simp [AV.pass, AV.passC]
 | .gd _ _, h => by simp [AV.pass, AV.passC]
theorem J6 {o o' : Nat -> Ob} : ∀ (cs : List AV), (∀ id ∈ Gl cs, o id = o' id) -> Jd o cs = Jd o' cs /\ I6 o cs = I6 o' cs
 | [], h => by simp [Jd, I6]
 | c :: cs, h => by
  have h1 := Alu c fun id hid => h id (by simp [Gl, hid])
  have h2 := J6 cs fun id hid => h id (by simp [Gl, hid])
  simp [Jd, I6, h1, h2]
end
theorem U8 {o o' : Nat -> Ob} {x : AV} (h : ∀ id ∈ x.ids, o id = o' id) : F7 o x = F7 o' x /\ O4 o x = O4 o' x /\ ∀ k, Aa2 o k x = Aa2 o' k x := by
 cases x <;> simp [F7, O4, Aa2] <;> simp [AV.ids] at h <;> simp [h]
theorem Aih {o o' : Nat -> Ob} {t : TypeId} {x : AV} (h : ∀ id ∈ x.ids, o id = o' id) : Ja P t x o = Ja P t x o' := by
 cases x <;> simp only [Ja] <;> simp [AV.ids] at h <;> simp [h]
theorem Agh {o o' : Nat -> Ob} {t : TypeId} {x v : AV} (h : ∀ id ∈ x.ids, o id = o' id) : Ho P t x v o = Ho P t x v o' := by
 cases x <;> simp only [Ho] <;> simp [AV.ids] at h <;> simp [h]
theorem Agl {o o' : Nat -> Ob} {t : TypeId} {x : AV} {f : Nat} (h : ∀ id ∈ x.ids, o id = o' id) : Og P t x f o = Og P t x f o' := by
 cases x <;> simp only [Og] <;> simp [AV.ids] at h <;> simp [h]
theorem Agj {o o' : Nat -> Ob} {t : TypeId} {x i : AV} (h : ∀ id ∈ x.ids, o id = o' id) : Of P t x i o = Of P t x i o' := by
 cases x <;> simp only [Of] <;> simp [AV.ids] at h <;> simp [h]
theorem Agi {o o' : Nat -> Ob} {t : TypeId} {x : AV} {lo hi : Option AV} (h : ∀ id ∈ x.ids, o id = o' id) : Hp P t x lo hi o = Hp P t x lo hi o' := by
 cases x <;> simp only [Hp] <;> simp [AV.ids] at h <;> simp [h]
theorem Ak4 {o o' : Nat -> Ob} {t : TypeId} {x : AV} (h : ∀ id ∈ x.ids, o id = o' id) : Aag P t x o = Aag P t x o' := by
 cases x <;> simp only [Aag] <;> simp [AV.ids] at h <;> simp [h]
theorem Aik {o o' : Nat -> Ob} {t u : TypeId} {x : AV} (h : ∀ id ∈ x.ids, o id = o' id) : P9 P t u x o = P9 P t u x o' := by
 obtain ⟨h1, h2, h3⟩ := U8 h
 unfold P9
 split
 ·rfl
 simp only [h1, h3]
theorem Aed {o o' : Nat -> Ob} {t : TypeId} {d x : AV} {nid : Nat} (hd : ∀ id ∈ d.ids, o id = o' id) (h : ∀ id ∈ x.ids, o id = o' id) : L7 P t d x o nid = L7 P t d x o' nid := by
 obtain ⟨h1, h2, h3⟩ := U8 h
 cases d <;> simp only [L7, h1, h2, h3] <;> simp [AV.ids] at hd <;> simp [hd]
theorem Ak5 {o o' : Nat -> Ob} {t : TypeId} {d x : AV} {nid : Nat} (hd : ∀ id ∈ d.ids, o id = o' id) (h : ∀ id ∈ x.ids, o id = o' id) : Yo P t d x o nid = Yo P t d x o' nid := by
 unfold Yo
 split
 ·obtain ⟨h1, h2, h3⟩ := U8 h
  simp [AV.ids] at hd
  simp only [Pl, h1, h2, h3, hd]
 exact Aed hd h
theorem Agn {o o' : Nat -> Ob} {t : TypeId} {d : AV} (hd : ∀ id ∈ d.ids, o id = o' id) : Oh P t d o = Oh P t d o' := by
 cases d <;> simp only [Oh, Ky] <;> simp [AV.ids] at hd <;> simp [hd]
theorem Aij {o o' : Nat -> Ob} {t : TypeId} {d x : AV} (hd : ∀ id ∈ d.ids, o id = o' id) (h : ∀ id ∈ x.ids, o id = o' id) : S3 P t d x o = S3 P t d x o' := by
 obtain ⟨h1, h2, h3⟩ := U8 h
 cases d <;> simp only [S3, Nn, h1, h2, h3] <;> simp [AV.ids] at hd <;> simp [hd]
theorem Anq {op : Op} {ty : TypeId} {raw : Operand -> AV} {o o' : Nat -> Ob} {nid : Nat} (h : ∀ x ∈ op.operands, ∀ id ∈ (raw x).ids, o id = o' id) : vop P op ty raw o nid = vop P op ty raw o' nid := by
 have hs : ∀ x ∈ op.operands, ∀ id ∈ (raw x).sv.ids, o id = o' id := fun x hx id hid => h x hx id (Ag3 _ hid)
 cases op with
 | load t x => exact Aih (hs x (by simp [Op.operands]))
 | store t x y => exact Agh (hs x (by simp [Op.operands]))
 | fieldAddr s x f => exact Agl (hs x (by simp [Op.operands]))
 | indexAddr t x i => exact Agj (hs x (by simp [Op.operands]))
 | convert s d x => exact Aik (hs x (by simp [Op.operands]))
 | slice t x lo hi mx => cases mx with
  | none => exact Agi (hs x (by simp [Op.operands]))
  | some m => rfl
 | call c =>
  obtain ⟨callee, args, ts⟩ := c
  cases callee with
  | value f => rfl
  | invoke r m => rfl
  | builtin b =>
   have hs' : ∀ x ∈ args.toList, ∀ id ∈ (raw x).sv.ids, o id = o' id := fun x hx => hs x (by simp [Op.operands, Call.operands]; simpa using hx)
   simp only [vop]
   split
   ·rename_i x t e1 _
    exact Ak4 (hs' x (by rw [e1]; simp))
   ·rename_i d x t t' e1 _
    rw [Ak5 (hs' d (by rw [e1]; simp)) (hs' x (by rw [e1]; simp))]
   ·rename_i d x t t' e1 _
    exact Aij (hs' d (by rw [e1]; simp)) (hs' x (by rw [e1]; simp))
   ·rename_i x t e1 _
    exact Agn (hs' x (by rw [e1]; simp))
   ·rfl
   ·rfl
   ·rfl
   rfl
 | makeFunc f fi cs => cases f <;> rfl
 | _ => rfl
def Zl (acc : List Nat) (o : Oper) : Nat := o.after.toList.foldl (fun s e => if Region.binds .any e then s ||| 2 ^ e.on ||| acc.getD e.on 0 else s) 0
def Abb : List Oper -> List Nat -> List Nat
 | [], acc => acc
 | o :: os, acc => Abb os (acc ++ [Zl acc o])
theorem Aki : ∀ (os : List Oper) (acc : List Nat), ∃ l, Abb os acc = acc ++ l /\ l.length = os.length
 | [], acc => ⟨[], by simp [Abb], rfl⟩
 | o :: os, acc => by
  obtain ⟨l, h, hl⟩ := Aki os (acc ++ [Zl acc o])
  exact ⟨Zl acc o :: l, by rw [Abb, h]; simp, by simp [hl]⟩
theorem Akj : ∀ (os : List Oper) (acc : List Nat) (j : Nat) (o : Oper), os[j]? = some o -> (Abb os acc).getD (acc.length + j) 0 = Zl ((Abb os acc).take (acc.length + j)) o
 | [], acc, j, o, h => by simp at h
 | p :: os, acc, 0, o, h => by
  simp at h
  subst h
  obtain ⟨l, h, hl⟩ := Aki os (acc ++ [Zl acc p])
  rw [Abb, h]
  simp
 | p :: os, acc, j + 1, o, h => by
  simp at h
  have := Akj os (acc ++ [Zl acc p]) j o h
  rw [Abb]
  simpa [Af, Ba 1 j] using this
theorem Af2 (acc : List Nat) (i : Nat) : ∀ (es : List Edge) (s : Nat), (es.foldl (fun s e => if Region.binds .any e then s ||| 2 ^ e.on ||| acc.getD e.on 0 else s) s).testBit i = true -> s.testBit i = true \/ ∃ e ∈ es, Region.binds .any e = true /\ (e.on = i \/ (acc.getD e.on 0).testBit i = true)
 | [], s, h => .inl h
 | e :: es, s, h => by
  rw [List.foldl_cons] at h
  rcases Af2 acc i es _ h with h | ⟨e', h1, h2, h3⟩
  ·by_cases hb : Region.binds .any e = true
   ·rw [if_pos hb] at h
    simp only [Nat.testBit_or, Bool.or_eq_true] at h
    rcases h with (h | h) | h
    ·exact .inl h
    ·rw [Nat.testBit_two_pow] at h
     exact .inr ⟨e, by simp, hb, .inl (by simpa using h)⟩
    exact .inr ⟨e, by simp, hb, .inr h⟩
   rw [if_neg hb] at h
   exact .inl h
  exact .inr ⟨e', by simp [h1], h2, h3⟩
theorem Al7 {l : List Oper} {D : Nat -> Bool} (hD : ∀ (j : Nat) (o : Oper), l[j]? = some o -> D j = true -> ∀ e ∈ o.after, Region.binds .any e = true -> D e.on = true) :
 ∀ (j : Nat) (o : Oper), l[j]? = some o -> (∀ e ∈ o.after, Region.binds .any e = true -> D e.on = true) -> ∀ i, ((Abb l []).getD j 0).testBit i = true -> D i = true := by
 intro j
 induction j using Nat.strongRecOn with
 | _ j ih =>
  intro o ho hready i hbit
  have hg := Akj l [] j o ho
  simp only [List.length_nil, Bm] at hg
  rw [hg] at hbit
  rcases Af2 _ i _ _ hbit with h | ⟨e, h1, h2, h3⟩
  ·simp at h
  have he := hready e (by simpa using h1) h2
  rcases h3 with rfl | h3
  ·exact he
  by_cases hlt : e.on < j
  ·rw [Ad, Ag hlt, <- Ad] at h3
   have hjl : j < l.length := (Ab.1 ho).1
   have hoe := Aa (show e.on < l.length by omega)
   exact ih e.on hlt _ hoe (hD e.on _ hoe he) i h3
  rw [Ad, Ar (by rw [A5]; omega)] at h3
  simp at h3
end
section
variable {P : Program}
structure E1 where
  d : Option Tmp
  v : AV
  up : List (Nat × Ob)
def E1.ap (s : St) (e : E1) : St := s.after e.d e.v e.up
inductive Loc where
  | s (t : Nat)
  | o (id : Nat)
def gt (s : St) : Loc -> AV × Ob
 | .s t => (El s.sl t, .gone)
 | .o id => (.any, s.o id)
def E1.wr (e : E1) : Loc -> Bool
 | .s t => e.d == some t
 | .o id => e.up.any fun p => p.1 == id
def upv (id : Nat) : List (Nat × Ob) -> Ob
 | [] => .gone
 | p :: l => bif l.any (fun p => p.1 == id) then upv id l else p.2
def E1.wv (e : E1) : Loc -> AV × Ob
 | .s t => (e.v, .gone)
 | .o id => (.any, upv id e.up)
theorem Apu (id : Nat) : ∀ (l : List (Nat × Ob)) (s : St), (s.sets l).o id = bif l.any (fun p => p.1 == id) then upv id l else s.o id
 | [], s => rfl
 | (i, o) :: l, s => by
  rw [St.sets, Apu id l, St.set_o, List.any_cons]
  cases h1 : l.any (fun p => p.1 == id) with
  | true => simp [upv, h1]
  | false =>
   by_cases h2 : id = i
   ·subst h2; simp [upv, h1]
   have : (i == id) = false := by simp [Ne.symm h2]
   simp [h2, this]
theorem Atr (s : St) (e : E1) (ℓ : Loc) : gt (E1.ap s e) ℓ = bif e.wr ℓ then e.wv ℓ else gt s ℓ := by
 cases ℓ with
 | s t =>
  simp only [gt, E1.ap, St.after, Abl, E1.wr, E1.wv]
  cases hd : e.d with
  | none => rfl
  | some d =>
   simp only [St.put, El]
   by_cases h : d = t
   ·subst h; simp
   have h1 : (d == t) = false := by simp [h]
   have h2 : (some d == some t) = false := by simpa using h
   rw [h1, h2]; rfl
 | o id =>
  simp only [gt, E1.ap, St.after, Apu, E1.wr, E1.wv, St.put_o]
  cases e.up.any (fun p => p.1 == id) <;> rfl
def apL (s : St) (L : List E1) : St := L.foldl E1.ap s
theorem Aue (s : St) (ℓ : Loc) : ∀ (L : List E1), gt (apL s L) ℓ = match (L.filter (fun e => e.wr ℓ)).getLast? with | some e => e.wv ℓ | none => gt s ℓ := by
 intro L
 generalize hn : L.length = n
 induction n generalizing L with
 | zero => have := List.eq_nil_of_length_eq_zero hn; subst this; rfl
 | succ n ih =>
  have hne : L ≠ [] := fun e => by rw [e] at hn; cases hn
  obtain ⟨L', e, rfl⟩ : ∃ L' e, L = L' ++ [e] := ⟨L.dropLast, L.getLast hne, (List.dropLast_concat_getLast hne).symm⟩
  rw [Bo] at hn
  simp only [apL, List.foldl_append, List.foldl_cons, List.foldl_nil]
  rw [Atr, List.filter_append]
  cases hw : e.wr ℓ with
  | true => simp [hw]
  | false =>
   simp only [List.filter_cons, hw, Bl, if_false, List.filter_nil, List.append_nil, cond_false]
   exact ih L' (by simpa using hn)
def LD (N : Nat) (f : Nat -> E1) (D : Nat -> Bool) : List E1 := ((List.range N).filter D).map f
theorem Aq5 (N : Nat) (f : Nat -> E1) (s : St) (ℓ : Loc) (D : Nat -> Bool) : gt (apL s (LD N f D)) ℓ = match ((List.range N).filter fun i => D i && (f i).wr ℓ).getLast? with | some i => (f i).wv ℓ | none => gt s ℓ := by
 rw [Aue, LD]
 have : ((List.range N).filter D |>.map f).filter (fun e => e.wr ℓ) = ((List.range N).filter fun i => D i && (f i).wr ℓ).map f := by
  rw [List.filter_map, List.filter_filter]
  congr 1
  exact List.filter_congr fun i _ => by simp [Bool.and_comm]
 rw [this, List.getLast?_map]
 cases ((List.range N).filter fun i => D i && (f i).wr ℓ).getLast? <;> rfl
theorem Ah7 {N : Nat} {f : Nat -> E1} {s : St} {ℓ : Loc} {D D' : Nat -> Bool} (h : ∀ i, i < N -> (f i).wr ℓ = true -> D i = D' i) : gt (apL s (LD N f D)) ℓ = gt (apL s (LD N f D')) ℓ := by
 rw [Aq5, Aq5]
 have : ((List.range N).filter fun i => D i && (f i).wr ℓ) = ((List.range N).filter fun i => D' i && (f i).wr ℓ) := List.filter_congr fun i hi => by
  cases hw : (f i).wr ℓ with
  | true => rw [h i (List.mem_range.1 hi) hw]
  | false => simp
 rw [this]
theorem Ada (p : Nat -> Bool) : ∀ (N j : Nat), j < N -> p j = true -> (∀ i, i < N -> p i = true -> i <= j) -> ((List.range N).filter p).getLast? = some j
 | 0, j, h, _, _ => by omega
 | N + 1, j, h, hp, hall => by
  rw [List.range_succ, List.filter_append]
  by_cases e : j = N
  ·subst e; simp [hp]
  have : p N = false := by
   cases hq : p N with
   | false => rfl
   | true => have := hall N (by omega) hq; omega
  simp only [List.filter_cons, this, Bl, if_false, List.filter_nil, List.append_nil]
  exact Ada p N j (by omega) hp fun i hi hpi => hall i (by omega) hpi
theorem Atj {N j : Nat} {f : Nat -> E1} {s : St} {ℓ : Loc} {D : Nat -> Bool} (hj : j < N) (hD : D j = true) (hw : (f j).wr ℓ = true) (hall : ∀ i, i < N -> D i = true -> (f i).wr ℓ = true -> i <= j) : gt (apL s (LD N f D)) ℓ = (f j).wv ℓ := by
 rw [Aq5, Ada _ N j hj (by simp [hD, hw]) fun i hi h => by
  simp only [Ah] at h
  exact hall i hi h.1 h.2]
theorem Af9 (f : Nat -> E1) (s : St) : ∀ (N j : Nat), j <= N -> LD N f (fun i => decide (i < j)) = (List.range j).map f := by
  intro N j hj
  unfold LD
  congr 1
  induction N with
  | zero => have : j = 0 := by omega
            subst this; rfl
  | succ N ih =>
    rw [List.range_succ, List.filter_append]
    by_cases e : j = N + 1
    · subst e
      rw [show ((List.range N).filter fun i => decide (i < N + 1)) = List.range N from List.filter_eq_self.2 fun i hi => by have := List.mem_range.1 hi; simp; omega]
      simp [List.range_succ]
    · rw [ih (by omega)]
      simp; omega
theorem Rel.congr {E : Ent} {β : Nat -> Option Nat} {s s' : St} {a : Act} {w : World} (r : Rel E β s a w) (h : ∀ ℓ, gt s ℓ = gt s' ℓ) : Rel E β s' a w := by
 have h1 : ∀ t, El s.sl t = El s'.sl t := fun t => congrArg Prod.fst (h (.s t))
 have h2 : s.o = s'.o := funext fun id => congrArg Prod.snd (h (.o id))
 have hC : E.C β s' w = E.C β s w := by simp only [Ent.C, h2]
 exact ⟨r.sz, fun t => by rw [hC, <- h1]; exact r.sl t, r.df, fun id => by rw [hC, <- h2]; exact r.ob id, by rw [<- h2]; exact r.inj, by rw [<- h2]; exact r.rng, r.kp, by rw [hC]; exact r.ct, r.kb, r.dk⟩
def Hx : Op -> List Operand := fun op => op.operands.toList
def Mc (op : Op) (g : Gd) : List Nat := (Hx op).filterMap (fun x => match x with | .tmp t => some t | _ => none) ++ (match g with | .at t _ => [t] | _ => [])
def Fh : Op -> Bool
 | .call { callee := .value _, .. } => true
 | _ => false
def Je : Op -> Bool
 | .move _ => true
 | .assign _ => true
 | _ => false
def E5 (op : Op) (st : St) : List Nat := bif Je op then [] else bif Fh op then rdC st.o (Gl ((Hx op).map st.raw)) else Gl ((Hx op).map st.raw)
theorem Afq {op : Op} {st : St} {id : Nat} (hv : Je op = false) (h : id ∈ Gl ((Hx op).map st.raw)) : id ∈ E5 op st := by
 unfold E5
 rw [hv, cond_false]
 cases Fh op with
 | true => exact Bj _ h
 | false => exact h
theorem Af5 {o : Nat -> Ob} : ∀ {l : List Nat} {x : Nat}, x ∈ Ux o l -> ∃ id ∈ l, x ∈ obI (o id)
 | [], x, h => by cases h
 | id :: l, x, h => by
  simp only [Ux, A0] at h
  rcases h with h | h
  ·exact ⟨id, by simp, h⟩
  obtain ⟨y, h1, h2⟩ := Af5 h
  exact ⟨y, by simp [h1], h2⟩
theorem Ake {o : Nat -> Ob} {x id : Nat} : ∀ {l : List Nat}, id ∈ l -> x ∈ obI (o id) -> x ∈ Ux o l
 | y :: l, h, hx => by
  simp only [Ux, A0]
  cases h with
  | head => exact .inl hx
  | tail _ h => exact .inr (Ake h hx)
mutual
theorem Ajs {o o' : Nat -> Ob} {ρ : Nat -> Option Nat} : ∀ (c : AV), (∀ id ∈ c.ids, o id = o' id) -> c.passR o ρ = c.passR o' ρ
 | .own id n, h => by have := h id (by simp [AV.ids]); simp [AV.passR, this]
 | .sub id n lo m, h => by have := h id (by simp [AV.ids]); simp [AV.passR, this]
 | .agg cs, h => by have := Km (ρ := ρ) cs (by simpa only [AV.ids] using h); simp [AV.passR, this]
 | .tup cs, h => by have := Km (ρ := ρ) cs (by simpa only [AV.ids] using h); simp [AV.passR, this]
 | .fn f cs, h => by have := Km (ρ := ρ) cs (by simpa only [AV.ids] using h); simp [AV.passR, this]
 | .any, h => by simp [AV.passR]
 | .lit _, h => by simp [AV.passR]
 | .nil _, h => by simp [AV.passR]
 | .imm _ _ _, h => by simp [AV.passR]
 | .ptr _ _, h => by simp [AV.passR]
 | .rptr _ _ _ _, h => by simp [AV.passR]
 | .bsl _ _, h => by simp [AV.passR]
 | .iptr _ _ _, h => by simp [AV.passR]
 | .gd _ _, h => by simp [AV.passR]
theorem Km {o o' : Nat -> Ob} {ρ : Nat -> Option Nat} : ∀ (cs : List AV), (∀ id ∈ Gl cs, o id = o' id) -> Gu o ρ cs = Gu o' ρ cs
 | [], h => by simp [Gu]
 | c :: cs, h => by
  have h1 := Ajs (ρ := ρ) c fun id hid => h id (by simp [Gl, hid])
  have h2 := Km (ρ := ρ) cs fun id hid => h id (by simp [Gl, hid])
  simp [Gu, h1, h2]
end
theorem Wb.local {f : FuncId} {av : List AV} {o o' : Nat -> Ob} {nid : Nat} {sel : List Nat} {σr : List Ob} {res : AV} (h : Wb P f av o nid sel σr res) (ho : ∀ id ∈ rdC o (Gl av), o id = o' id) : Wb P f av o' nid sel σr res := by
 obtain ⟨h1, h2, h3, h4, h5, h6, h7, h8⟩ := h
 have hav : ∀ id ∈ Gl av, o id = o' id := fun id hid => ho id (Bj _ hid)
 have hs : ∀ id ∈ sel, o id = o' id := fun id hid => ho id (h7 id hid).1
 have hin : ∀ id ∈ sel, ∀ x ∈ obI (o id), o x = o' x := fun id hid x hx => ho x ((h7 id hid).2 x hx)
 have hp : ∀ id ∈ sel, ∀ ρ, (o id).passR o ρ = (o' id).passR o' ρ /\ ((o id).passC o = (o' id).passC o') := fun id hid ρ => by
  rw [<- hs id hid]
  have := hin id hid
  cases hq : o id with
  | gone => exact ⟨rfl, rfl⟩
  | row ty k fr fz es => exact ⟨rfl, rfl⟩
  | box ty cs =>
   rw [hq] at this
   exact ⟨by simp only [Ob.passR]; rw [Km cs this], (J6 cs this).2⟩
 have hm : (sel.map fun id => (o id).passR o fun id => idx id sel 0) = sel.map fun id => (o' id).passR o' fun id => idx id sel 0 := List.map_congr_left fun id hid => (hp id hid _).1
 have hd : ∀ l, (∀ id ∈ l, o id = o' id) -> Ux o l = Ux o' l := fun l => by
  induction l with
  | nil => intro _; rfl
  | cons x xs ih => intro h; rw [Ux, Ux, h x (by simp), ih fun id hid => h id (by simp [hid])]
 have hrd : rdC o (Gl av) = rdC o' (Gl av) := by unfold rdC; rw [hd _ hav]
 refine ⟨h1, fun id hid => by rw [<- hs id hid]; exact h2 id hid, by rw [<- hm, <- Km av hav]; exact h3, by rw [<- (J6 av hav).2]; exact h4, fun id hid => by rw [<- (hp id hid fun _ => none).2]; exact h5 id hid, h6, fun id hid => by rw [<- hs id hid, <- hrd]; exact h7 id hid, ?_⟩
 have : (sel.any fun id => (o' id).borR fun id => idx id sel 0) = sel.any fun id => (o id).borR fun id => idx id sel 0 := by
  rw [Bool.eq_iff_iff, List.any_eq_true, List.any_eq_true]
  constructor
  ·rintro ⟨x, h1, h2⟩; exact ⟨x, h1, by rw [hs x h1]; exact h2⟩
  rintro ⟨x, h1, h2⟩; exact ⟨x, h1, by rw [<- hs x h1]; exact h2⟩
 rw [this]
 exact h8
theorem Aqg {s s' : St} {op : Op} {g : Gd} (h : ∀ t ∈ Mc op g, El s.sl t = El s'.sl t) : ∀ x ∈ op.operands, s.raw x = s'.raw x := by
 intro x hx
 cases x with
 | tmp t => exact h t (by simp only [Mc, Hx, A0, List.mem_filterMap]; exact .inl ⟨.tmp t, by simpa using hx, rfl⟩)
 | const v => rfl
 | global g => rfl
 | func f => rfl
theorem Asd {op : Op} {ty : TypeId} {raw raw' : Operand -> AV} {o : Nat -> Ob} {nid : Nat} (h : ∀ x ∈ op.operands, raw x = raw' x) : vop P op ty raw o nid = vop P op ty raw' o nid := by
 have hp : ∀ (ps : Array (Nat × Operand)), (∀ p ∈ ps, raw p.2 = raw' p.2) -> (ps.toList.map fun p => (p.1, (raw p.2).sv)) = (ps.toList.map fun p => (p.1, (raw' p.2).sv)) := fun ps hps => List.map_congr_left fun p hp => by rw [hps p (by simpa using hp)]
 cases op with
 | move x => simp only [vop, h x (by simp [Op.operands])]
 | assign x => simp only [vop, h x (by simp [Op.operands])]
 | box t x => simp only [vop, h x (by simp [Op.operands])]
 | build t ps => simp only [vop]; rw [hp ps fun p hp => h p.2 (by simp only [Op.operands, List.mem_toArray, A4]; exact ⟨p, by simpa using hp, rfl⟩)]
 | buildSlice t n ps => simp only [vop]; rw [hp ps fun p hp => h p.2 (by simp only [Op.operands, List.mem_toArray, A4]; exact ⟨p, by simpa using hp, rfl⟩)]
 | load t x => simp only [vop, h x (by simp [Op.operands])]
 | store t x y => simp only [vop, h x (by simp [Op.operands]), h y (by simp [Op.operands])]
 | nilCheck x => simp only [vop, h x (by simp [Op.operands])]
 | binOp op t x y u => simp only [vop, h x (by simp [Op.operands]), h y (by simp [Op.operands])]
 | unOp op t x => simp only [vop, h x (by simp [Op.operands])]
 | convert s d x => simp only [vop, h x (by simp [Op.operands])]
 | makeFunc f fi cs =>
  cases f with
  | func f =>
   simp only [vop]
   rw [List.map_congr_left (l := cs.toList) fun x hx => by rw [h x (by simp only [Op.operands, Array.mem_append]; exact .inr (by simpa using hx))]]
  | _ => rfl
 | makeSlice t x y => simp only [vop, h x (by simp [Op.operands]), h y (by simp [Op.operands])]
 | slice t x lo hi mx =>
  cases mx with
  | some m => rfl
  | none =>
   simp only [vop, h x (by simp [Op.operands])]
   have h1 : lo.map (fun x => (raw x).sv) = lo.map (fun x => (raw' x).sv) := by
    cases lo with
    | none => rfl
    | some y => simp only [Ai, h y (by simp [Op.operands])]
   have h2 : hi.map (fun x => (raw x).sv) = hi.map (fun x => (raw' x).sv) := by
    cases hi with
    | none => rfl
    | some y => simp only [Ai, h y (by simp [Op.operands])]
   rw [h1, h2]
 | fieldAddr s x f => simp only [vop, h x (by simp [Op.operands])]
 | indexAddr t x i => simp only [vop, h x (by simp [Op.operands]), h i (by simp [Op.operands])]
 | extract x i => simp only [vop, h x (by simp [Op.operands])]
 | call c =>
  obtain ⟨callee, args, ts⟩ := c
  cases callee with
  | value f => rfl
  | invoke r m => rfl
  | builtin b =>
   have hs' : ∀ x ∈ args.toList, raw x = raw' x := fun x hx => h x (by simp [Op.operands, Call.operands]; simpa using hx)
   simp only [vop]
   split
   ·rename_i x t e1 _; rw [hs' x (by rw [e1]; simp)]
   ·rename_i d x t t' e1 _; rw [hs' x (by rw [e1]; simp), hs' d (by rw [e1]; simp)]
   ·rename_i d x t t' e1 _; rw [hs' x (by rw [e1]; simp), hs' d (by rw [e1]; simp)]
   ·rename_i x t e1 _; rw [hs' x (by rw [e1]; simp)]
   ·rename_i x y e1; rw [hs' x (by simp_all), hs' y (by simp_all)]
   ·rename_i x y e1; rw [hs' x (by simp_all), hs' y (by simp_all)]
   ·rename_i x y z e1; rw [hs' x (by simp_all), hs' y (by simp_all), hs' z (by simp_all)]
   rfl
 | _ => rfl
theorem Aqp {op : Op} {raw raw' : Operand -> AV} (h : ∀ x ∈ op.operands, raw x = raw' x) (hb : Ox raw op) : Ox raw' op := by
 have := Aju hb
 unfold Ox at hb ⊢
 split <;> first
  | (rw [<- h _ (by simp [Op.operands])]; exact hb)
  | (rw [<- h _ (by simp [Op.operands]), <- h _ (by simp [Op.operands])]; exact hb)
  | (exact Am.2 fun x hx => by rw [<- h x (by simpa using hx)]; exact this x (by simpa using hx))
theorem Amp {op : Op} {ty : TypeId} {g : Gd} {s s' : St} {nid : Nat} {e : AV × List (Nat × Ob)} (hs : ∀ t ∈ Mc op g, El s.sl t = El s'.sl t) (ho : ∀ id ∈ E5 op s, s.o id = s'.o id) (h : Sx P op ty s nid e) : Sx P op ty s' nid e := by
 have hraw := Aqg hs
 cases hv : Je op with
 | true =>
  cases op <;> simp only [Je, Bl, reduceCtorEq] at hv
  ·rename_i x
   have hx : s.raw x = s'.raw x := hraw x (by simp [Op.operands])
   obtain ⟨h1, rfl⟩ := h
   refine ⟨?_, ?_⟩
   ·revert h1; simp only [G5, Ox, vop, Op.operands]; rw [hx]; exact id
   simp only [Hv, vop]; rw [hx]
  rename_i x
  have hx : s.raw x = s'.raw x := hraw x (by simp [Op.operands])
  obtain ⟨h1, rfl⟩ := h
  refine ⟨?_, ?_⟩
  ·revert h1; simp only [G5, Ox, vop, Op.operands]; rw [hx]; exact id
  simp only [Hv, vop]; rw [hx]
 | false =>
 have hids : ∀ x ∈ op.operands, ∀ id ∈ (s.raw x).ids, s.o id = s'.o id := fun x hx id hid => ho id (Afq hv (Adg (A4.2 ⟨x, by simpa [Hx] using hx, rfl⟩) hid))
 unfold Sx at h ⊢
 split at h
 ·rename_i fo args ts
  have hx : ∀ x ∈ args.toList, s.raw x = s'.raw x := fun x hx => hraw x (by simp [Op.operands, Call.operands]; exact .inr (by simpa using hx))
  have hf : s.raw fo = s'.raw fo := hraw fo (by simp [Op.operands, Call.operands])
  have hm : args.toList.map (fun x => (s.raw x).sv) = args.toList.map (fun x => (s'.raw x).sv) := List.map_congr_left fun x h => by rw [hx x h]
  obtain ⟨⟨h1, h2⟩, h⟩ := h
  refine ⟨⟨by rw [<- hf]; exact h1, Am.2 fun x h => by rw [<- hx x h]; exact Am.1 h2 x h⟩, ?_⟩
  have hsub : ∀ (caps : List AV) (f : FuncId), (s.raw fo).sv = .fn f caps -> ∀ id ∈ Gl (args.toList.map (fun x => (s.raw x).sv) ++ caps), id ∈ Gl ((Hx (.call ⟨.value fo, args, ts⟩)).map s.raw) := fun caps f h3 id hid => by
   rw [Aj5, A0] at hid
   rcases hid with hid | hid
   ·have : ∃ x ∈ args.toList, id ∈ (s.raw x).ids := by
     clear h2 h hm hx
     generalize args.toList = l at hid
     induction l with
     | nil => simp [Gl] at hid
     | cons y ys ih =>
      simp only [List.map_cons, Gl, A0] at hid
      rcases hid with hid | hid
      ·exact ⟨y, by simp, Ag3 _ hid⟩
      obtain ⟨x, h8, h9⟩ := ih hid
      exact ⟨x, by simp [h8], h9⟩
    obtain ⟨x, h8, h9⟩ := this
    exact Adg (A4.2 ⟨x, by simp only [Hx, Op.operands, Call.operands]; simp; exact .inr (by simpa using h8), rfl⟩) h9
   exact Adg (A4.2 ⟨fo, by simp [Hx, Op.operands, Call.operands], rfl⟩) (Ag3 _ (by rw [h3]; exact hid))
  rcases h with ⟨f, caps, σr, res, h3, h4, h5, h6, h7⟩ | ⟨f, caps, sel, σr, res, h3, h4, h5⟩
  ·have hl := J6 (o := s.o) (o' := s'.o) (args.toList.map (fun x => (s.raw x).sv) ++ caps) fun id hid => ho id (Afq rfl (hsub caps f h3 id hid))
   refine .inl ⟨f, caps, σr, res, by rw [<- hf]; exact h3, ?_, ?_, by rw [<- hm]; exact h6, h7⟩
   ·rw [<- hm, <- hl.1]; exact h4
   rw [<- hm, <- hl.2]; exact h5
  refine .inr ⟨f, caps, sel, σr, res, by rw [<- hf]; exact h3, ?_, h5⟩
  rw [<- hm]
  refine h4.local fun id hid => ho id ?_
  have hval : E5 (.call ⟨.value fo, args, ts⟩) s = rdC s.o (Gl ((Hx (.call ⟨.value fo, args, ts⟩)).map s.raw)) := rfl
  rw [hval]
  simp only [rdC, A0] at hid ⊢
  rcases hid with hid | hid
  ·exact .inl (hsub caps f h3 id hid)
  obtain ⟨y, h8, h9⟩ := Af5 hid
  exact .inr (Ake (hsub caps f h3 y h8) h9)
 obtain ⟨h1, h2⟩ := h
 by_cases hp : ∃ c x y, op = .pick c x y
 ·obtain ⟨c, x, y, rfl⟩ := hp
  have e1 := hraw c (by simp [Op.operands])
  have e2 := hraw x (by simp [Op.operands])
  have e3 := hraw y (by simp [Op.operands])
  simp only [G5, Hv] at h1 h2 ⊢
  rw [<- e1, <- e2, <- e3]
  exact ⟨h1, h2⟩
 rw [Ads fun c x y e => hp ⟨c, x, y, e⟩] at h1 ⊢
 rw [Ado fun c x y e => hp ⟨c, x, y, e⟩] at h2 ⊢
 have ev : vop P op ty s.raw s.o nid = vop P op ty s'.raw s'.o nid := by rw [Anq hids, Asd hraw]
 rw [<- ev]
 exact ⟨⟨Aqp hraw h1.1, h1.2⟩, h2⟩
end
end Go.Proofs.YtkkimgjinbaemaaGreat
