/- The walk. -/
import Derived.Test.YtkkimgjinbaemaaGreatKaj
namespace Go.Proofs.YtkkimgjinbaemaaGreat
open Go.RowKit
set_option linter.unusedVariables false
set_option linter.unusedSimpArgs false
set_option maxRecDepth 100000
set_option maxHeartbeats 4000000
section
variable {P : Program}
mutual
def AV.ren (ρ : Nat -> Option Nat) : AV -> AV
 | .own id n => match ρ id with | some j => .own j n | none => .any
 | .sub id n lo m => match ρ id with | some j => .sub j n lo m | none => .any
 | .ptr id off => match ρ id with | some j => .ptr j off | none => .any
 | .rptr id n i off => match ρ id with | some j => .rptr j n i off | none => .any
 | .bsl id n => match ρ id with | some j => .bsl j n | none => .any
 | .agg cs => .agg (Il ρ cs)
 | .tup cs => .tup (Il ρ cs)
 | .fn f cs => .fn f (Il ρ cs)
 | .gd t v => .gd t (v.ren ρ)
 | .any => .any
 | .lit v => .lit v
 | .nil k => .nil k
 | .imm fr k es => .imm fr k es
 | .iptr fr cs off => .iptr fr cs off
def Il (ρ : Nat -> Option Nat) : List AV -> List AV
 | [] => []
 | c :: cs => c.ren ρ :: Il ρ cs
end
theorem Kh (ρ : Nat -> Option Nat) : ∀ (cs : List AV) (i : Nat), (Il ρ cs)[i]? = (cs[i]?).map (AV.ren ρ)
 | [], i => by simp [Il]
 | c :: cs, 0 => by simp [Il]
 | c :: cs, i + 1 => by simp [Il, Kh ρ cs i]
theorem L2 (ρ : Nat -> Option Nat) : ∀ (cs : List AV), (Il ρ cs).length = cs.length
 | [] => rfl
 | c :: cs => by simp [Il, L2 ρ cs]
def Ob.ren (ρ : Nat -> Option Nat) : Ob -> Ob
 | .box ty cs => .box ty (Il ρ cs)
 | o => o
def Le (c c' : AV) : Prop := ∀ C u, Br C c u -> Br C c' u
theorem Le.refl (c : AV) : Le c c := fun _ _ h => h
theorem Le.any (c : AV) : Le c .any := fun _ u _ => .any u
theorem Le.nil (k : Nat) (fr : Bool) (k' : Nat) : Le (.nil k) (.imm fr k' []) := fun _ _ h => by
 cases h with
 | nil k A => exact .imm _ _ _ _ (.nil _ _ _)
theorem Le.imm {fr fr' : Bool} (hf : fr' = true -> fr = true) (k : Nat) (es : List (List T)) : Le (.imm fr k es) (.imm fr' k es) := fun _ _ h => by
 cases h with
 | imm fr k es u h => exact .imm _ _ _ _ (VC.T_weak h hf)
theorem Le.gd (v : AV) : Le (.gd true v) v := fun _ _ h => by
 cases h with
 | gd t v u h1 h2 => exact h1 rfl
inductive LeL : List AV -> List AV -> Prop
  | nil : LeL [] []
  | cons {c c' : AV} {cs cs' : List AV} : Le c c' -> LeL cs cs' -> LeL (c :: cs) (c' :: cs')
theorem LeL.refl : ∀ (cs : List AV), LeL cs cs
 | [] => .nil
 | c :: cs => .cons (Le.refl c) (LeL.refl cs)
theorem LeL.length {cs cs' : List AV} (h : LeL cs cs') : cs.length = cs'.length := by
 induction h with
 | nil => rfl
 | cons _ _ ih => simp [ih]
theorem LeL.get {cs cs' : List AV} (h : LeL cs cs') : ∀ {i : Nat} {c' : AV}, cs'[i]? = some c' -> ∃ c, cs[i]? = some c /\ Le c c' := by
 induction h with
 | nil => intro i c' h; simp at h
 | cons h1 _ ih =>
  intro i c' h
  cases i with
  | zero => simp at h; subst h; exact ⟨_, rfl, h1⟩
  | succ i => simp at h; obtain ⟨c, h2, h3⟩ := ih h; exact ⟨c, by simpa using h2, h3⟩
theorem Le.agg {cs cs' : List AV} (h : LeL cs cs') : Le (.agg cs) (.agg cs') := fun C u hr => by
 cases hr with
 | agg cs us h1 h2 =>
  refine .agg _ _ (by rw [<- h.length]; exact h1) fun i c u hc hu => ?_
  obtain ⟨c0, g1, g2⟩ := h.get hc
  exact g2 C u (h2 i c0 u g1 hu)
theorem Le.tup {cs cs' : List AV} (h : LeL cs cs') : Le (.tup cs) (.tup cs') := fun C u hr => by
 cases hr with
 | tup cs us h1 h2 =>
  refine .tup _ _ (by rw [<- h.length]; exact h1) fun i c u hc hu => ?_
  obtain ⟨c0, g1, g2⟩ := h.get hc
  exact g2 C u (h2 i c0 u g1 hu)
inductive Sm : Ob -> Ob -> Prop
  | gone : Sm .gone .gone
  | box {ty : TypeId} {cs cs' : List AV} : LeL cs cs' -> Sm (.box ty cs) (.box ty cs')
  | row {ty k : Nat} {fr fz fr' fz' : Bool} {es : List (List T)} : (fr' = true -> fr = true) -> (fz' = false -> fz = false) -> Sm (.row ty k fr fz es) (.row ty k fr' fz' es)
theorem Sm.refl (o : Ob) : Sm o o := by
 cases o with
 | gone => exact .gone
 | box ty cs => exact .box (LeL.refl cs)
 | row ty k fr fz es => exact .row (fun e => e) fun e => e
theorem Br.ren {C C' : VC} {ρ : Nat -> Option Nat} (hh : C'.h = C.h) (ho : ∀ id j, ρ id = some j -> Sim (C.ob id) (C'.ob j) /\ C'.β j = C.β id) (hS : ∀ fr b, C.S fr b -> C'.S fr b) {c : AV} {u : Value} (h : Br C c u) : Br C' (c.ren ρ) u := by
 have hT : ∀ fr t u, Do C.h (C.S fr) t u -> Do C'.h (C'.S fr) t u := fun fr t u h => by
  rw [hh]
  exact h.keep (fun _ _ => rfl) (hS fr)
 induction h with
 | any u => exact .any u
 | lit v => exact .lit v
 | nil k A => exact .nil k A
 | imm fr k es u h => exact .imm fr k es u (hT fr _ _ h)
 | own id n u h =>
  simp only [AV.ren]
  cases hr : ρ id with
  | none => exact .any u
  | some j =>
   obtain ⟨h0, ty, k, fr, fz, es, h1, h2, h3⟩ := h
   obtain ⟨e1, e2⟩ := ho id j hr
   rw [h1] at e1
   obtain ⟨fr', fz', e1⟩ := e1
   exact .own _ _ _ ⟨h0, ty, k, fr', fz', es, e1, h2, fun e => by
    have := h3 e
    rw [e2, hh]; exact this⟩
 | sub id n lo m u h =>
  simp only [AV.ren]
  cases hr : ρ id with
  | none => exact .any u
  | some j =>
   obtain ⟨h0, ty, k, fr, fz, es, h1, h2, h3⟩ := h
   obtain ⟨e1, e2⟩ := ho id j hr
   rw [h1] at e1
   obtain ⟨fr', fz', e1⟩ := e1
   exact .sub _ _ _ _ _ ⟨h0, ty, k, fr', fz', es, e1, h2, fun e => by
    have := h3 e
    rw [e2]; exact this⟩
 | bsl id n u h =>
  simp only [AV.ren]
  cases hr : ρ id with
  | none => exact .any u
  | some j =>
   obtain ⟨ty, cs, b, c, h1, h2, h3⟩ := h
   obtain ⟨e1, e2⟩ := ho id j hr
   rw [h1] at e1
   obtain ⟨cs', e1⟩ := e1
   exact .bsl _ _ _ ⟨ty, cs', b, c, e1, by rw [e2]; exact h2, h3⟩
 | ptr id off u h =>
  simp only [AV.ren]
  cases hr : ρ id with
  | none => exact .any u
  | some j =>
   obtain ⟨ty, cs, b, h1, h2, h3⟩ := h
   obtain ⟨e1, e2⟩ := ho id j hr
   rw [h1] at e1
   obtain ⟨cs', e1⟩ := e1
   exact .ptr _ _ _ ⟨ty, cs', b, e1, by rw [e2]; exact h2, h3⟩
 | rptr id n i off u h =>
  simp only [AV.ren]
  cases hr : ρ id with
  | none => exact .any u
  | some j =>
   obtain ⟨h0, ty, k, fr, fz, es, h1, h2, h3⟩ := h
   obtain ⟨e1, e2⟩ := ho id j hr
   rw [h1] at e1
   obtain ⟨fr', fz', e1⟩ := e1
   exact .rptr _ _ _ _ _ ⟨h0, ty, k, fr', fz', es, e1, h2, fun e => by
    have := h3 e
    rw [e2]; exact this⟩
 | iptr fr cs off b o cur ty fz us h1 h2 h3 =>
  exact .iptr fr cs off b o cur ty fz us (by rw [hh]; exact h1) (hS fr b h2) fun j x hx => ⟨(h3 j x hx).1, hT fr _ _ (h3 j x hx).2⟩
 | agg cs us h1 h2 ih =>
  refine .agg _ _ (by rw [L2]; exact h1) fun i c u hc' hu => ?_
  rw [Kh] at hc'
  cases hx : cs[i]? with
  | none => rw [hx] at hc'; cases hc'
  | some x =>
   rw [hx] at hc'
   simp only [Ai, Option.some.injEq] at hc'
   subst hc'
   exact ih i x u hx hu
 | tup cs us h1 h2 ih =>
  refine .tup _ _ (by rw [L2]; exact h1) fun i c u hc' hu => ?_
  rw [Kh] at hc'
  cases hx : cs[i]? with
  | none => rw [hx] at hc'; cases hc'
  | some x =>
   rw [hx] at hc'
   simp only [Ai, Option.some.injEq] at hc'
   subst hc'
   exact ih i x u hx hu
 | fn f cs us h1 h2 ih =>
  refine .fn f _ _ (by rw [L2]; exact h1) fun i c u hc' hu => ?_
  rw [Kh] at hc'
  cases hx : cs[i]? with
  | none => rw [hx] at hc'; cases hc'
  | some x =>
   rw [hx] at hc'
   simp only [Ai, Option.some.injEq] at hc'
   subst hc'
   exact ih i x u hx hu
 | gd t v u h1 h2 ih => exact .gd t _ u (fun e => ih e) h2
inductive LeS (ρ : Nat -> Option Nat) (l : List (Nat × AV)) : List (Nat × AV) -> Prop
  | nil : LeS ρ l []
  | cons {t : Nat} {c' : AV} {l' : List (Nat × AV)} : Le ((Ce l t).ren ρ) c' -> LeS ρ l l' -> LeS ρ l ((t, c') :: l')
theorem LeS.get {ρ : Nat -> Option Nat} {l l' : List (Nat × AV)} (h : LeS ρ l l') (t : Nat) : Le ((Ce l t).ren ρ) (Ce l' t) := by
 induction h with
 | nil => exact Le.any _
 | @cons t' c' l' h1 _ ih =>
  simp only [Ce]
  cases hb : t' == t with
  | true =>
   have : t' = t := by simpa using hb
   subst this
   exact h1
  | false => exact ih
structure Acf (st : St) (sel : List Nat) (st' : St) : Prop where
  sl : LeS (fun id => idx id sel 0) st.sl st'.sl
  ob : ∀ j, j < sel.length -> Sm ((st.o (sel.getD j 0)).ren fun id => idx id sel 0) (st'.o j)
  len : st'.ob.length = sel.length
  nd : sel.Nodup
theorem Rel.weakE {E : Ent} {β : Nat -> Option Nat} {st st' : St} {a : Act} {w : World} (r : Rel E β st a w) {sel : List Nat} (h : Acf st sel st') (hE : ∀ id, E.o0 id ≠ .gone -> sel[id]? = some id) : Rel E (fun j => (sel[j]?).bind β) st' a w := by
 let β' : Nat -> Option Nat := fun j => (sel[j]?).bind β
 show Rel E β' st' a w
 have hgone : ∀ j, sel.length <= j -> st'.o j = .gone := fun j hj => Dx st' j (by rw [h.len]; exact hj)
 have hle : ∀ j id, sel[j]? = some id -> Sm ((st.o id).ren fun id => idx id sel 0) (st'.o j) := fun j id hj => by
  have hlt : j < sel.length := (Ab.1 hj).1
  have := h.ob j hlt
  rw [Ad, hj] at this
  exact this
 have hng : ∀ j id, sel[j]? = some id -> st'.o j ≠ .gone -> st.o id ≠ .gone := fun j id hj hne e => by
  have := hle j id hj
  rw [e] at this
  simp only [Ob.ren] at this
  cases hq : st'.o j with
  | gone => exact hne hq
  | box ty cs => rw [hq] at this; cases this
  | row ty k fr fz es => rw [hq] at this; cases this
 have hsel : ∀ j, st'.o j ≠ .gone -> ∃ id, sel[j]? = some id := fun j hj => by
  by_cases hlt : j < sel.length
  ·exact ⟨_, Aa hlt⟩
  exact absurd (hgone j (by omega)) hj
 have hβ : ∀ j id, sel[j]? = some id -> β' j = β id := fun j id hj => by simp [β', hj]
 have hS : ∀ fr b, (E.C β st w).S fr b -> (E.C β' st' w).S fr b := fun fr b ⟨h1, h2, h3⟩ => by
  refine ⟨h1, fun ⟨j, g1, g2⟩ => h2 ?_, h3⟩
  have g1 : β' j = some b := g1
  have g2 : (st'.o j).live := g2
  obtain ⟨id, hj⟩ := hsel j fun e => by rw [e] at g2; exact g2
  rw [hβ j id hj] at g1
  refine ⟨id, g1, ?_⟩
  show (st.o id).live
  have hl := hle j id hj
  cases hq : st.o id with
  | gone => rw [hq] at hl; simp only [Ob.ren] at hl; cases hp : st'.o j with
   | gone => rw [hp] at g2; exact g2
   | box ty cs => rw [hp] at hl; cases hl
   | row ty k fr fz es => rw [hp] at hl; cases hl
  | box ty cs => trivial
  | row ty k fr fz es =>
   rw [hq] at hl
   simp only [Ob.ren] at hl
   cases hp : st'.o j with
   | gone => rw [hp] at hl; cases hl
   | box ty cs => rw [hp] at hl; cases hl
   | row ty' k' fr' fz' es' =>
    rw [hp] at hl g2
    cases hl with
    | row e1 e2 => exact e2 g2
 have hsim : ∀ id j, idx id sel 0 = some j -> Sim (st.o id) (st'.o j) /\ β' j = β id := fun id j hj => by
  obtain ⟨_, hj⟩ := Vh hj
  rw [Nat.sub_zero] at hj
  refine ⟨?_, hβ j id hj⟩
  have hl := hle j id hj
  cases hq : st.o id with
  | gone => trivial
  | box ty cs => rw [hq] at hl; simp only [Ob.ren] at hl; cases hp : st'.o j with
   | gone => rw [hp] at hl; cases hl
   | box ty' cs' => rw [hp] at hl; cases hl with
    | box e => exact ⟨_, rfl⟩
   | row ty k fr fz es => rw [hp] at hl; cases hl
  | row ty k fr fz es => rw [hq] at hl; simp only [Ob.ren] at hl; cases hp : st'.o j with
   | gone => rw [hp] at hl; cases hl
   | box ty cs => rw [hp] at hl; cases hl
   | row ty' k' fr' fz' es' => rw [hp] at hl; cases hl with
    | row e1 e2 => exact ⟨_, _, rfl⟩
 have hV : ∀ c u, Br (E.C β st w) c u -> Br (E.C β' st' w) (c.ren fun id => idx id sel 0) u := fun c u hc => Br.ren (C := E.C β st w) (C' := E.C β' st' w) rfl hsim hS hc
 refine ⟨r.sz, fun t => h.sl.get t _ _ (hV _ _ (r.sl t)), r.df, fun j => ?_, ?_, ?_, r.kp, ?_, r.kb, r.dk⟩
 ·by_cases hj : st'.o j = .gone
  ·rw [hj]; trivial
  obtain ⟨id, hid⟩ := hsel j hj
  have hr := r.ob id
  have hl := hle j id hid
  cases hq : st.o id with
  | gone => exact absurd hq (hng j id hid hj)
  | box ty cs =>
   rw [hq] at hr hl
   simp only [Ob.ren] at hl
   obtain ⟨b, cur, q1, q2, q3, q4⟩ := hr
   cases hp : st'.o j with
   | gone => exact absurd hp hj
   | row ty k fr fz es => rw [hp] at hl; cases hl
   | box ty' cs' =>
    rw [hp] at hl
    cases hl with
    | box e =>
     refine ⟨b, cur, by show β' j = _; rw [hβ j id hid]; exact q1, q2, by rw [<- e.length, L2]; exact q3, fun i c u hc hu => ?_⟩
     obtain ⟨c1, g1, g2⟩ := e.get hc
     rw [Kh] at g1
     cases hx : cs[i]? with
     | none => rw [hx] at g1; cases g1
     | some x =>
      rw [hx] at g1
      simp only [Ai, Option.some.injEq] at g1
      subst g1
      exact ⟨g2 _ _ (hV x u (q4 i x u hx hu).1), (q4 i x u hx hu).2⟩
  | row ty k fr fz es =>
   rw [hq] at hr hl
   simp only [Ob.ren] at hl
   obtain ⟨q1, q2⟩ := hr
   cases hp : st'.o j with
   | gone => exact absurd hp hj
   | box ty cs => rw [hp] at hl; cases hl
   | row ty' k' fr' fz' es' =>
    rw [hp] at hl
    cases hl with
    | row e1 e2 =>
     refine ⟨q1, ?_⟩
     have hb : (E.C β' st' w).β j = (E.C β st w).β id := hβ j id hid
     rw [hb]
     cases hbb : (E.C β st w).β id with
     | none => rw [hbb] at q2; exact q2
     | some b =>
      rw [hbb] at q2
      obtain ⟨cur, c, g1, g2, g3, g4, g5⟩ := q2
      refine ⟨cur, c, g1, g2, g3, g4, fun i e j x he hx => ?_⟩
      obtain ⟨u, p1, p2⟩ := g5 i e j x he hx
      exact ⟨u, p1, VC.T_weak (C := E.C β' st' w) (p2.keep (fun _ _ => rfl) (hS fr)) e1⟩
 ·intro i j b hi hj h1 h2
  obtain ⟨x, hx⟩ := hsel i hi
  obtain ⟨y, hy⟩ := hsel j hj
  rw [hβ i x hx] at h1
  rw [hβ j y hy] at h2
  have := r.inj x y b (hng i x hx hi) (hng j y hy hj) h1 h2
  subst this
  obtain ⟨hi', hx'⟩ := Ab.1 hx
  obtain ⟨hj', hy'⟩ := Ab.1 hy
  have hnd := List.pairwise_iff_getElem.1 h.nd
  rcases Nat.lt_trichotomy i j with hlt | he | hlt
  ·exact absurd (hx'.trans hy'.symm) (hnd i j hi' hj' hlt)
  ·exact he
  exact absurd (hy'.trans hx'.symm) (hnd j i hj' hi' hlt)
 ·intro i b hi h1
  obtain ⟨x, hx⟩ := hsel i hi
  rw [hβ i x hx] at h1
  exact r.rng x b (hng i x hx hi) h1
 refine ⟨fun id ty cs ho => ?_, fun id ty k fr fz es ho => ?_⟩
 ·have hid := hE id (by rw [ho]; simp)
  obtain ⟨⟨cs', q1⟩, q2⟩ := r.ct.box id ty cs ho
  have q1 : st.o id = _ := q1
  have hl := hle id id hid
  rw [q1] at hl
  simp only [Ob.ren] at hl
  cases hp : st'.o id with
  | gone => rw [hp] at hl; cases hl
  | row ty k fr fz es => rw [hp] at hl; cases hl
  | box ty' cs2 =>
   rw [hp] at hl
   cases hl with
   | box e => exact ⟨⟨_, hp⟩, by show β' id = _; rw [hβ id id hid]; exact q2⟩
 have hid := hE id (by rw [ho]; simp)
 obtain ⟨fr', fz', es', q1, q2, q3⟩ := r.ct.row id ty k fr fz es ho
 have q1 : st.o id = _ := q1
 have hl := hle id id hid
 rw [q1] at hl
 simp only [Ob.ren] at hl
 cases hp : st'.o id with
 | gone => rw [hp] at hl; cases hl
 | box ty cs => rw [hp] at hl; cases hl
 | row ty2 k2 fr2 fz2 es2 =>
  rw [hp] at hl
  cases hl with
  | row e1 e2 =>
   refine ⟨fr2, fz2, es', hp, q2, fun e => ?_⟩
   obtain ⟨g1, g2⟩ := q3 e
   exact ⟨by show β' id = _; rw [hβ id id hid]; exact g1, g2⟩
theorem Rel.weak {E : Ent} {β : Nat -> Option Nat} {st st' : St} {a : Act} {w : World} (r : Rel E β st a w) {sel : List Nat} (h : Acf st sel st') (hE : ∀ id, E.o0 id ≠ .gone -> sel[id]? = some id) : ∃ β', Rel E β' st' a w := ⟨_, r.weakE h hE⟩
theorem VW.weak {n m : Nat} {st : St} {K : Exit -> St -> Prop} {c : Code} {sel : List Nat} {st' : St} (h : Acf st sel st') (hm : ∀ id, id < m -> sel[id]? = some id) (hv : VW P n m c st' K) : VW P n m c st K := fun E F hE hF β a w r => by
 obtain ⟨β', r'⟩ := r.weak h fun id hid => hm id (Nat.lt_of_not_le fun hle => hid (hE.2 id hle))
 exact hv E F hE hF β' a w r'
def Ud (P : Program) (st : St) : ResultVar -> Eff
 | .tmp t => ⟨Ce st.sl t, [], True⟩
 | .cell a t => let e := Gv P t (Ce st.sl a).sv st.o; ⟨e.v, [], (Ce st.sl a).sb = true /\ e.c⟩
def Jk (P : Program) (st : St) (rs : List ResultVar) : AV := match rs with
 | [r] => (Ud P st r).v
 | rs => .tup (rs.map fun r => (Ud P st r).v)
def S9 (P : Program) (st : St) : List ResultVar -> Prop
 | [] => True
 | r :: rs => (Ud P st r).c /\ S9 P st rs
theorem Ak1 {E : Ent} {β : Nat -> Option Nat} {st : St} {a : Act} {w : World} (r : Rel E β st a w) {x : ResultVar} (hc : (Ud P st x).c) :
 ∃ v, ((match x with | .tmp t => pure (a.tmps.getD t undef) | .cell ad t => do loadVar t (<- asAddr (a.tmps.getD ad undef)) : Sem Value)).run P w = .ok v w /\ Br (E.C β st w) (Ud P st x).v v := by
 cases x with
 | tmp t => exact ⟨_, rfl, Jl r (.tmp t)⟩
 | cell ad t =>
  obtain ⟨h1, h2⟩ := hc
  have hx := (Jl r (.tmp ad)).sv.1 h1
  obtain ⟨v, g1, g2, _⟩ := Aj8 (P := P) r hx h2
  refine ⟨v, ?_, g2⟩
  simp only [Act.eval] at g1
  revert g1
  simp only [Instr.loadAt]
  generalize a.tmps.getD ad undef = u
  intro g1
  cases u with
  | pointer A =>
   cases A with
   | some x => simpa [Instr.sureAddr, asAddr] using g1
   | none => simp [Instr.sureAddr] at g1
  | _ => simp [Instr.sureAddr] at g1
theorem Acy {E : Ent} {β : Nat -> Option Nat} {st : St} {a : Act} {w : World} (r : Rel E β st a w) {fn : Func} {rs : List ResultVar} (hrs : fn.results = rs.toArray) (hc : S9 P st rs) :
 ∃ v, (results fn a.tmps).run P w = .ok v w /\ Br (E.C β st w) (Jk P st rs) v := by
 have hall : ∀ (rs : List ResultVar), S9 P st rs -> ∃ vs : List Value, (rs.mapM (fun x => (match x with | .tmp t => pure (a.tmps.getD t undef) | .cell ad t => do loadVar t (<- asAddr (a.tmps.getD ad undef)) : Sem Value))).run P w = .ok vs w /\ vs.length = rs.length /\
  ∀ (i : Nat) (x : ResultVar) (v : Value), rs[i]? = some x -> vs[i]? = some v -> Br (E.C β st w) (Ud P st x).v v := by
  intro rs
  induction rs with
  | nil => intro _; exact ⟨[], rfl, rfl, fun i x v h => by simp at h⟩
  | cons x rs ih =>
   intro ⟨h1, h2⟩
   obtain ⟨v, g1, g2⟩ := Ak1 r h1
   obtain ⟨vs, q1, q2, q3⟩ := ih h2
   refine ⟨v :: vs, ?_, by simp [q2], fun i y u hy hu => ?_⟩
   ·rw [List.mapM_cons]
    simp only [Sem.run_bind]
    rw [g1]
    simp only [Result.andThen_ok]
    rw [q1]
    rfl
   cases i with
   | zero => simp at hy hu; subst hy hu; exact g2
   | succ i => simp at hy hu; exact q3 i y u hy hu
 obtain ⟨vs, h1, h2, h3⟩ := hall rs hc
 refine ⟨if h : vs.toArray.size = 1 then vs.toArray[0] else .tuple vs.toArray, ?_, ?_⟩
 ·unfold results
  rw [hrs, List.mapM_toArray]
  simp only [map_eq_pure_bind, bind_assoc, pure_bind, Sem.run_bind]
  exact congrArg (fun r => Result.andThen r fun (a : List Value) w' => Sem.run P (pure (if h : a.toArray.size = 1 then a.toArray[0] else Value.tuple a.toArray)) w') h1
 match rs, h2, h3 with
 | [], h2, h3 =>
  have : vs = [] := List.eq_nil_of_length_eq_zero h2
  subst this
  exact .tup _ _ rfl fun i c u h => by simp at h
 | [x], h2, h3 =>
  obtain ⟨v, rfl⟩ : ∃ v, vs = [v] := by
   match vs, h2 with
   | [v], _ => exact ⟨v, rfl⟩
  exact h3 0 x v rfl rfl
 | x :: y :: rs, h2, h3 =>
  have hne : ¬ vs.toArray.size = 1 := by simp at h2 ⊢; omega
  rw [dif_neg hne]
  refine .tup _ _ (by simp at h2 ⊢; omega) fun i c u hc hu => ?_
  rw [Ap] at hc
  cases hq : (x :: y :: rs)[i]? with
  | none => rw [hq] at hc; cases hc
  | some z =>
   rw [hq] at hc
   simp only [Ai, Option.some.injEq] at hc
   subst hc
   exact h3 i z u hq (by simpa using hu)
def Pu (P : Program) (m : Nat) (rs : List ResultVar) (σr : List Ob) (res : AV) (e : Exit) (st : St) : Prop :=
 (e = .normal \/ e = .ret) /\ S9 P st rs /\ ∃ sel, Acf ⟨[(0, Jk P st rs)], st.ob⟩ sel ⟨[(0, res)], σr⟩ /\ ∀ id, id < m -> sel[id]? = some id
theorem Rel.shut {E : Ent} {β : Nat -> Option Nat} {st : St} {a : Act} {w : World} (r : Rel E β st a w) {D : Nat} {ds : List Nat} (hds : E.ds = D :: ds) :
 Rel { E with ds := ds, kb := fun b => if b = D then none else E.kb b } β st ⟨a.tmps, ds.map dmk⟩ (w.putObj D (.deferred none)) := by
 have hD := r.dk.2 D (by rw [hds]; simp)
 have hDw := r.kb D _ hD.1
 have hsz : (w.putObj D (.deferred none)).heap.size = w.heap.size := by simp [World.putObj]
 have hfar : ∀ b, b ≠ D -> (w.putObj D (.deferred none)).heap[b]? = w.heap[b]? := fun b hb => World.putObj_heap_other hb
 have hcell : ∀ b cur ty fz, w.heap[b]? = some (.cells cur ty fz) -> b ≠ D := fun b cur ty fz h e => by
  subst e
  rw [h] at hDw
  have := hDw.2
  rw [show (.deferred (some []) : Obj) = .cells cur ty fz from (Option.some.inj hDw.1).symm] at this
  cases this
 have s : Sl (E.C β st w) (E.C β st (w.putObj D (.deferred none))) := by
  refine ⟨rfl, fun _ h => h, fun _ h => h, fun _ h => h, Nat.le_of_eq hsz.symm, fun b _ h => h, fun b cur ty fz _ _ h => (hfar b (hcell b _ _ _ h)).trans h, fun id ty cs h => ⟨⟨cs, h⟩, rfl⟩, fun id ty k fr fz es h => ⟨fr, fz, es, h, Aj _, fun _ => ⟨rfl, fun b cur hb hc => ⟨cur, (hfar b (hcell b _ _ _ hc)).trans hc, rfl⟩⟩⟩⟩
 refine ⟨r.sz, fun t => (r.sl t).stepW s, rfl, fun id => ?_, r.inj, fun i b hi hb => ?_, ?_, r.ct.stepW s, fun b o h => ?_, ?_⟩
 ·have hr := r.ob id
  cases hq : st.o id with
  | gone => trivial
  | box ty cs =>
   rw [hq] at hr
   refine hr.stepW s rfl fun b hb => ?_
   obtain ⟨b', cur, q1, q2, _⟩ := hr
   have q1 : β id = some b' := q1
   have hb : β id = some b := hb
   rw [hb] at q1
   injection q1 with q1
   subst q1
   exact hfar b (hcell b _ _ _ q2)
  | row ty k fr fz es =>
   rw [hq] at hr
   refine hr.stepW s rfl fun b hb => ?_
   have h2 := hr.2
   rw [hb] at h2
   obtain ⟨cur, c, q2, _⟩ := h2
   exact hfar b (hcell b _ _ _ q2)
 ·have := r.rng i b hi hb
  exact ⟨by rw [hsz]; exact this.1, this.2⟩
 ·have h := r.kp
  have h2 := hD.2
  exact ⟨h.os, h.tape, h.output, by have h3 := h.size; show E.w0.heap.size <= (w.putObj D (.deferred none)).heap.size; rw [hsz]; exact h3, fun b hb hm => (hfar b (by have hb : b < E.w0.heap.size := hb; omega)).trans (h.block b hb hm)⟩
 ·have h : (if b = D then none else E.kb b) = some o := h
  by_cases e : b = D
  ·rw [if_pos e] at h; cases h
  rw [if_neg e] at h
  exact ⟨(hfar b e).trans (r.kb b o h).1, (r.kb b o h).2⟩
 have h1 := r.dk.1
 rw [hds] at h1
 obtain ⟨h2, h3⟩ := List.nodup_cons.1 h1
 refine ⟨h3, fun D' hD' => ?_⟩
 have := r.dk.2 D' (by rw [hds]; simp [hD'])
 refine ⟨?_, this.2⟩
 show (if D' = D then none else E.kb D') = _
 rw [if_neg fun e => h2 (by rw [<- e]; exact hD')]
 exact this.1
theorem Wm {E0 : Ent} {fn : Func} {rs : List ResultVar} (hrs : fn.results = rs.toArray) {m : Nat} {σr : List Ob} {res : AV} (hE : ∀ id, m <= id -> E0.o0 id = .gone) (h0 : ∀ b o, E0.kb b = some o -> b < E0.w0.heap.size) (h0d : E0.ds = []) {R : Ending -> World -> Prop} (hR : ∀ v β' w', Rel { E0 with n := 1 } β' ⟨[(0, res)], σr⟩ ⟨#[v], []⟩ w' -> R (.returned v) w') : ∀ (ds : List Nat) (E : Ent) (β : Nat -> Option Nat) (st : St) (a : Act) (w : World), Ej { E0 with n := fn.ntmps } E -> E.ds = ds -> Rel E β st a w -> S9 P st rs -> (∃ sel, Acf ⟨[(0, Jk P st rs)], st.ob⟩ sel ⟨[(0, res)], σr⟩ /\ ∀ id, id < m -> sel[id]? = some id) ->
 LeavesInM Fence.wide 0 P fn a.tmps R (ds.map dmk) .returning w
 | [], E, β, st, a, w, hle, hds, r, hc, ⟨sel, hw, hm⟩ => by
  obtain ⟨v, g1, g2⟩ := Acy r hrs hc
  have hle' := hle
  obtain ⟨⟨ds1, kb1, rfl⟩, hkb⟩ := hle'
  have r3 : Rel { E0 with n := 1 } β ⟨[(0, Jk P st rs)], st.ob⟩ ⟨#[v], []⟩ w := by
   refine ⟨rfl, fun t => ?_, by show [] = E0.ds.map dmk; rw [h0d]; rfl, r.ob, r.inj, r.rng, r.kp, r.ct, fun b o h => r.kb b o (hkb b o h), by show E0.ds.Nodup /\ _; rw [h0d]; exact ⟨List.nodup_nil, fun D h => by cases h⟩⟩
   cases t with
   | zero => exact g2
   | succ t => exact .any _
  obtain ⟨β2, r4⟩ := r3.weak hw fun id hid => hm id (Nat.lt_of_not_le fun hle2 => hid (hE id hle2))
  exact ⟨v, g1, hR v β2 w r4⟩
 | D :: ds, E, β, st, a, w, hle, hds, r, hc, hw => by
  have hD := r.dk.2 D (by rw [hds]; simp)
  have hDw := (r.kb D _ hD.1).1
  refine ⟨by simp, .inl ⟨D, _, rfl, run_takeDeferred hDw, ?_⟩⟩
  have hle' := hle
  obtain ⟨⟨ds1, kb1, rfl⟩, hkb⟩ := hle'
  exact Wm hrs hE h0 h0d hR ds _ β st ⟨a.tmps, ds.map dmk⟩ _ ⟨⟨_, _, rfl⟩, fun b o h => by
   have h1 := h0 b o h
   have h2 : E0.w0.heap.size <= D := hD.2
   show (if b = D then none else kb1 b) = some o
   rw [if_neg (by omega)]
   exact hkb b o h⟩ rfl (r.shut hds) hc hw
theorem Y0 {f : FuncId} {fn : Func} {c : Code} {args : List AV} {σa σr : List Ob} {res : AV} (hf : P.funcs[f]? = some fn) (hb : fn.body = some c) (hn : (fn.name == "runtime.NumGoroutine") = false) {rs : List ResultVar} (hrs : fn.results = rs.toArray) (hk : args.length <= fn.ntmps)
 (h : VW P fn.ntmps σa.length c ⟨E8 0 args, σa⟩ (Pu P σa.length rs σr res)) : B8 P f σa args σr res := by
 refine ⟨⟨fn, hf, by rw [hb]; rfl, hn⟩, fun E β us hen ho hβ r => ?_⟩
 have hsz : us.size = args.length := r.sz.trans hen
 have hds : E.ds = [] := by
  have := r.df
  cases hq : E.ds with
  | nil => rfl
  | cons x xs => rw [hq] at this; cases this
 refine (callsIn_wide (n := 0)).1 (callsIn_of_wp_marks hf hb trivial ?_)
 have r' : Rel { E with n := fn.ntmps } β ⟨E8 0 args, σa⟩ ⟨us ++ Array.replicate (fn.ntmps - us.size) undef, []⟩ E.w0 := by
  refine ⟨by simp [hsz]; omega, fun t => ?_, r.df, r.ob, r.inj, r.rng, r.kp, r.ct, r.kb, r.dk⟩
  have hr := r.sl t
  by_cases ht : t < us.size
  ·show Br _ _ ((us ++ Array.replicate (fn.ntmps - us.size) undef).getD t undef)
   rw [Av, Bk ht, <- Av]
   exact hr
  have : Ce (E8 0 args) t = .any := by
   rw [Iq, Nat.sub_zero, if_pos (Ae _), Ad, Ar (by omega)]; rfl
  show Br _ (Ce (E8 0 args) t) _
  rw [this]
  exact .any _
 have hE : ∀ id, σa.length <= id -> E.o0 id = .gone := fun id hid => by
  rw [ho]
  exact Dx ⟨[], σa⟩ id hid
 have h0 : ∀ b o, E.kb b = some o -> b < E.w0.heap.size := fun b o h => (Aw.1 (r.kb b o h).1).1
 refine wpIn_mono (h { E with n := fn.ntmps } Fence.wide ⟨rfl, hE⟩ (.inl rfl) β _ _ r') fun e a w ⟨E', s, β1, hle, h1, h2⟩ => ?_
 obtain ⟨he, hc, hw⟩ := h1
 have key : LeavesInM Fence.wide 0 P fn a.tmps (fun e w' => ∃ v β', e = .returned v /\ Rel { E with n := 1 } β' ⟨[(0, res)], σr⟩ ⟨#[v], []⟩ w') a.defers .returning w := by
  rw [h2.df]
  exact Wm (E0 := E) hrs hE h0 hds (fun v β' w' h => ⟨v, β', rfl, h⟩) E'.ds E' β1 s a w hle rfl h2 hc hw
 rcases he with rfl | rfl <;> exact key
end
end Go.Proofs.YtkkimgjinbaemaaGreat
