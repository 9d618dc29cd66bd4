/- The walk. -/
import Derived.Test.YtkkimgjinbaemaaGreatKam
namespace Go.Proofs.YtkkimgjinbaemaaGreat
open Go.RowKit
set_option linter.unusedVariables false
set_option linter.unusedSimpArgs false
set_option maxRecDepth 100000
set_option maxHeartbeats 4000000
section
variable {P : Program}
def St.eff (st : St) (g : Gd) (d : Option Tmp) (e : AV × List (Nat × Ob)) : E1 := match g with
 | .no => ⟨d, e.1, e.2⟩
 | g => ⟨d, .gd (st.gb g) e.1, bif st.gb g then e.2 else []⟩
theorem Aax (st : St) (g : Gd) (d : Option Tmp) (e : AV × List (Nat × Ob)) : st.afterG g d e = E1.ap st (st.eff g d e) := by
 cases g <;> rfl
theorem Aqh (st : St) (g : Gd) (d : Option Tmp) (e : AV × List (Nat × Ob)) : (st.eff g d e).d = d := by cases g <;> rfl
theorem An4 (st : St) (g : Gd) (d : Option Tmp) (e : AV × List (Nat × Ob)) : ∀ p ∈ (st.eff g d e).up, p ∈ e.2 := by
 intro p hp
 cases g with
 | no => exact hp
 | bad => cases hp
 | _ t b =>
  simp only [St.eff] at hp
  cases hb : st.gb (.at t b) <;> rw [hb] at hp
  ·cases hp
  exact hp
abbrev Tr := List (List Nat × List Nat)
def Dj (P : Program) : List VO -> St -> Tr -> (Tr -> St -> Prop) -> Prop
 | [], st, tr, K => K tr st
 | v :: os, st, tr, K => st.gc v.g /\
  if Ck v.op then ∃ e : AV × List (Nat × Ob), (st.gb v.g = true -> Qq P v.op v.ty st st.ob.length e) /\ Dj P os (st.afterG v.g v.d e) ((Cs v.op st, e.2.map (·.1)) :: tr) K
  else (st.gb v.g = true -> Eu P v.op v.ty st st.ob.length) /\ Dj P os (st.afterG v.g v.d (Fs P v.op v.ty st st.ob.length)) ((Cs v.op st, (Fs P v.op v.ty st st.ob.length).2.map (·.1)) :: tr) K
theorem Acu : ∀ (l : List VO) (st : St) (tr : Tr) (K : Tr -> St -> Prop), Dj P l st tr K -> ∃ (f : Nat -> E1) (e : Nat -> AV × List (Nat × Ob)) (tr' : Tr),
 (∀ (j : Nat) (v : VO), l[j]? = some v -> (apL st ((List.range j).map f)).gc v.g /\ ((apL st ((List.range j).map f)).gb v.g = true -> Qq P v.op v.ty (apL st ((List.range j).map f)) (apL st ((List.range j).map f)).ob.length (e j)) /\
  f j = (apL st ((List.range j).map f)).eff v.g v.d (e j) /\ tr'.reverse[tr.length + j]? = some (Cs v.op (apL st ((List.range j).map f)), (e j).2.map (·.1))) /\
  (∃ q, tr' = q ++ tr) /\ K tr' (apL st ((List.range l.length).map f))
 | [], st, tr, K, h => ⟨fun _ => ⟨none, .any, []⟩, fun _ => (.any, []), tr, fun j v hv => by simp at hv, ⟨[], rfl⟩, h⟩
 | v :: os, st, tr, K, h => by
  obtain ⟨hg, h⟩ := h
  have hh : ∃ e : AV × List (Nat × Ob), (st.gb v.g = true -> Qq P v.op v.ty st st.ob.length e) /\ Dj P os (st.afterG v.g v.d e) ((Cs v.op st, e.2.map (·.1)) :: tr) K := by
   cases hc : Ck v.op with
   | true => rw [hc, if_pos rfl] at h; exact h
   | false =>
    rw [hc, if_neg (by simp)] at h
    exact ⟨_, fun hb => Zd hc (h.1 hb), h.2⟩
  obtain ⟨e0, h1, h2⟩ := hh
  obtain ⟨f, e, tr', h3, ⟨q, h4⟩, h5⟩ := Acu os _ _ K h2
  have hap : ∀ j, apL st ((List.range (j + 1)).map fun i => match i with | 0 => st.eff v.g v.d e0 | i + 1 => f i) = apL (st.afterG v.g v.d e0) ((List.range j).map f) := fun j => by
   rw [List.range_succ_eq_map, List.map_cons, List.map_map, Aax]
   rfl
  refine ⟨fun i => match i with | 0 => st.eff v.g v.d e0 | i + 1 => f i, fun i => match i with | 0 => e0 | i + 1 => e i, tr', fun j v' hv' => ?_, ⟨q ++ [(Cs v.op st, e0.2.map (·.1))], by rw [h4]; simp⟩, ?_⟩
  ·cases j with
   | zero =>
    simp only [List.getElem?_cons_zero, Option.some.injEq] at hv'
    subst hv'
    refine ⟨hg, h1, rfl, ?_⟩
    rw [h4]
    simp only [List.reverse_append, List.reverse_cons, List.append_assoc]
    rw [Ao (by simp)]
    simp [apL]
   | succ j =>
    simp only [Bb] at hv'
    rw [hap]
    have := h3 j v' hv'
    refine ⟨this.1, this.2.1, this.2.2.1, ?_⟩
    have h6 := this.2.2.2
    rw [A6, show tr.length + 1 + j = tr.length + (j + 1) by omega] at h6
    exact h6
  rw [A6, hap]; exact h5
def Ve {α : Type} (c : α -> α -> Bool) : List Nat -> List (Nat × α) -> Nat -> List α -> Bool
 | _, _, _, [] => true
 | an, acc, j, y :: ys => (acc.all fun p => !c p.2 y || (an.headD 0).testBit p.1) && Ve c an.tail ((j, y) :: acc) (j + 1) ys
theorem Se {α : Type} {c : α -> α -> Bool} : ∀ (ys : List α) (an : List Nat) (acc : List (Nat × α)) (j : Nat), Ve c an acc j ys = true ->
 (∀ (k : Nat) (y : α) (p : Nat × α), ys[k]? = some y -> p ∈ acc -> c p.2 y = true -> (an.getD k 0).testBit p.1 = true) /\
  ∀ (i k : Nat) (x y : α), i < k -> ys[i]? = some x -> ys[k]? = some y -> c x y = true -> (an.getD k 0).testBit (j + i) = true
 | [], an, acc, j, h => ⟨fun k y p hy => by simp at hy, fun i k x y _ hx => by simp at hx⟩
 | z :: ys, an, acc, j, h => by
  simp only [Ve, Ah] at h
  obtain ⟨h1, h2⟩ := h
  obtain ⟨h3, h4⟩ := Se ys an.tail ((j, z) :: acc) (j + 1) h2
  have htl : ∀ k, an.getD (k + 1) 0 = an.tail.getD k 0 := fun k => by cases an <;> simp
  refine ⟨fun k y p hy hp hc => ?_, fun i k x y hik hx hy hc => ?_⟩
  ·cases k with
   | zero =>
    simp only [List.getElem?_cons_zero, Option.some.injEq] at hy
    subst hy
    have := Am.1 h1 p hp
    rw [hc] at this
    simpa [List.headD_eq_head?_getD, Ad, List.head?_eq_getElem?] using this
   | succ k =>
    simp only [Bb] at hy
    rw [htl]
    exact h3 k y p hy (by simp [hp]) hc
  cases k with
  | zero => omega
  | succ k =>
   simp only [Bb] at hy
   rw [htl]
   cases i with
   | zero =>
    simp only [List.getElem?_cons_zero, Option.some.injEq] at hx
    subst hx
    exact h3 k y (j, z) hy (by simp) hc
   | succ i =>
    simp only [Bb] at hx
    have := h4 i k x y (by omega) hx hy hc
    rwa [show j + (i + 1) = j + 1 + i by omega]
def Z3 (x y : VO) : Bool := (match x.d with | some d => (Ke y.op y.g).contains d || y.d == some d | none => false) || (match y.d with | some d => (Ke x.op x.g).contains d | none => false)
theorem Agh {x y : VO} {t : Nat} (h : x.d = some t) (h2 : t ∈ Ke y.op y.g \/ y.d = some t) : Z3 x y = true := by
 unfold Z3
 simp only [h, Bool.or_eq_true]
 rcases h2 with h2 | h2
 ·exact .inl (.inl (by simpa using h2))
 exact .inl (.inr (by rw [h2]; simp))
theorem Amw {x y : VO} {t : Nat} (h : y.d = some t) (h2 : t ∈ Ke x.op x.g) : Z3 x y = true := by
 unfold Z3
 simp only [h, Bool.or_eq_true]
 exact .inr (by simpa using h2)
def ov (a b : List Nat) : Bool := a.any fun x => b.contains x
theorem Aj7 {a b : List Nat} {x : Nat} (ha : x ∈ a) (hb : x ∈ b) : ov a b = true := List.any_eq_true.2 ⟨x, ha, by simpa using hb⟩
def Anx (x y : List Nat × List Nat) : Bool := ov x.2 y.1 || ov x.2 y.2 || ov x.1 y.2
def back (l : List Oper) : Bool := (l.zipIdx).all fun p => p.1.after.toList.all fun e => !Region.binds .any e || decide (e.on < p.2)
def Fy (l : List Oper) : Bool := back l && Ve Z3 (Ys l []) [] 0 (Dg l)
def Mx (l : List Oper) (tr : Tr) : Bool := Ve Anx (Ys l []) [] 0 tr.reverse
theorem Aof {l : List Oper} (h : back l = true) : ∀ (j : Nat) (o : Oper), l[j]? = some o -> ∀ e ∈ o.after, Region.binds .any e = true -> e.on < j := fun j o ho e he hb => by
 have := Am.1 h (o, j) (by rw [List.mem_zipIdx_iff_getElem?]; exact ho)
 have := Am.1 this e (by simpa using he)
 simpa [hb] using this
def Dn (listed : Array Bool) (i : Nat) : Bool := listed.getD i false
def Amf (v : VO) (rd wr : List Nat) : Loc -> Prop
 | .s t => t ∈ Ke v.op v.g \/ v.d = some t
 | .o id => id ∈ rd \/ id ∈ wr
section
variable {E : Ent} {l : List Oper} {st : St} {f : Nat -> E1} {e : Nat -> AV × List (Nat × Ob)} {tr : Tr}
structure Afc (P : Program) (E : Ent) (l : List Oper) (st : St) (f : Nat -> E1) (e : Nat -> AV × List (Nat × Ob)) (tr : Tr) : Prop where
  hd : ∀ o ∈ l, ∀ x, o.dst = some x -> x < E.n
  hs : Fy l = true
  hi : Mx l tr = true
  run : ∀ (j : Nat) (v : VO), (Dg l)[j]? = some v -> (apL st ((List.range j).map f)).gc v.g /\ ((apL st ((List.range j).map f)).gb v.g = true -> Qq P v.op v.ty (apL st ((List.range j).map f)) (apL st ((List.range j).map f)).ob.length (e j)) /\
      f j = (apL st ((List.range j).map f)).eff v.g v.d (e j) /\ tr.reverse[j]? = some (Cs v.op (apL st ((List.range j).map f)), (e j).2.map (·.1))
theorem Aai (l : List Oper) (j : Nat) : (Dg l)[j]? = (l[j]?).map fun o => ⟨o.dst, o.op, o.type, Kn l.toArray o⟩ := by simp [Dg]
theorem Afc.ord (R : Afc P E l st f e tr) {i j : Nat} {x y : VO} (hx : (Dg l)[i]? = some x) (hy : (Dg l)[j]? = some y) (hij : i < j) {ℓ : Loc}
 (h : ((f i).wr ℓ = true /\ Amf y (Cs y.op (apL st ((List.range j).map f))) ((e j).2.map (·.1)) ℓ) \/ ((f j).wr ℓ = true /\ Amf x (Cs x.op (apL st ((List.range i).map f))) ((e i).2.map (·.1)) ℓ)) :
  ((Ys l []).getD j 0).testBit i = true := by
 obtain ⟨_, _, fi, ti⟩ := R.run i x hx
 obtain ⟨_, _, fj, tj⟩ := R.run j y hy
 have hsl := R.hs
 simp only [Fy, Ah] at hsl
 have wd : ∀ {k : Nat} {v : VO} {t : Nat}, f k = (apL st ((List.range k).map f)).eff v.g v.d (e k) -> (f k).wr (.s t) = true -> v.d = some t := fun hk hw => by
  simp only [E1.wr] at hw
  rw [hk, Aqh] at hw
  simpa using hw
 have wi : ∀ {k : Nat} {v : VO} {id : Nat}, f k = (apL st ((List.range k).map f)).eff v.g v.d (e k) -> (f k).wr (.o id) = true -> id ∈ (e k).2.map (·.1) := fun hk hw => by
  simp only [E1.wr] at hw
  obtain ⟨p, h1, h2⟩ := List.any_eq_true.1 hw
  rw [hk] at h1
  have := An4 _ _ _ _ p h1
  exact A4.2 ⟨p, this, by simpa using h2⟩
 cases ℓ with
 | s t =>
  have := (Se _ _ _ _ hsl.2).2 i j x y hij hx hy (by
   rcases h with ⟨h1, h2⟩ | ⟨h1, h2⟩
   ·exact Agh (wd fi h1) h2
   rcases h2 with h2 | h2
   ·exact Amw (wd fj h1) h2
   exact Agh h2 (.inr (wd fj h1)))
  rwa [Bm] at this
 | o id =>
  have := (Se _ _ _ _ R.hi).2 i j _ _ hij ti tj (by
   unfold Anx
   rcases h with ⟨h1, h2⟩ | ⟨h1, h2⟩
   ·have := wi fi h1
    rcases h2 with h2 | h2
    ·simp [Aj7 this h2]
    simp [Aj7 this h2]
   have := wi fj h1
   rcases h2 with h2 | h2
   ·simp [Aj7 h2 this]
   simp [Aj7 h2 this])
  rwa [Bm] at this
def Ajq (l : List Oper) (D : Nat -> Bool) : Prop := ∀ (j : Nat) (o : Oper), l[j]? = some o -> D j = true -> ∀ e ∈ o.after, Region.binds .any e = true -> D e.on = true
theorem Afc.same (R : Afc P E l st f e tr) {D : Nat -> Bool} (hc : Ajq l D) {j : Nat} {o : Oper} {y : VO} (ho : l[j]? = some o) (hy : (Dg l)[j]? = some y) (hj : D j = false) (hr : ∀ e ∈ o.after, Region.binds .any e = true -> D e.on = true) {ℓ : Loc}
 (ht : Amf y (Cs y.op (apL st ((List.range j).map f))) ((e j).2.map (·.1)) ℓ) : gt (apL st (LD l.length f D)) ℓ = gt (apL st ((List.range j).map f)) ℓ := by
 have hjl : j < l.length := (Ab.1 ho).1
 rw [<- Adh f st l.length j (by omega)]
 refine Afe fun i hi hw => ?_
 have hx : ∃ ox, l[i]? = some ox := ⟨_, Aa hi⟩
 obtain ⟨ox, hox⟩ := hx
 have hx : (Dg l)[i]? = some ⟨ox.dst, ox.op, ox.type, Kn l.toArray ox⟩ := by rw [Aai, hox]; rfl
 by_cases hij : i < j
 ·rw [decide_eq_true hij]
  exact Aja hc j o ho hr i (R.ord hx hy hij (.inl ⟨hw, ht⟩))
 rw [decide_eq_false hij]
 by_cases he : i = j
 ·rw [he]; exact hj
 cases hD : D i with
 | false => rfl
 | true =>
  have := Aja hc i ox hox (hc i ox hox hD) j (R.ord hy hx (by omega) (.inr ⟨hw, ht⟩))
  rw [hj] at this; cases this
theorem Apx {s s' : St} {op : Op} {g : Gd} (h : ∀ t ∈ Ke op g, Ce s.sl t = Ce s'.sl t) : s.gc g = s'.gc g /\ s.gb g = s'.gb g := by
 cases g with
 | no => exact ⟨rfl, rfl⟩
 | bad => exact ⟨rfl, rfl⟩
 | _ t b => have := h t (by simp [Ke]); simp only [St.gc, St.gb, this, and_self]
theorem An5 {s s' : St} {g : Gd} (h : s.gb g = s'.gb g) (d : Option Tmp) (e : AV × List (Nat × Ob)) : s.eff g d e = s'.eff g d e := by
 cases g with
 | no => rfl
 | bad => rfl
 | _ t b => simp only [St.eff, h]
theorem Afc.step (R : Afc P E l st f e tr) {listed : Array Bool} (hl : listed.size = l.length) (hc : Ajq l (Dn listed)) {j : Nat} {o : Oper} (ho : l[j]? = some o) (hj : Dn listed j = false) (hr : ∀ e ∈ o.after, Region.binds .any e = true -> Dn listed e.on = true)
 {β : Nat -> Option Nat} {a : Act} {w : World} (r : Rel E β (apL st (LD l.length f (Dn listed))) a w) {F : Fence} (hF : FOk E F) {K : Act -> World -> Prop} {Q : Exit -> Act -> World -> Prop}
  (hK : ∀ β' a' w', Rel E β' (apL st (LD l.length f (Dn (listed.setIfInBounds j true)))) a' w' -> K a' w') : wpOpIn F 0 P l.toArray Q j K a w := by
 have hjl : j < l.length := (Ab.1 ho).1
 have hy : (Dg l)[j]? = some ⟨o.dst, o.op, o.type, Kn l.toArray o⟩ := by rw [Aai, ho]; rfl
 obtain ⟨h1, h2, h3, h4⟩ := R.run j _ hy
 simp only at h1 h2 h3 h4
 have hsl : ∀ t ∈ Ke o.op (Kn l.toArray o), Ce (apL st ((List.range j).map f)).sl t = Ce (apL st (LD l.length f (Dn listed))).sl t := fun t ht =>
  congrArg Prod.fst (R.same hc ho hy hj hr (ℓ := .s t) (.inl ht)).symm
 have hob : ∀ id, (id ∈ Cs o.op (apL st ((List.range j).map f)) \/ id ∈ (e j).2.map (·.1)) -> (apL st ((List.range j).map f)).o id = (apL st (LD l.length f (Dn listed))).o id := fun id ht =>
  congrArg Prod.snd (R.same hc ho hy hj hr (ℓ := .o id) ht).symm
 obtain ⟨g1, g2⟩ := Apx hsl
 have hD' : ∀ i, Dn (listed.setIfInBounds j true) i = if i = j then true else Dn listed i := fun i => by
  unfold Dn
  by_cases he : i = j
  ·subst he; rw [if_pos rfl]; simp [hl, hjl]
  rw [if_neg he, getD_set_ne false (Ne.symm he)]
 unfold wpOpIn
 have ho' : l.toArray[j]? = some o := by simpa using ho
 simp only [ho']
 refine P9 r (hd := R.hd o (Ac ho)) (nid := (apL st ((List.range j).map f)).ob.length) (hg := by rw [<- g1]; exact h1) (e := e j) (fun hb p hp hge => ?_) (fun hb => ?_) hF fun β' a' w' r' => ?_
 ·rw [<- hob p.1 (.inr (A4.2 ⟨p, hp, rfl⟩))]
  exact Dx _ _ hge
 ·exact Ajr hsl (fun id hid => hob id (.inl hid)) (h2 (by rw [g2]; exact hb))
 refine hK β' a' w' (r'.congr fun ℓ => ?_)
 rw [Aax, An5 g2.symm, <- h3, Aqg]
 cases hw : (f j).wr ℓ with
 | true =>
  refine (Ap8 hjl (by rw [hD', if_pos rfl]) hw fun i hi hDi hwi => ?_).symm
  by_cases he : i = j
  ·omega
  rw [hD', if_neg he] at hDi
  apply Classical.byContradiction
  intro hlt
  have hx : ∃ ox, l[i]? = some ox := ⟨_, Aa hi⟩
  obtain ⟨ox, hox⟩ := hx
  have hx : (Dg l)[i]? = some ⟨ox.dst, ox.op, ox.type, Kn l.toArray ox⟩ := by rw [Aai, hox]; rfl
  have := Aja hc i ox hox (hc i ox hox hDi) j (R.ord hy hx (by omega) (.inr ⟨hwi, by
   cases ℓ with
   | s t =>
    refine .inr ?_
    simp only [E1.wr] at hw
    rw [h3, Aqh] at hw
    simpa using hw
   | o id =>
    refine .inr ?_
    simp only [E1.wr] at hw
    obtain ⟨p, q1, q2⟩ := List.any_eq_true.1 hw
    rw [h3] at q1
    exact A4.2 ⟨p, An4 _ _ _ _ p q1, by simpa using q2⟩⟩))
  rw [hj] at this; cases this
 | false =>
  refine Afe fun i hi hwi => ?_
  rw [hD', if_neg]
  rintro rfl
  rw [hw] at hwi; cases hwi
theorem Afc.any (R : Afc P E l st f e tr) {F : Fence} (hF : FOk E F) {Q : Exit -> Act -> World -> Prop} (hQ : ∀ β a w, Rel E β (apL st ((List.range l.length).map f)) a w -> Q .normal a w) : ∀ (fuel : Nat) (listed : Array Bool) (a : Act) (w : World) (β : Nat -> Option Nat),
 listed.size = l.length -> Ajq l (Dn listed) -> (List.range l.length).countP (fun i => !Dn listed i) <= fuel -> Rel E β (apL st (LD l.length f (Dn listed))) a w -> wpAnyIn F 0 P .any l.toArray Q fuel listed a w := by
 have hend : ∀ (listed : Array Bool) (a : Act) (w : World) (β : Nat -> Option Nat), (∀ i, i < l.length -> Dn listed i = true) -> Rel E β (apL st (LD l.length f (Dn listed))) a w -> Q .normal a w := fun listed a w β hall r =>
  hQ β a w (r.congr fun ℓ => by
   rw [<- Adh f st l.length l.length (Aj _)]
   exact Afe fun i hi _ => by rw [hall i hi, decide_eq_true hi])
 have hsl := R.hs
 simp only [Fy, Ah] at hsl
 have hback := Aof hsl.1
 have hnone : ∀ (listed : Array Bool), listed.size = l.length -> Region.ready .any l.toArray listed = [] -> ∀ i, i < l.length -> Dn listed i = true := fun listed hsz hre i => by
  induction i using Nat.strongRecOn with
  | _ i ih =>
   intro hi
   cases hD : Dn listed i with
   | true => rfl
   | false =>
    have : i ∈ Region.ready .any l.toArray listed := by
     rw [mem_ready]
     refine ⟨?_, l[i], by simp [hi], fun e' he' hb => ?_⟩
     ·have hD' : listed.getD i false = false := hD
      simp only [Array.getD, hsz, hi, dif_pos] at hD' ⊢
      exact hD'
     have := hback i _ (Aa hi) e' he' hb
     exact ih e'.on this (by omega)
    rw [hre] at this; cases this
 intro fuel
 induction fuel with
 | zero =>
  intro listed a w β hsz hc hcnt r
  have hall : ∀ i, i < l.length -> Dn listed i = true := fun i hi => by
   have h0 : (List.range l.length).countP (fun i => !Dn listed i) = 0 := by omega
   have := List.countP_eq_zero.1 h0 i (List.mem_range.2 hi)
   simpa using this
  refine ⟨?_, hend listed a w β hall r⟩
  rw [List.eq_nil_iff_forall_not_mem]
  intro j hj
  obtain ⟨h1, o, ho, _⟩ := mem_ready.1 hj
  have hjl : j < l.length := by
   have := (Aw.1 ho).1
   simpa using this
  have := hall j hjl
  unfold Dn at this
  simp only [Array.getD, hsz, hjl, dif_pos] at this h1
  rw [this] at h1; cases h1
 | succ fuel ih =>
  intro listed a w β hsz hc hcnt r
  refine ⟨fun hre => hend listed a w β (hnone listed hsz hre) r, fun j hj => ?_⟩
  obtain ⟨h1, o, ho, hall⟩ := mem_ready.1 hj
  have ho' : l[j]? = some o := by simpa using ho
  have hjl : j < l.length := (Ab.1 ho').1
  have hDj : Dn listed j = false := by
   unfold Dn
   simp only [Array.getD, hsz, hjl, dif_pos] at h1 ⊢
   exact h1
  refine R.step hsz hc ho' hDj hall r hF fun β' a' w' r' => ih _ a' w' β' (by simp [hsz]) ?_ ?_ r'
  ·intro k ok hok hk e' he' hb
   by_cases hkj : k = j
   ·subst hkj
    rw [ho'] at hok
    cases hok
    exact getD_set_true (hall e' he' hb)
   refine getD_set_true (hc k ok hok ?_ e' he' hb)
   unfold Dn at hk ⊢
   rwa [getD_set_ne false (Ne.symm hkj)] at hk
  have hlt : (List.range l.length).countP (fun i => !Dn (listed.setIfInBounds j true) i) < (List.range l.length).countP (fun i => !Dn listed i) := by
   have hle : ∀ (L : List Nat), L.countP (fun i => !Dn (listed.setIfInBounds j true) i) <= L.countP (fun i => !Dn listed i) /\ (j ∈ L -> L.countP (fun i => !Dn (listed.setIfInBounds j true) i) < L.countP (fun i => !Dn listed i)) := fun L => by
    induction L with
    | nil => simp
    | cons x L ihL =>
     rw [List.countP_cons, List.countP_cons]
     by_cases hx : x = j
     ·subst hx
      have e1 : Dn (listed.setIfInBounds x true) x = true := by unfold Dn; simp [hsz, hjl]
      rw [e1, hDj]
      simp
      omega
     have e1 : Dn (listed.setIfInBounds j true) x = Dn listed x := by unfold Dn; exact getD_set_ne false (Ne.symm hx)
     rw [e1]
     refine ⟨by omega, fun hm => ?_⟩
     have := ihL.2 (by simpa [Ne.symm hx] using hm)
     omega
   exact (hle _).2 (List.mem_range.2 hjl)
  omega
end
theorem VW.draw1 {n m : Nat} {st : St} {K : Exit -> St -> Prop} {id : Nat} {l : List Oper} (hm : P.follows .mixedOrders = true) (hd : Cw n l = true) (hs : Fy l = true)
 (h : ∀ K1 : Tr -> St -> Prop, (∀ tr s, Mx l tr = true -> K .normal s -> K1 tr s) -> Dj P (Dg l) st [] K1) : VW P n m (.region id l.toArray true) st K := by
 refine fun E F hE hF β a w r => ?_
 obtain ⟨f, e, tr, h1, _, hi, h2⟩ := Acu _ _ _ _ (h (fun tr s => Mx l tr = true /\ K .normal s) fun tr s h1 h2 => ⟨h1, h2⟩)
 have R : Afc P E l st f e tr := ⟨fun o ho x hx => by rw [hE.1]; exact Lm hd o ho x hx, hs, hi, fun j v hv => by
  obtain ⟨q1, q2, q3, q4⟩ := h1 j v hv
  exact ⟨q1, q2, q3, by simpa using q4⟩⟩
 rw [show (Dg l).length = l.length by simp [Dg]] at h2
 refine wpIn_region_any hm ?_
 have h0 : ∀ i, Dn (Array.replicate l.toArray.size false) i = false := fun i => by
  unfold Dn
  rw [Av]
  cases hq : (Array.replicate l.toArray.size false)[i]? with
  | none => rfl
  | some b =>
   have := Aw.1 hq
   obtain ⟨_, q⟩ := this
   simpa using q.symm
 refine R.any hF (fun β' a' w' r' => ⟨E, _, β', Ej.refl E, h2, r'⟩) _ _ a _ β (by simp) (fun j o ho hD => by rw [h0] at hD; cases hD) ?_ ?_
 ·refine Ak List.countP_le_length ?_
  simp
 have : LD l.length f (Dn (Array.replicate l.toArray.size false)) = [] := by
  unfold LD
  rw [List.map_eq_nil_iff, List.filter_eq_nil_iff]
  intro i _
  rw [h0]; simp
 rw [this]
 exact r.drew _
theorem VW.draw_seq {n m : Nat} {st : St} {K : Exit -> St -> Prop} {id : Nat} {l : List Oper} {y : Code} (hm : P.follows .mixedOrders = true) (hd : Cw n l = true) (hs : Fy l = true)
 (h : ∀ K1 : Tr -> St -> Prop, (∀ tr s, Mx l tr = true -> VW P n m y s K -> K1 tr s) -> Dj P (Dg l) st [] K1) : VW P n m (.seq (.region id l.toArray true) y) st K := .seq (.draw1 hm hd hs h)
end
section
variable {P : Program} {d : Option Tmp} {ty : TypeId} {os : List VO} {st : St} {K : Tr -> St -> Prop} {tr : Tr}
theorem Akx : Dj P [] st tr K = K tr st := rfl
def Aih (P : Program) (d : Option Tmp) (op : Op) (ty : TypeId) (v : AV) (want : Bool) (os : List VO) (st : St) (tr : Tr) (K : Tr -> St -> Prop) : Prop :=
 F7 v.sv = true /\ ((v.sb && (C4 v.sv == want)) = true -> Eu P op ty st st.ob.length) /\
  Dj P os (st.after d (.gd (v.sb && (C4 v.sv == want)) (Fs P op ty st st.ob.length).1) (bif (v.sb && (C4 v.sv == want)) then (Fs P op ty st st.ob.length).2 else [])) ((Cs op st, (Fs P op ty st st.ob.length).2.map (·.1)) :: tr) K
def Ajo (P : Program) (d : Option Tmp) (op : Op) (ty : TypeId) (os : List VO) (st : St) (tr : Tr) (K : Tr -> St -> Prop) : Prop :=
 ∃ e : AV × List (Nat × Ob), Qq P op ty st st.ob.length e /\ Dj P os (st.after d e.1 e.2) ((Cs op st, e.2.map (·.1)) :: tr) K
def Afd (P : Program) (d : Option Tmp) (op : Op) (ty : TypeId) (v : AV) (want : Bool) (os : List VO) (st : St) (tr : Tr) (K : Tr -> St -> Prop) : Prop :=
 F7 v.sv = true /\ ∃ e : AV × List (Nat × Ob), ((v.sb && (C4 v.sv == want)) = true -> Qq P op ty st st.ob.length e) /\ Dj P os (st.after d (.gd (v.sb && (C4 v.sv == want)) e.1) (bif (v.sb && (C4 v.sv == want)) then e.2 else [])) ((Cs op st, e.2.map (·.1)) :: tr) K
theorem Amy {op : Op} : Dj P (⟨d, op, ty, .no⟩ :: os) st tr K = if Ck op = true then Ajo P d op ty os st tr K else (Eu P op ty st st.ob.length /\ Dj P os (st.after d (Fs P op ty st st.ob.length).1 (Fs P op ty st st.ob.length).2) ((Cs op st, (Fs P op ty st st.ob.length).2.map (·.1)) :: tr) K) := by
 simp only [Dj, St.gc, St.gb, St.afterG, true_and, forall_const, Ajo]
theorem Amz {op : Op} {t : Tmp} {want : Bool} : Dj P (⟨d, op, ty, .at t want⟩ :: os) st tr K = if Ck op = true then Afd P d op ty (Ce st.sl t) want os st tr K else Aih P d op ty (Ce st.sl t) want os st tr K := by
 simp only [Dj, St.gc, St.gb, St.afterG, Aih, Afd]
 split <;> simp only [and_true, true_and]
section
variable {nid : Nat} {x y z c a b : Operand} {t u : TypeId}
theorem Apf : Cs (.move x) st = [] := rfl
theorem Ak2 : Cs (.assign x) st = [] := rfl
theorem Anc : Cs (.alloc t) st = [] := by simp [Cs, G0, C5, Ft, Op.operands, Ef]
theorem Aqt : Cs (.box t x) st = (st.raw x).ids := by simp [Cs, G0, C5, Ft, Op.operands, Ef]
theorem Apg : Cs (.load t x) st = (st.raw x).ids := by simp [Cs, G0, C5, Ft, Op.operands, Ef]
theorem Am8 : Cs (.store t x y) st = (st.raw x).ids ++ (st.raw y).ids := by simp [Cs, G0, C5, Ft, Op.operands, Ef]
theorem Agn : Cs (.nilCheck x) st = (st.raw x).ids := by simp [Cs, G0, C5, Ft, Op.operands, Ef]
theorem Anb {op : BinOp} : Cs (.binOp op t x y u) st = (st.raw x).ids ++ (st.raw y).ids := by simp [Cs, G0, C5, Ft, Op.operands, Ef]
theorem Apd {op : UnOp} : Cs (.unOp op t x) st = (st.raw x).ids := by simp [Cs, G0, C5, Ft, Op.operands, Ef]
theorem Aio : Cs (.convert t u x) st = (st.raw x).ids := by simp [Cs, G0, C5, Ft, Op.operands, Ef]
theorem Aek {f : Nat} : Cs (.fieldAddr t x f) st = (st.raw x).ids := by simp [Cs, G0, C5, Ft, Op.operands, Ef]
theorem Aej : Cs (.indexAddr t x y) st = (st.raw x).ids ++ (st.raw y).ids := by simp [Cs, G0, C5, Ft, Op.operands, Ef]
theorem Ain {i : Nat} : Cs (.extract x i) st = (st.raw x).ids := by simp [Cs, G0, C5, Ft, Op.operands, Ef]
theorem Ape : Cs (.pick c a b) st = (st.raw c).ids ++ ((st.raw a).ids ++ (st.raw b).ids) := by simp [Cs, G0, C5, Ft, Op.operands, Ef]
theorem Ana {ps : List (Nat × Operand)} : Cs (.build t ps.toArray) st = Ef (ps.map fun p => st.raw p.2) := by simp [Cs, G0, C5, Ft, Op.operands, Function.comp_def]
theorem Ab1 {n : Nat} {ps : List (Nat × Operand)} : Cs (.buildSlice t n ps.toArray) st = Ef (ps.map fun p => st.raw p.2) := by simp [Cs, G0, C5, Ft, Op.operands, Function.comp_def]
theorem Ago {f : FuncId} {cs : List Operand} : Cs (.makeFunc (.func f) #[] cs.toArray) st = Ef (cs.map st.raw) := by simp [Cs, G0, C5, Ft, Op.operands]
theorem Aei : Cs (.makeSlice t x y) st = (st.raw x).ids ++ (st.raw y).ids := by simp [Cs, G0, C5, Ft, Op.operands, Ef]
theorem Aim : Cs (.slice t x none none none) st = (st.raw x).ids := by simp [Cs, G0, C5, Ft, Op.operands, Ef]
theorem Aik : Cs (.slice t x (some y) none none) st = (st.raw x).ids ++ (st.raw y).ids := by simp [Cs, G0, C5, Ft, Op.operands, Ef]
theorem Ail : Cs (.slice t x none (some y) none) st = (st.raw x).ids ++ (st.raw y).ids := by simp [Cs, G0, C5, Ft, Op.operands, Ef]
theorem Aij : Cs (.slice t x (some y) (some z) none) st = (st.raw x).ids ++ ((st.raw y).ids ++ (st.raw z).ids) := by simp [Cs, G0, C5, Ft, Op.operands, Ef]
theorem Am9 {f : Builtin} {xs : List Operand} {ts : Array TypeId} : Cs (.call ⟨.builtin f, xs.toArray, ts⟩) st = Ef (xs.map st.raw) := by simp [Cs, G0, C5, Ft, Op.operands, Call.operands]
theorem Aph {fo : Operand} {xs : List Operand} {ts : Array TypeId} : Cs (.call ⟨.value fo, xs.toArray, ts⟩) st = rdC st.o ((st.raw fo).ids ++ Ef (xs.map st.raw)) := by simp [Cs, G0, C5, Ft, Op.operands, Call.operands, Ef]
end
attribute [go_sem] Akx Amy Amz Aih Apf Ak2 Anc Aqt Apg Am8 Agn Anb Apd Aio Aek Aej Ain Ape Ana Ab1 Ago Aei Aim Aik Ail Aij Am9 Aph AV.ids Ef rdC Si obI
end
end Go.Proofs.YtkkimgjinbaemaaGreat
