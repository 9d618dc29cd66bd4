/- The walk. -/
import Derived.Test.YtkkimgjinbaemaaGreatKae
namespace Go.Proofs.YtkkimgjinbaemaaGreat
open Go.RowKit
set_option linter.unusedVariables false
set_option linter.unusedSimpArgs false
set_option maxRecDepth 100000
set_option maxHeartbeats 4000000
section
variable {P : Program}
def St.eff (st : St) (g : Gd) (d : Option Tmp) (e : AV × List (Nat × Ob)) : E1 := match g with
 | .no => ⟨d, e.1, e.2⟩
 | g => ⟨d, .gd (st.gb g) e.1, bif st.gb g then e.2 else []⟩
theorem Adn (st : St) (g : Gd) (d : Option Tmp) (e : AV × List (Nat × Ob)) : st.afterG g d e = E1.ap st (st.eff g d e) := by
 cases g <;> rfl
theorem Ats (st : St) (g : Gd) (d : Option Tmp) (e : AV × List (Nat × Ob)) : (st.eff g d e).d = d := by cases g <;> rfl
theorem Arc (st : St) (g : Gd) (d : Option Tmp) (e : AV × List (Nat × Ob)) : ∀ p ∈ (st.eff g d e).up, p ∈ e.2 := by
 intro p hp
 cases g with
 | no => exact hp
 | bad => cases hp
 | _ t b =>
  simp only [St.eff] at hp
  cases hb : st.gb (.at t b) <;> rw [hb] at hp
  ·cases hp
  exact hp
abbrev Tr := List (List Nat × List Nat)
def F8 (P : Program) : List VO -> St -> Tr -> (Tr -> St -> Prop) -> Prop
 | [], st, tr, K => K tr st
 | v :: os, st, tr, K => st.gc v.g /\
  if Et v.op then ∃ e : AV × List (Nat × Ob), (st.gb v.g = true -> Sx P v.op v.ty st st.ob.length e) /\ F8 P os (st.afterG v.g v.d e) ((E5 v.op st, e.2.map (·.1)) :: tr) K
  else (st.gb v.g = true -> G5 P v.op v.ty st st.ob.length) /\ F8 P os (st.afterG v.g v.d (Hv P v.op v.ty st st.ob.length)) ((E5 v.op st, (Hv P v.op v.ty st st.ob.length).2.map (·.1)) :: tr) K
theorem Afm : ∀ (l : List VO) (st : St) (tr : Tr) (K : Tr -> St -> Prop), F8 P l st tr K -> ∃ (f : Nat -> E1) (e : Nat -> AV × List (Nat × Ob)) (tr' : Tr),
 (∀ (j : Nat) (v : VO), l[j]? = some v -> (apL st ((List.range j).map f)).gc v.g /\ ((apL st ((List.range j).map f)).gb v.g = true -> Sx P v.op v.ty (apL st ((List.range j).map f)) (apL st ((List.range j).map f)).ob.length (e j)) /\
  f j = (apL st ((List.range j).map f)).eff v.g v.d (e j) /\ tr'.reverse[tr.length + j]? = some (E5 v.op (apL st ((List.range j).map f)), (e j).2.map (·.1))) /\
  (∃ q, tr' = q ++ tr) /\ K tr' (apL st ((List.range l.length).map f))
 | [], st, tr, K, h => ⟨fun _ => ⟨none, .any, []⟩, fun _ => (.any, []), tr, fun j v hv => by simp at hv, ⟨[], rfl⟩, h⟩
 | v :: os, st, tr, K, h => by
  obtain ⟨hg, h⟩ := h
  have hh : ∃ e : AV × List (Nat × Ob), (st.gb v.g = true -> Sx P v.op v.ty st st.ob.length e) /\ F8 P os (st.afterG v.g v.d e) ((E5 v.op st, e.2.map (·.1)) :: tr) K := by
   cases hc : Et v.op with
   | true => rw [hc, if_pos rfl] at h; exact h
   | false =>
    rw [hc, if_neg (by simp)] at h
    exact ⟨_, fun hb => Abu hc (h.1 hb), h.2⟩
  obtain ⟨e0, h1, h2⟩ := hh
  obtain ⟨f, e, tr', h3, ⟨q, h4⟩, h5⟩ := Afm os _ _ K h2
  have hap : ∀ j, apL st ((List.range (j + 1)).map fun i => match i with | 0 => st.eff v.g v.d e0 | i + 1 => f i) = apL (st.afterG v.g v.d e0) ((List.range j).map f) := fun j => by
   rw [List.range_succ_eq_map, List.map_cons, List.map_map, Adn]
   rfl
  refine ⟨fun i => match i with | 0 => st.eff v.g v.d e0 | i + 1 => f i, fun i => match i with | 0 => e0 | i + 1 => e i, tr', fun j v' hv' => ?_, ⟨q ++ [(E5 v.op st, e0.2.map (·.1))], by rw [h4]; simp⟩, ?_⟩
  ·cases j with
   | zero =>
    simp only [List.getElem?_cons_zero, Option.some.injEq] at hv'
    subst hv'
    refine ⟨hg, h1, rfl, ?_⟩
    rw [h4]
    simp only [List.reverse_append, List.reverse_cons, List.append_assoc]
    rw [Ao (by simp)]
    simp [apL]
   | succ j =>
    simp only [Bb] at hv'
    rw [hap]
    have := h3 j v' hv'
    refine ⟨this.1, this.2.1, this.2.2.1, ?_⟩
    have h6 := this.2.2.2
    rw [A6, show tr.length + 1 + j = tr.length + (j + 1) by omega] at h6
    exact h6
  rw [A6, hap]; exact h5
def X0 {α : Type} (c : α -> α -> Bool) : List Nat -> List (Nat × α) -> Nat -> List α -> Bool
 | _, _, _, [] => true
 | an, acc, j, y :: ys => (acc.all fun p => !c p.2 y || (an.headD 0).testBit p.1) && X0 c an.tail ((j, y) :: acc) (j + 1) ys
theorem Us {α : Type} {c : α -> α -> Bool} : ∀ (ys : List α) (an : List Nat) (acc : List (Nat × α)) (j : Nat), X0 c an acc j ys = true ->
 (∀ (k : Nat) (y : α) (p : Nat × α), ys[k]? = some y -> p ∈ acc -> c p.2 y = true -> (an.getD k 0).testBit p.1 = true) /\
  ∀ (i k : Nat) (x y : α), i < k -> ys[i]? = some x -> ys[k]? = some y -> c x y = true -> (an.getD k 0).testBit (j + i) = true
 | [], an, acc, j, h => ⟨fun k y p hy => by simp at hy, fun i k x y _ hx => by simp at hx⟩
 | z :: ys, an, acc, j, h => by
  simp only [X0, Ah] at h
  obtain ⟨h1, h2⟩ := h
  obtain ⟨h3, h4⟩ := Us ys an.tail ((j, z) :: acc) (j + 1) h2
  have htl : ∀ k, an.getD (k + 1) 0 = an.tail.getD k 0 := fun k => by cases an <;> simp
  refine ⟨fun k y p hy hp hc => ?_, fun i k x y hik hx hy hc => ?_⟩
  ·cases k with
   | zero =>
    simp only [List.getElem?_cons_zero, Option.some.injEq] at hy
    subst hy
    have := Am.1 h1 p hp
    rw [hc] at this
    simpa [List.headD_eq_head?_getD, Ad, List.head?_eq_getElem?] using this
   | succ k =>
    simp only [Bb] at hy
    rw [htl]
    exact h3 k y p hy (by simp [hp]) hc
  cases k with
  | zero => omega
  | succ k =>
   simp only [Bb] at hy
   rw [htl]
   cases i with
   | zero =>
    simp only [List.getElem?_cons_zero, Option.some.injEq] at hx
    subst hx
    exact h3 k y (j, z) hy (by simp) hc
   | succ i =>
    simp only [Bb] at hx
    have := h4 i k x y (by omega) hx hy hc
    rwa [show j + (i + 1) = j + 1 + i by omega]
def Acn (x y : VO) : Bool := (match x.d with | some d => (Mc y.op y.g).contains d || y.d == some d | none => false) || (match y.d with | some d => (Mc x.op x.g).contains d | none => false)
theorem Ajb {x y : VO} {t : Nat} (h : x.d = some t) (h2 : t ∈ Mc y.op y.g \/ y.d = some t) : Acn x y = true := by
 unfold Acn
 simp only [h, Bool.or_eq_true]
 rcases h2 with h2 | h2
 ·exact .inl (.inl (by simpa using h2))
 exact .inl (.inr (by rw [h2]; simp))
theorem Ap1 {x y : VO} {t : Nat} (h : y.d = some t) (h2 : t ∈ Mc x.op x.g) : Acn x y = true := by
 unfold Acn
 simp only [h, Bool.or_eq_true]
 exact .inr (by simpa using h2)
def ov (a b : List Nat) : Bool := a.any fun x => b.contains x
theorem Am9 {a b : List Nat} {x : Nat} (ha : x ∈ a) (hb : x ∈ b) : ov a b = true := List.any_eq_true.2 ⟨x, ha, by simpa using hb⟩
def Aq4 (x y : List Nat × List Nat) : Bool := ov x.2 y.1 || ov x.2 y.2 || ov x.1 y.2
def back (l : List Oper) : Bool := (l.zipIdx).all fun p => p.1.after.toList.all fun e => !Region.binds .any e || decide (e.on < p.2)
def Iu (l : List Oper) : Bool := back l && X0 Acn (Abb l []) [] 0 (Fy l)
def P7 (l : List Oper) (tr : Tr) : Bool := X0 Aq4 (Abb l []) [] 0 tr.reverse
theorem Arn {l : List Oper} (h : back l = true) : ∀ (j : Nat) (o : Oper), l[j]? = some o -> ∀ e ∈ o.after, Region.binds .any e = true -> e.on < j := fun j o ho e he hb => by
 have := Am.1 h (o, j) (by rw [List.mem_zipIdx_iff_getElem?]; exact ho)
 have := Am.1 this e (by simpa using he)
 simpa [hb] using this
def Dn (listed : Array Bool) (i : Nat) : Bool := listed.getD i false
def Apl (v : VO) (rd wr : List Nat) : Loc -> Prop
 | .s t => t ∈ Mc v.op v.g \/ v.d = some t
 | .o id => id ∈ rd \/ id ∈ wr
section
variable {E : Ent} {l : List Oper} {st : St} {f : Nat -> E1} {e : Nat -> AV × List (Nat × Ob)} {tr : Tr}
structure Ah4 (P : Program) (E : Ent) (l : List Oper) (st : St) (f : Nat -> E1) (e : Nat -> AV × List (Nat × Ob)) (tr : Tr) : Prop where
  hd : ∀ o ∈ l, ∀ x, o.dst = some x -> x < E.n
  hs : Iu l = true
  hi : P7 l tr = true
  run : ∀ (j : Nat) (v : VO), (Fy l)[j]? = some v -> (apL st ((List.range j).map f)).gc v.g /\ ((apL st ((List.range j).map f)).gb v.g = true -> Sx P v.op v.ty (apL st ((List.range j).map f)) (apL st ((List.range j).map f)).ob.length (e j)) /\
      f j = (apL st ((List.range j).map f)).eff v.g v.d (e j) /\ tr.reverse[j]? = some (E5 v.op (apL st ((List.range j).map f)), (e j).2.map (·.1))
theorem Ac5 (l : List Oper) (j : Nat) : (Fy l)[j]? = (l[j]?).map fun o => ⟨o.dst, o.op, o.type, Mj l.toArray o⟩ := by simp [Fy]
theorem Ah4.ord (R : Ah4 P E l st f e tr) {i j : Nat} {x y : VO} (hx : (Fy l)[i]? = some x) (hy : (Fy l)[j]? = some y) (hij : i < j) {ℓ : Loc}
 (h : ((f i).wr ℓ = true /\ Apl y (E5 y.op (apL st ((List.range j).map f))) ((e j).2.map (·.1)) ℓ) \/ ((f j).wr ℓ = true /\ Apl x (E5 x.op (apL st ((List.range i).map f))) ((e i).2.map (·.1)) ℓ)) :
  ((Abb l []).getD j 0).testBit i = true := by
 obtain ⟨_, _, fi, ti⟩ := R.run i x hx
 obtain ⟨_, _, fj, tj⟩ := R.run j y hy
 have hsl := R.hs
 simp only [Iu, Ah] at hsl
 have wd : ∀ {k : Nat} {v : VO} {t : Nat}, f k = (apL st ((List.range k).map f)).eff v.g v.d (e k) -> (f k).wr (.s t) = true -> v.d = some t := fun hk hw => by
  simp only [E1.wr] at hw
  rw [hk, Ats] at hw
  simpa using hw
 have wi : ∀ {k : Nat} {v : VO} {id : Nat}, f k = (apL st ((List.range k).map f)).eff v.g v.d (e k) -> (f k).wr (.o id) = true -> id ∈ (e k).2.map (·.1) := fun hk hw => by
  simp only [E1.wr] at hw
  obtain ⟨p, h1, h2⟩ := List.any_eq_true.1 hw
  rw [hk] at h1
  have := Arc _ _ _ _ p h1
  exact A4.2 ⟨p, this, by simpa using h2⟩
 cases ℓ with
 | s t =>
  have := (Us _ _ _ _ hsl.2).2 i j x y hij hx hy (by
   rcases h with ⟨h1, h2⟩ | ⟨h1, h2⟩
   ·exact Ajb (wd fi h1) h2
   rcases h2 with h2 | h2
   ·exact Ap1 (wd fj h1) h2
   exact Ajb h2 (.inr (wd fj h1)))
  rwa [Bm] at this
 | o id =>
  have := (Us _ _ _ _ R.hi).2 i j _ _ hij ti tj (by
   unfold Aq4
   rcases h with ⟨h1, h2⟩ | ⟨h1, h2⟩
   ·have := wi fi h1
    rcases h2 with h2 | h2
    ·simp [Am9 this h2]
    simp [Am9 this h2]
   have := wi fj h1
   rcases h2 with h2 | h2
   ·simp [Am9 h2 this]
   simp [Am9 h2 this])
  rwa [Bm] at this
def Amo (l : List Oper) (D : Nat -> Bool) : Prop := ∀ (j : Nat) (o : Oper), l[j]? = some o -> D j = true -> ∀ e ∈ o.after, Region.binds .any e = true -> D e.on = true
theorem Ah4.same (R : Ah4 P E l st f e tr) {D : Nat -> Bool} (hc : Amo l D) {j : Nat} {o : Oper} {y : VO} (ho : l[j]? = some o) (hy : (Fy l)[j]? = some y) (hj : D j = false) (hr : ∀ e ∈ o.after, Region.binds .any e = true -> D e.on = true) {ℓ : Loc}
 (ht : Apl y (E5 y.op (apL st ((List.range j).map f))) ((e j).2.map (·.1)) ℓ) : gt (apL st (LD l.length f D)) ℓ = gt (apL st ((List.range j).map f)) ℓ := by
 have hjl : j < l.length := (Ab.1 ho).1
 rw [<- Af9 f st l.length j (by omega)]
 refine Ah7 fun i hi hw => ?_
 have hx : ∃ ox, l[i]? = some ox := ⟨_, Aa hi⟩
 obtain ⟨ox, hox⟩ := hx
 have hx : (Fy l)[i]? = some ⟨ox.dst, ox.op, ox.type, Mj l.toArray ox⟩ := by rw [Ac5, hox]; rfl
 by_cases hij : i < j
 ·rw [decide_eq_true hij]
  exact Al7 hc j o ho hr i (R.ord hx hy hij (.inl ⟨hw, ht⟩))
 rw [decide_eq_false hij]
 by_cases he : i = j
 ·rw [he]; exact hj
 cases hD : D i with
 | false => rfl
 | true =>
  have := Al7 hc i ox hox (hc i ox hox hD) j (R.ord hy hx (by omega) (.inr ⟨hw, ht⟩))
  rw [hj] at this; cases this
theorem As6 {s s' : St} {op : Op} {g : Gd} (h : ∀ t ∈ Mc op g, El s.sl t = El s'.sl t) : s.gc g = s'.gc g /\ s.gb g = s'.gb g := by
 cases g with
 | no => exact ⟨rfl, rfl⟩
 | bad => exact ⟨rfl, rfl⟩
 | _ t b => have := h t (by simp [Mc]); simp only [St.gc, St.gb, this, and_self]
theorem Ard {s s' : St} {g : Gd} (h : s.gb g = s'.gb g) (d : Option Tmp) (e : AV × List (Nat × Ob)) : s.eff g d e = s'.eff g d e := by
 cases g with
 | no => rfl
 | bad => rfl
 | _ t b => simp only [St.eff, h]
theorem Ah4.step (R : Ah4 P E l st f e tr) {listed : Array Bool} (hl : listed.size = l.length) (hc : Amo l (Dn listed)) {j : Nat} {o : Oper} (ho : l[j]? = some o) (hj : Dn listed j = false) (hr : ∀ e ∈ o.after, Region.binds .any e = true -> Dn listed e.on = true)
 {β : Nat -> Option Nat} {a : Act} {w : World} (r : Rel E β (apL st (LD l.length f (Dn listed))) a w) {F : Fence} (hF : FOk E F) {K : Act -> World -> Prop} {Q : Exit -> Act -> World -> Prop}
  (hK : ∀ β' a' w', Rel E β' (apL st (LD l.length f (Dn (listed.setIfInBounds j true)))) a' w' -> K a' w') : wpOpIn F 0 P l.toArray Q j K a w := by
 have hjl : j < l.length := (Ab.1 ho).1
 have hy : (Fy l)[j]? = some ⟨o.dst, o.op, o.type, Mj l.toArray o⟩ := by rw [Ac5, ho]; rfl
 obtain ⟨h1, h2, h3, h4⟩ := R.run j _ hy
 simp only at h1 h2 h3 h4
 have hsl : ∀ t ∈ Mc o.op (Mj l.toArray o), El (apL st ((List.range j).map f)).sl t = El (apL st (LD l.length f (Dn listed))).sl t := fun t ht =>
  congrArg Prod.fst (R.same hc ho hy hj hr (ℓ := .s t) (.inl ht)).symm
 have hob : ∀ id, (id ∈ E5 o.op (apL st ((List.range j).map f)) \/ id ∈ (e j).2.map (·.1)) -> (apL st ((List.range j).map f)).o id = (apL st (LD l.length f (Dn listed))).o id := fun id ht =>
  congrArg Prod.snd (R.same hc ho hy hj hr (ℓ := .o id) ht).symm
 obtain ⟨g1, g2⟩ := As6 hsl
 have hD' : ∀ i, Dn (listed.setIfInBounds j true) i = if i = j then true else Dn listed i := fun i => by
  unfold Dn
  by_cases he : i = j
  ·subst he; rw [if_pos rfl]; simp [hl, hjl]
  rw [if_neg he, getD_set_ne false (Ne.symm he)]
 unfold wpOpIn
 have ho' : l.toArray[j]? = some o := by simpa using ho
 simp only [ho']
 refine Sh r (hd := R.hd o (Ac ho)) (nid := (apL st ((List.range j).map f)).ob.length) (hg := by rw [<- g1]; exact h1) (e := e j) (fun hb p hp hge => ?_) (fun hb => ?_) hF fun β' a' w' r' => ?_
 ·rw [<- hob p.1 (.inr (A4.2 ⟨p, hp, rfl⟩))]
  exact Gr _ _ hge
 ·exact Amp hsl (fun id hid => hob id (.inl hid)) (h2 (by rw [g2]; exact hb))
 refine hK β' a' w' (r'.congr fun ℓ => ?_)
 rw [Adn, Ard g2.symm, <- h3, Atr]
 cases hw : (f j).wr ℓ with
 | true =>
  refine (Atj hjl (by rw [hD', if_pos rfl]) hw fun i hi hDi hwi => ?_).symm
  by_cases he : i = j
  ·omega
  rw [hD', if_neg he] at hDi
  apply Classical.byContradiction
  intro hlt
  have hx : ∃ ox, l[i]? = some ox := ⟨_, Aa hi⟩
  obtain ⟨ox, hox⟩ := hx
  have hx : (Fy l)[i]? = some ⟨ox.dst, ox.op, ox.type, Mj l.toArray ox⟩ := by rw [Ac5, hox]; rfl
  have := Al7 hc i ox hox (hc i ox hox hDi) j (R.ord hy hx (by omega) (.inr ⟨hwi, by
   cases ℓ with
   | s t =>
    refine .inr ?_
    simp only [E1.wr] at hw
    rw [h3, Ats] at hw
    simpa using hw
   | o id =>
    refine .inr ?_
    simp only [E1.wr] at hw
    obtain ⟨p, q1, q2⟩ := List.any_eq_true.1 hw
    rw [h3] at q1
    exact A4.2 ⟨p, Arc _ _ _ _ p q1, by simpa using q2⟩⟩))
  rw [hj] at this; cases this
 | false =>
  refine Ah7 fun i hi hwi => ?_
  rw [hD', if_neg]
  rintro rfl
  rw [hw] at hwi; cases hwi
theorem Ah4.any (R : Ah4 P E l st f e tr) {F : Fence} (hF : FOk E F) {Q : Exit -> Act -> World -> Prop} (hQ : ∀ β a w, Rel E β (apL st ((List.range l.length).map f)) a w -> Q .normal a w) : ∀ (fuel : Nat) (listed : Array Bool) (a : Act) (w : World) (β : Nat -> Option Nat),
 listed.size = l.length -> Amo l (Dn listed) -> (List.range l.length).countP (fun i => !Dn listed i) <= fuel -> Rel E β (apL st (LD l.length f (Dn listed))) a w -> wpAnyIn F 0 P .any l.toArray Q fuel listed a w := by
 have hend : ∀ (listed : Array Bool) (a : Act) (w : World) (β : Nat -> Option Nat), (∀ i, i < l.length -> Dn listed i = true) -> Rel E β (apL st (LD l.length f (Dn listed))) a w -> Q .normal a w := fun listed a w β hall r =>
  hQ β a w (r.congr fun ℓ => by
   rw [<- Af9 f st l.length l.length (Aj _)]
   exact Ah7 fun i hi _ => by rw [hall i hi, decide_eq_true hi])
 have hsl := R.hs
 simp only [Iu, Ah] at hsl
 have hback := Arn hsl.1
 have hnone : ∀ (listed : Array Bool), listed.size = l.length -> Region.ready .any l.toArray listed = [] -> ∀ i, i < l.length -> Dn listed i = true := fun listed hsz hre i => by
  induction i using Nat.strongRecOn with
  | _ i ih =>
   intro hi
   cases hD : Dn listed i with
   | true => rfl
   | false =>
    have : i ∈ Region.ready .any l.toArray listed := by
     rw [mem_ready]
     refine ⟨?_, l[i], by simp [hi], fun e' he' hb => ?_⟩
     ·have hD' : listed.getD i false = false := hD
      simp only [Array.getD, hsz, hi, dif_pos] at hD' ⊢
      exact hD'
     have := hback i _ (Aa hi) e' he' hb
     exact ih e'.on this (by omega)
    rw [hre] at this; cases this
 intro fuel
 induction fuel with
 | zero =>
  intro listed a w β hsz hc hcnt r
  have hall : ∀ i, i < l.length -> Dn listed i = true := fun i hi => by
   have h0 : (List.range l.length).countP (fun i => !Dn listed i) = 0 := by omega
   have := List.countP_eq_zero.1 h0 i (List.mem_range.2 hi)
   simpa using this
  refine ⟨?_, hend listed a w β hall r⟩
  rw [List.eq_nil_iff_forall_not_mem]
  intro j hj
  obtain ⟨h1, o, ho, _⟩ := mem_ready.1 hj
  have hjl : j < l.length := by
   have := (Aw.1 ho).1
   simpa using this
  have := hall j hjl
  unfold Dn at this
  simp only [Array.getD, hsz, hjl, dif_pos] at this h1
  rw [this] at h1; cases h1
 | succ fuel ih =>
  intro listed a w β hsz hc hcnt r
  refine ⟨fun hre => hend listed a w β (hnone listed hsz hre) r, fun j hj => ?_⟩
  obtain ⟨h1, o, ho, hall⟩ := mem_ready.1 hj
  have ho' : l[j]? = some o := by simpa using ho
  have hjl : j < l.length := (Ab.1 ho').1
  have hDj : Dn listed j = false := by
   unfold Dn
   simp only [Array.getD, hsz, hjl, dif_pos] at h1 ⊢
   exact h1
  refine R.step hsz hc ho' hDj hall r hF fun β' a' w' r' => ih _ a' w' β' (by simp [hsz]) ?_ ?_ r'
  ·intro k ok hok hk e' he' hb
   by_cases hkj : k = j
   ·subst hkj
    rw [ho'] at hok
    cases hok
    exact getD_set_true (hall e' he' hb)
   refine getD_set_true (hc k ok hok ?_ e' he' hb)
   unfold Dn at hk ⊢
   rwa [getD_set_ne false (Ne.symm hkj)] at hk
  have hlt : (List.range l.length).countP (fun i => !Dn (listed.setIfInBounds j true) i) < (List.range l.length).countP (fun i => !Dn listed i) := by
   have hle : ∀ (L : List Nat), L.countP (fun i => !Dn (listed.setIfInBounds j true) i) <= L.countP (fun i => !Dn listed i) /\ (j ∈ L -> L.countP (fun i => !Dn (listed.setIfInBounds j true) i) < L.countP (fun i => !Dn listed i)) := fun L => by
    induction L with
    | nil => simp
    | cons x L ihL =>
     rw [List.countP_cons, List.countP_cons]
     by_cases hx : x = j
     ·subst hx
      have e1 : Dn (listed.setIfInBounds x true) x = true := by unfold Dn; simp [hsz, hjl]
      rw [e1, hDj]
      simp
      omega
     have e1 : Dn (listed.setIfInBounds j true) x = Dn listed x := by unfold Dn; exact getD_set_ne false (Ne.symm hx)
     rw [e1]
     refine ⟨by omega, fun hm => ?_⟩
     have := ihL.2 (by simpa [Ne.symm hx] using hm)
     omega
   exact (hle _).2 (List.mem_range.2 hjl)
  omega
end
theorem VW.draw1 {n m : Nat} {st : St} {K : Exit -> St -> Prop} {id : Nat} {l : List Oper} (hm : P.follows .mixedOrders = true) (hd : Ff n l = true) (hs : Iu l = true)
 (h : ∀ K1 : Tr -> St -> Prop, (∀ tr s, P7 l tr = true -> K .normal s -> K1 tr s) -> F8 P (Fy l) st [] K1) : VW P n m (.region id l.toArray true) st K := by
 refine fun E F hE hF β a w r => ?_
 obtain ⟨f, e, tr, h1, _, hi, h2⟩ := Afm _ _ _ _ (h (fun tr s => P7 l tr = true /\ K .normal s) fun tr s h1 h2 => ⟨h1, h2⟩)
 have R : Ah4 P E l st f e tr := ⟨fun o ho x hx => by rw [hE.1]; exact Nk hd o ho x hx, hs, hi, fun j v hv => by
  obtain ⟨q1, q2, q3, q4⟩ := h1 j v hv
  exact ⟨q1, q2, q3, by simpa using q4⟩⟩
 rw [show (Fy l).length = l.length by simp [Fy]] at h2
 refine wpIn_region_any hm ?_
 have h0 : ∀ i, Dn (Array.replicate l.toArray.size false) i = false := fun i => by
  unfold Dn
  rw [Av]
  cases hq : (Array.replicate l.toArray.size false)[i]? with
  | none => rfl
  | some b =>
   have := Aw.1 hq
   obtain ⟨_, q⟩ := this
   simpa using q.symm
 refine R.any hF (fun β' a' w' r' => ⟨E, _, β', G4.refl E, h2, r'⟩) _ _ a _ β (by simp) (fun j o ho hD => by rw [h0] at hD; cases hD) ?_ ?_
 ·refine Ak List.countP_le_length ?_
  simp
 have : LD l.length f (Dn (Array.replicate l.toArray.size false)) = [] := by
  unfold LD
  rw [List.map_eq_nil_iff, List.filter_eq_nil_iff]
  intro i _
  rw [h0]; simp
 rw [this]
 exact r.drew _
theorem VW.draw_seq {n m : Nat} {st : St} {K : Exit -> St -> Prop} {id : Nat} {l : List Oper} {y : Code} (hm : P.follows .mixedOrders = true) (hd : Ff n l = true) (hs : Iu l = true)
 (h : ∀ K1 : Tr -> St -> Prop, (∀ tr s, P7 l tr = true -> VW P n m y s K -> K1 tr s) -> F8 P (Fy l) st [] K1) : VW P n m (.seq (.region id l.toArray true) y) st K := .seq (.draw1 hm hd hs h)
end
section
variable {P : Program} {d : Option Tmp} {ty : TypeId} {os : List VO} {st : St} {K : Tr -> St -> Prop} {tr : Tr}
theorem An2 : F8 P [] st tr K = K tr st := rfl
def Alg (P : Program) (d : Option Tmp) (op : Op) (ty : TypeId) (v : AV) (want : Bool) (os : List VO) (st : St) (tr : Tr) (K : Tr -> St -> Prop) : Prop :=
 Hh v.sv = true /\ ((v.sb && (Ew v.sv == want)) = true -> G5 P op ty st st.ob.length) /\
  F8 P os (st.after d (.gd (v.sb && (Ew v.sv == want)) (Hv P op ty st st.ob.length).1) (bif (v.sb && (Ew v.sv == want)) then (Hv P op ty st st.ob.length).2 else [])) ((E5 op st, (Hv P op ty st st.ob.length).2.map (·.1)) :: tr) K
def Amm (P : Program) (d : Option Tmp) (op : Op) (ty : TypeId) (os : List VO) (st : St) (tr : Tr) (K : Tr -> St -> Prop) : Prop :=
 ∃ e : AV × List (Nat × Ob), Sx P op ty st st.ob.length e /\ F8 P os (st.after d e.1 e.2) ((E5 op st, e.2.map (·.1)) :: tr) K
def Ah6 (P : Program) (d : Option Tmp) (op : Op) (ty : TypeId) (v : AV) (want : Bool) (os : List VO) (st : St) (tr : Tr) (K : Tr -> St -> Prop) : Prop :=
 Hh v.sv = true /\ ∃ e : AV × List (Nat × Ob), ((v.sb && (Ew v.sv == want)) = true -> Sx P op ty st st.ob.length e) /\ F8 P os (st.after d (.gd (v.sb && (Ew v.sv == want)) e.1) (bif (v.sb && (Ew v.sv == want)) then e.2 else [])) ((E5 op st, e.2.map (·.1)) :: tr) K
theorem Ap3 {op : Op} : F8 P (⟨d, op, ty, .no⟩ :: os) st tr K = if Et op = true then Amm P d op ty os st tr K else (G5 P op ty st st.ob.length /\ F8 P os (st.after d (Hv P op ty st st.ob.length).1 (Hv P op ty st st.ob.length).2) ((E5 op st, (Hv P op ty st st.ob.length).2.map (·.1)) :: tr) K) := by
 simp only [F8, St.gc, St.gb, St.afterG, true_and, forall_const, Amm]
theorem Ap4 {op : Op} {t : Tmp} {want : Bool} : F8 P (⟨d, op, ty, .at t want⟩ :: os) st tr K = if Et op = true then Ah6 P d op ty (El st.sl t) want os st tr K else Alg P d op ty (El st.sl t) want os st tr K := by
 simp only [F8, St.gc, St.gb, St.afterG, Alg, Ah6]
 split <;> simp only [and_true, true_and]
section
variable {nid : Nat} {x y z c a b : Operand} {t u : TypeId}
theorem Asp : E5 (.move x) st = [] := rfl
theorem An7 : E5 (.assign x) st = [] := rfl
theorem Aqf : E5 (.alloc t) st = [] := by simp [E5, Je, Fh, Hx, Op.operands, Gl]
theorem At6 : E5 (.box t x) st = (st.raw x).ids := by simp [E5, Je, Fh, Hx, Op.operands, Gl]
theorem Asq : E5 (.load t x) st = (st.raw x).ids := by simp [E5, Je, Fh, Hx, Op.operands, Gl]
theorem Aqb : E5 (.store t x y) st = (st.raw x).ids ++ (st.raw y).ids := by simp [E5, Je, Fh, Hx, Op.operands, Gl]
theorem Ajg : E5 (.nilCheck x) st = (st.raw x).ids := by simp [E5, Je, Fh, Hx, Op.operands, Gl]
theorem Aqe {op : BinOp} : E5 (.binOp op t x y u) st = (st.raw x).ids ++ (st.raw y).ids := by simp [E5, Je, Fh, Hx, Op.operands, Gl]
theorem Asn {op : UnOp} : E5 (.unOp op t x) st = (st.raw x).ids := by simp [E5, Je, Fh, Hx, Op.operands, Gl]
theorem Aln : E5 (.convert t u x) st = (st.raw x).ids := by simp [E5, Je, Fh, Hx, Op.operands, Gl]
theorem Ahb {f : Nat} : E5 (.fieldAddr t x f) st = (st.raw x).ids := by simp [E5, Je, Fh, Hx, Op.operands, Gl]
theorem Aha : E5 (.indexAddr t x y) st = (st.raw x).ids ++ (st.raw y).ids := by simp [E5, Je, Fh, Hx, Op.operands, Gl]
theorem Alm {i : Nat} : E5 (.extract x i) st = (st.raw x).ids := by simp [E5, Je, Fh, Hx, Op.operands, Gl]
theorem Aso : E5 (.pick c a b) st = (st.raw c).ids ++ ((st.raw a).ids ++ (st.raw b).ids) := by simp [E5, Je, Fh, Hx, Op.operands, Gl]
theorem Aqd {ps : List (Nat × Operand)} : E5 (.build t ps.toArray) st = Gl (ps.map fun p => st.raw p.2) := by simp [E5, Je, Fh, Hx, Op.operands, Function.comp_def]
theorem Aer {n : Nat} {ps : List (Nat × Operand)} : E5 (.buildSlice t n ps.toArray) st = Gl (ps.map fun p => st.raw p.2) := by simp [E5, Je, Fh, Hx, Op.operands, Function.comp_def]
theorem Ajh {f : FuncId} {cs : List Operand} : E5 (.makeFunc (.func f) #[] cs.toArray) st = Gl (cs.map st.raw) := by simp [E5, Je, Fh, Hx, Op.operands]
theorem Ag9 : E5 (.makeSlice t x y) st = (st.raw x).ids ++ (st.raw y).ids := by simp [E5, Je, Fh, Hx, Op.operands, Gl]
theorem All : E5 (.slice t x none none none) st = (st.raw x).ids := by simp [E5, Je, Fh, Hx, Op.operands, Gl]
theorem Alj : E5 (.slice t x (some y) none none) st = (st.raw x).ids ++ (st.raw y).ids := by simp [E5, Je, Fh, Hx, Op.operands, Gl]
theorem Alk : E5 (.slice t x none (some y) none) st = (st.raw x).ids ++ (st.raw y).ids := by simp [E5, Je, Fh, Hx, Op.operands, Gl]
theorem Ali : E5 (.slice t x (some y) (some z) none) st = (st.raw x).ids ++ ((st.raw y).ids ++ (st.raw z).ids) := by simp [E5, Je, Fh, Hx, Op.operands, Gl]
theorem Aqc {f : Builtin} {xs : List Operand} {ts : Array TypeId} : E5 (.call ⟨.builtin f, xs.toArray, ts⟩) st = Gl (xs.map st.raw) := by simp [E5, Je, Fh, Hx, Op.operands, Call.operands]
theorem Asr {fo : Operand} {xs : List Operand} {ts : Array TypeId} : E5 (.call ⟨.value fo, xs.toArray, ts⟩) st = rdC st.o ((st.raw fo).ids ++ Gl (xs.map st.raw)) := by simp [E5, Je, Fh, Hx, Op.operands, Call.operands, Gl]
end
attribute [go_sem] An2 Ap3 Ap4 Alg Asp An7 Aqf At6 Asq Aqb Ajg Aqe Asn Aln Ahb Aha Alm Aso Aqd Aer Ajh Ag9 All Alj Alk Ali Aqc Asr AV.ids Gl rdC Ux obI
end
section
variable {P : Program}
theorem Kd : ∀ (l : List VO) (st : St) {K K' : St -> Prop}, (∀ s, K s -> K' s) -> runs P l st K -> runs P l st K'
 | [], st, K, K', h, hr => h _ hr
 | v :: os, st, K, K', h, hr => by
  obtain ⟨hg, hr⟩ := hr
  refine ⟨hg, ?_⟩
  cases hc : Et v.op with
  | true =>
   rw [hc, if_pos rfl] at hr
   rw [if_pos rfl]
   obtain ⟨e, h1, h2⟩ := hr
   exact ⟨e, h1, Kd os _ h h2⟩
  | false =>
   rw [hc, if_neg (by simp)] at hr
   rw [if_neg (by simp)]
   exact ⟨hr.1, Kd os _ h hr.2⟩
theorem O5 : ∀ (l : List VO) (st : St) {K : St -> Prop}, runs P l st K -> ∃ s, runs P l st (fun s' => s' = s) /\ K s
 | [], st, K, hr => ⟨st, rfl, hr⟩
 | v :: os, st, K, hr => by
  obtain ⟨hg, hr⟩ := hr
  cases hc : Et v.op with
  | true =>
   rw [hc, if_pos rfl] at hr
   obtain ⟨e, h1, h2⟩ := hr
   obtain ⟨s, h3, h4⟩ := O5 os _ h2
   exact ⟨s, ⟨hg, by rw [hc, if_pos rfl]; exact ⟨e, h1, h3⟩⟩, h4⟩
  | false =>
   rw [hc, if_neg (by simp)] at hr
   obtain ⟨s, h3, h4⟩ := O5 os _ hr.2
   exact ⟨s, ⟨hg, by rw [hc, if_neg (by simp)]; exact ⟨hr.1, h3⟩⟩, h4⟩
theorem Si : ∀ (l : List VO) (st : St) (tr : Tr) {K K' : Tr -> St -> Prop}, (∀ t s, K t s -> K' t s) -> F8 P l st tr K -> F8 P l st tr K'
 | [], st, tr, K, K', h, hr => h _ _ hr
 | v :: os, st, tr, K, K', h, hr => by
  obtain ⟨hg, hr⟩ := hr
  refine ⟨hg, ?_⟩
  cases hc : Et v.op with
  | true =>
   rw [hc, if_pos rfl] at hr
   rw [if_pos rfl]
   obtain ⟨e, h1, h2⟩ := hr
   exact ⟨e, h1, Si os _ _ h h2⟩
  | false =>
   rw [hc, if_neg (by simp)] at hr
   rw [if_neg (by simp)]
   exact ⟨hr.1, Si os _ _ h hr.2⟩
theorem Xn : ∀ (l : List VO) (st : St) (tr : Tr) {K : Tr -> St -> Prop}, F8 P l st tr K -> ∃ t s, F8 P l st tr (fun t' s' => t' = t /\ s' = s) /\ K t s
 | [], st, tr, K, hr => ⟨tr, st, ⟨rfl, rfl⟩, hr⟩
 | v :: os, st, tr, K, hr => by
  obtain ⟨hg, hr⟩ := hr
  cases hc : Et v.op with
  | true =>
   rw [hc, if_pos rfl] at hr
   obtain ⟨e, h1, h2⟩ := hr
   obtain ⟨t, s, h3, h4⟩ := Xn os _ _ h2
   exact ⟨t, s, ⟨hg, by rw [hc, if_pos rfl]; exact ⟨e, h1, h3⟩⟩, h4⟩
  | false =>
   rw [hc, if_neg (by simp)] at hr
   obtain ⟨t, s, h3, h4⟩ := Xn os _ _ hr.2
   exact ⟨t, s, ⟨hg, by rw [hc, if_neg (by simp)]; exact ⟨hr.1, h3⟩⟩, h4⟩
def VX (P : Program) (n m : Nat) (c : Code) (st : St) (K : Exit -> St -> Prop) : Prop := ∃ e s, VW P n m c st (fun e' s' => e' = e /\ s' = s) /\ K e s
def Akp (m : Nat) (s : St) (C : St -> Prop) : Prop := ∃ sel s', Ae6 s sel s' /\ (∀ id, id < m -> sel[id]? = some id) /\ C s'
section
variable {n m : Nat} {st : St} {K K' : Exit -> St -> Prop}
theorem VX.mono {c : Code} (h : VX P n m c st K) (hk : ∀ e s, K e s -> K' e s) : VX P n m c st K' := by
 obtain ⟨e, s, h1, h2⟩ := h
 exact ⟨e, s, h1, hk e s h2⟩
theorem VX.seq {x y : Code} (h : VX P n m x st (Exit.vthen (fun s => VX P n m y s K) K)) : VX P n m (.seq x y) st K := by
 obtain ⟨e, s, h1, h2⟩ := h
 cases e with
 | normal =>
  obtain ⟨e2, s2, h3, h4⟩ := h2
  refine ⟨e2, s2, .seq (h1.mono ?_), h4⟩
  rintro e' s' ⟨rfl, rfl⟩
  exact h3
 | _ =>
  refine ⟨_, s, .seq (h1.mono ?_), h2⟩
  rintro e' s' ⟨rfl, rfl⟩
  exact ⟨rfl, rfl⟩
abbrev Ca := @VX.seq
theorem VX.skip (h : K .normal st) : VX P n m .skip st K := ⟨_, _, .skip ⟨rfl, rfl⟩, h⟩
abbrev Bp := @VX.skip
theorem VX.label {l : Nat} (h : K .normal st) : VX P n m (.label l) st K := ⟨_, _, .label ⟨rfl, rfl⟩, h⟩
theorem VX.exit {id : Nat} (h : K (.exit id) st) : VX P n m (.exit id) st K := ⟨_, _, .exit ⟨rfl, rfl⟩, h⟩
abbrev Bt := @VX.exit
theorem VX.goto {l : Nat} (h : K (.goto l) st) : VX P n m (.goto l) st K := ⟨_, _, .goto ⟨rfl, rfl⟩, h⟩
theorem VX.ret (h : K .ret st) : VX P n m .ret st K := ⟨_, _, .ret ⟨rfl, rfl⟩, h⟩
abbrev Bz := @VX.ret
theorem VX.cond {c : Operand} {x y : Code} (hb : Hh (st.raw c).sv = true) (hs : (st.raw c).sb = true) (ht : Ew (st.raw c).sv = true -> VX P n m x st K) (hf : Ew (st.raw c).sv = false -> VX P n m y st K) : VX P n m (.cond c x y) st K := by
 cases hv : Ew (st.raw c).sv with
 | true =>
  obtain ⟨e, s, h1, h2⟩ := ht hv
  exact ⟨e, s, .cond hb hs (fun _ => h1) (fun h => by rw [hv] at h; cases h), h2⟩
 | false =>
  obtain ⟨e, s, h1, h2⟩ := hf hv
  exact ⟨e, s, .cond hb hs (fun h => by rw [hv] at h; cases h) (fun _ => h1), h2⟩
theorem VX.block {id : Nat} {c : Code} (h : VX P n m c st (Exit.vblock id K)) : VX P n m (.block id c) st K := by
 obtain ⟨e, s, h1, h2⟩ := h
 cases e with
 | exit id' =>
  unfold Exit.vblock at h2
  simp only at h2
  split at h2
  ·rename_i e
   refine ⟨.normal, s, .block (h1.mono ?_), h2⟩
   rintro e' s' ⟨rfl, rfl⟩
   unfold Exit.vblock
   simp only
   rw [if_pos e]
   exact ⟨trivial, trivial⟩
  rename_i e
  refine ⟨.exit id', s, .block (h1.mono ?_), h2⟩
  rintro e' s' ⟨rfl, rfl⟩
  unfold Exit.vblock
  simp only
  rw [if_neg e]
  exact ⟨trivial, trivial⟩
 | _ =>
  refine ⟨_, s, .block (h1.mono ?_), h2⟩
  rintro e' s' ⟨rfl, rfl⟩
  exact ⟨rfl, rfl⟩
abbrev Dd := @VX.block
theorem VX.weak {c : Code} {sel : List Nat} {st' : St} (h : Ae6 st sel st') (hm : ∀ id, id < m -> sel[id]? = some id) (hv : VX P n m c st' K) : VX P n m c st K := by
 obtain ⟨e, s, h1, h2⟩ := hv
 exact ⟨e, s, .weak h hm h1, h2⟩
theorem VX.wk {c : Code} {C : St -> Prop} (h : Akp m st C) (hv : ∀ s, C s -> VX P n m c s K) : VX P n m c st K := by
 obtain ⟨sel, s, h1, h2, h3⟩ := h
 exact .weak h1 h2 (hv s h3)
theorem VX.cut {x y : Code} (C : St -> Prop) (h : VX P n m x st (Exit.vthen (fun s => Akp m s C) K)) (hy : ∀ s, C s -> VX P n m y s K) : VX P n m (.seq x y) st K :=
 .seq (h.mono fun e s => by
  cases e with
  | normal => exact fun h => .wk h hy
  | _ => exact fun h => h)
theorem VX.loop {c : Code} (I : Nat -> St -> Prop) (z : Nat) (h0 : I z st) (round : ∀ z s, I z s -> VX P n m c s (Exit.vthen (fun s' => ∃ z', z' < z /\ I z' s') K)) : VX P n m (.loop c) st K := by
 have key : ∀ (z : Nat) (st : St), I z st -> ∃ e s Z, ∃ J : Nat -> St -> Prop, K e s /\ J Z st /\ ∀ z' s', J z' s' -> z' <= Z /\ VW P n m c s' (Exit.vthen (fun s'' => ∃ z'', z'' < z' /\ J z'' s'') fun e' s' => e' = e /\ s' = s) := by
  intro z
  induction z using Nat.strongRecOn with
  | _ z ih =>
   intro st hst
   obtain ⟨e1, s1, h1, h2⟩ := round z st hst
   have other : K e1 s1 -> e1 ≠ .normal -> ∃ e s Z, ∃ J : Nat -> St -> Prop, K e s /\ J Z st /\ ∀ z' s', J z' s' -> z' <= Z /\ VW P n m c s' (Exit.vthen (fun s'' => ∃ z'', z'' < z' /\ J z'' s'') fun e' s' => e' = e /\ s' = s) := fun hK hne => by
    refine ⟨e1, s1, 0, fun z' s' => z' = 0 /\ s' = st, hK, ⟨rfl, rfl⟩, ?_⟩
    rintro z' s' ⟨rfl, rfl⟩
    refine ⟨Aj _, h1.mono ?_⟩
    rintro e' s' ⟨rfl, rfl⟩
    cases e' with
    | normal => exact absurd rfl hne
    | _ => exact ⟨rfl, rfl⟩
   cases e1 with
   | normal =>
    obtain ⟨z1, hlt, h3⟩ := h2
    obtain ⟨e, s, Z, J, g1, g2, g3⟩ := ih z1 hlt s1 h3
    refine ⟨e, s, Z + 1, fun z' s' => J z' s' \/ (z' = Z + 1 /\ s' = st), g1, .inr ⟨rfl, rfl⟩, ?_⟩
    rintro z' s' (h | ⟨rfl, rfl⟩)
    ·obtain ⟨q1, q2⟩ := g3 z' s' h
     refine ⟨by omega, q2.mono fun e' s' => ?_⟩
     cases e' with
     | normal => exact fun ⟨z'', a, b⟩ => ⟨z'', a, .inl b⟩
     | _ => exact fun h => h
    refine ⟨Aj _, h1.mono ?_⟩
    rintro e' s' ⟨rfl, rfl⟩
    exact ⟨Z, Nat.lt_succ_self _, .inl g2⟩
   | _ => exact other h2 (by simp)
 obtain ⟨e, s, Z, J, h1, h2, h3⟩ := key z st h0
 exact ⟨e, s, .loop J Z h2 fun z' s' h => (h3 z' s' h).2, h1⟩
theorem VX.loop_w {c : Code} (I : Nat -> St -> Prop) (h0 : ∃ z, Akp m st (I z)) (round : ∀ z s, I z s -> VX P n m c s (Exit.vthen (fun s' => ∃ z', z' < z /\ Akp m s' (I z')) K)) : VX P n m (.loop c) st K := by
 obtain ⟨z, h0⟩ := h0
 exact .loop (fun z s => Akp m s (I z)) z h0 fun z s h => .wk h fun s' hs' => round z s' hs'
theorem VX.region_seq {id : Nat} {l : List Oper} {y : Code} (hd : Ff n l = true) (h : ∀ K1 : St -> Prop, (∀ s, VX P n m y s K -> K1 s) -> runs P (Fy l) st K1) : VX P n m (.seq (.region id l.toArray false) y) st K := by
 obtain ⟨s, h1, e, s2, h2, h3⟩ := O5 _ _ (h _ fun _ h => h)
 refine ⟨e, s2, .region_seq hd fun K1 hK1 => Kd _ _ ?_ h1, h3⟩
 rintro s' rfl
 exact hK1 _ h2
abbrev B4 := @VX.region_seq
theorem VX.region {id : Nat} {l : List Oper} (hd : Ff n l = true) (h : ∀ K1 : St -> Prop, (∀ s, K .normal s -> K1 s) -> runs P (Fy l) st K1) : VX P n m (.region id l.toArray false) st K := by
 obtain ⟨s, h1, h2⟩ := O5 _ _ (h _ fun _ h => h)
 refine ⟨.normal, s, .region hd (Kd _ _ ?_ h1), h2⟩
 rintro s' rfl
 exact ⟨rfl, rfl⟩
theorem VX.draw1 {id : Nat} {l : List Oper} (hm : P.follows .mixedOrders = true) (hd : Ff n l = true) (hs : Iu l = true)
 (h : ∀ K1 : Tr -> St -> Prop, (∀ tr s, P7 l tr = true -> K .normal s -> K1 tr s) -> F8 P (Fy l) st [] K1) : VX P n m (.region id l.toArray true) st K := by
 obtain ⟨tr, s, h1, hi, h2⟩ := Xn _ _ _ (h (fun tr s => P7 l tr = true /\ K .normal s) fun _ _ h1 h2 => ⟨h1, h2⟩)
 refine ⟨.normal, s, .draw1 hm hd hs fun K1 hK1 => Si _ _ _ ?_ h1, h2⟩
 rintro t' s' ⟨rfl, rfl⟩
 exact hK1 _ _ hi ⟨rfl, rfl⟩
theorem VX.draw_seq {id : Nat} {l : List Oper} {y : Code} (hm : P.follows .mixedOrders = true) (hd : Ff n l = true) (hs : Iu l = true)
 (h : ∀ K1 : Tr -> St -> Prop, (∀ tr s, P7 l tr = true -> VX P n m y s K -> K1 tr s) -> F8 P (Fy l) st [] K1) : VX P n m (.seq (.region id l.toArray true) y) st K := by
 obtain ⟨tr, s, h1, hi, e, s2, h2, h3⟩ := Xn _ _ _ (h (fun tr s => P7 l tr = true /\ VX P n m y s K) fun _ _ h1 h2 => ⟨h1, h2⟩)
 refine ⟨e, s2, .draw_seq hm hd hs fun K1 hK1 => Si _ _ _ ?_ h1, h3⟩
 rintro t' s' ⟨rfl, rfl⟩
 exact hK1 _ _ hi h2
abbrev C9 := @VX.draw_seq
end
mutual
def AV.melt (o : Nat -> Ob) : AV -> AV
 | .own id n => match o id with | .row _ k fr true es => if n = es.length then .imm fr k es else .own id n | _ => .own id n
 | .agg cs => .agg (Qm o cs)
 | .tup cs => .tup (Qm o cs)
 | .fn f cs => .fn f (Qm o cs)
 | .any => .any
 | .lit v => .lit v
 | .nil k => .nil k
 | .imm fr k es => .imm fr k es
 | .sub id n lo m => match o id with | .row _ k fr true es => if n = es.length then .imm fr k ((es.drop lo).take m) else .sub id n lo m | _ => .sub id n lo m
 | .ptr id off => .ptr id off
 | .rptr id n i off => .rptr id n i off
 | .bsl id n => .bsl id n
 | .iptr fr cs off => .iptr fr cs off
 | .gd t v => .gd t (v.melt o)
def Qm (o : Nat -> Ob) : List AV -> List AV
 | [] => []
 | c :: cs => c.melt o :: Qm o cs
end
theorem O7 (o : Nat -> Ob) : ∀ (cs : List AV) (i : Nat), (Qm o cs)[i]? = (cs[i]?).map (AV.melt o)
 | [], i => by simp [Qm]
 | c :: cs, 0 => by simp [Qm]
 | c :: cs, i + 1 => by simp [Qm, O7 o cs i]
theorem Mh (o : Nat -> Ob) : ∀ (cs : List AV), (Qm o cs).length = cs.length
 | [] => rfl
 | c :: cs => by simp [Qm, Mh o cs]
theorem Dv.melt {E : Ent} {β : Nat -> Option Nat} {st : St} {a : Act} {w : World} (r : Rel E β st a w) {c : AV} {u : Value} (h : Dv (E.C β st w) c u) : Dv (E.C β st w) (c.melt st.o) u := by
 induction h with
 | own id n u h =>
  unfold AV.melt
  split
  ·rename_i ty k fr es ho
   split
   ·rename_i hn
    exact .imm _ _ _ _ (r.frozen ho h hn)
   exact .own _ _ _ h
  exact .own _ _ _ h
 | any u => exact .any u
 | lit v => exact .lit v
 | nil k A => exact .nil k A
 | imm fr k es u h => exact .imm fr k es u h
 | sub id n lo m u h =>
  unfold AV.melt
  split
  ·rename_i ty k fr es ho
   split
   ·rename_i hn
    exact .imm _ _ _ _ (r.frozenS ho h hn)
   exact .sub _ _ _ _ _ h
  exact .sub _ _ _ _ _ h
 | ptr id off u h => exact .ptr _ _ _ h
 | rptr id n i off u h => exact .rptr _ _ _ _ _ h
 | bsl id n u h => exact .bsl _ _ _ h
 | iptr fr cs off b o cur ty fz us h1 h2 h3 => exact .iptr fr cs off b o cur ty fz us h1 h2 h3
 | agg cs us h1 h2 ih =>
  refine .agg _ _ (by rw [Mh]; exact h1) fun i c u hc' hu => ?_
  rw [O7] at hc'
  cases hx : cs[i]? with
  | none => rw [hx] at hc'; cases hc'
  | some x =>
   rw [hx] at hc'
   simp only [Ai, Option.some.injEq] at hc'
   subst hc'
   exact ih i x u hx hu
 | tup cs us h1 h2 ih =>
  refine .tup _ _ (by rw [Mh]; exact h1) fun i c u hc' hu => ?_
  rw [O7] at hc'
  cases hx : cs[i]? with
  | none => rw [hx] at hc'; cases hc'
  | some x =>
   rw [hx] at hc'
   simp only [Ai, Option.some.injEq] at hc'
   subst hc'
   exact ih i x u hx hu
 | fn f cs us h1 h2 ih =>
  refine .fn f _ _ (by rw [Mh]; exact h1) fun i c u hc' hu => ?_
  rw [O7] at hc'
  cases hx : cs[i]? with
  | none => rw [hx] at hc'; cases hc'
  | some x =>
   rw [hx] at hc'
   simp only [Ai, Option.some.injEq] at hc'
   subst hc'
   exact ih i x u hx hu
 | gd t v u h1 h2 ih => exact .gd t _ u ih h2
def Ob.melt (o : Nat -> Ob) : Ob -> Ob
 | .box ty cs => .box ty (Qm o cs)
 | x => x
def Z4 (o : Nat -> Ob) : List (Nat × AV) -> List (Nat × AV)
 | [] => []
 | p :: l => (p.1, p.2.melt o) :: Z4 o l
theorem Ac9 (o : Nat -> Ob) : ∀ (l : List (Nat × AV)) (t : Nat), El (Z4 o l) t = (El l t).melt o
 | [], t => rfl
 | p :: l, t => by
  simp only [Z4, El]
  cases p.1 == t
  ·exact Ac9 o l t
  rfl
def Z5 (o : Nat -> Ob) : List Ob -> List Ob
 | [] => []
 | x :: l => x.melt o :: Z5 o l
theorem Afs (o : Nat -> Ob) : ∀ (l : List Ob) (i : Nat), (Z5 o l).getD i .gone = (l.getD i .gone).melt o
 | [], i => by simp [Z5, Ob.melt]
 | x :: l, 0 => by simp [Z5]
 | x :: l, i + 1 => by have := Afs o l i; simp [Z5] at this ⊢; exact this
def St.melt (st : St) : St := ⟨Z4 st.o st.sl, Z5 st.o st.ob⟩
theorem Rel.melt {E : Ent} {β : Nat -> Option Nat} {st : St} {a : Act} {w : World} (r : Rel E β st a w) : Rel E β st.melt a w := by
 have ho : ∀ i, st.melt.o i = (st.o i).melt st.o := fun i => Afs _ _ _
 have hg : ∀ i, st.melt.o i ≠ .gone -> st.o i ≠ .gone := fun i h e => h (by rw [ho, e]; rfl)
 have s : Ms (E.C β st w) (E.C β st.melt w) := by
  refine ⟨rfl, fun _ h => h, fun _ h => h, fun _ h => h, Aj _, ?_, fun _ _ _ => rfl, ?_, ?_⟩
  ·rintro b hb ⟨i, h1, h2⟩
   refine ⟨i, h1, ?_⟩
   have h2 : (st.melt.o i).live := h2
   rw [ho] at h2
   show (st.o i).live
   cases hq : st.o i <;> rw [hq] at h2 <;> exact h2
  ·intro i ty cs h
   have h : st.o i = _ := h
   exact ⟨⟨_, (ho i).trans (by rw [h]; rfl)⟩, rfl⟩
  intro i ty k fr fz es h
  have h : st.o i = _ := h
  exact ⟨fr, fz, es, (ho i).trans (by rw [h]; rfl), Aj _, fun _ => ⟨rfl, fun b cur hb hc => ⟨cur, hc, rfl⟩⟩⟩
 refine ⟨r.sz, fun t => ?_, r.df, fun i => ?_, fun i j b hi hj => r.inj i j b (hg i hi) (hg j hj), fun i b hi => r.rng i b (hg i hi), r.kp, r.ct.step s, r.kb, r.dk⟩
 ·show Dv _ (El (Z4 st.o st.sl) t) _
  rw [Ac9]
  exact ((r.sl t).melt r).step s
 rw [ho]
 cases hq : st.o i with
 | gone => trivial
 | row ty k fr fz es =>
  have := r.ob i
  rw [hq] at this
  exact this.step s rfl fun _ _ => rfl
 | box ty cs =>
  have := r.ob i
  rw [hq] at this
  obtain ⟨b, cur, h1, h2, h3, h4⟩ := this
  refine ⟨b, cur, h1, h2, by rw [Mh]; exact h3, fun j c u hc hu => ?_⟩
  rw [O7] at hc
  cases hx : cs[j]? with
  | none => rw [hx] at hc; cases hc
  | some x =>
   rw [hx] at hc
   simp only [Ai, Option.some.injEq] at hc
   subst hc
   exact ⟨((h4 j x u hx hu).1.melt r).step s, (h4 j x u hx hu).2⟩
def Xq : Ob -> TypeId
 | .row ty _ _ _ _ => ty
 | _ => 0
def Ap9 : Ob -> Bool
 | .row _ _ fr _ _ => fr
 | _ => false
def St.freeze (st : St) (id : Nat) : St := (st.set id (.row (Xq (st.o id)) (Q8 (st.o id)) (Ap9 (st.o id)) true (Kj (st.o id)))).melt
section
variable {n m : Nat} {st : St} {K : Exit -> St -> Prop} {c : Code}
theorem VW.freeze (id : Nat) (h : Fp (st.o id) = true) (hv : VW P n m c (st.freeze id) K) : VW P n m c st K := fun E F hE hF β a w r => by
 refine hv E F hE hF β a w ?_
 unfold St.freeze
 cases hq : st.o id with
 | row ty k fr fz es => exact (r.freeze hq).1.melt
 | _ => rw [hq] at h; exact absurd h (by simp [Fp])
abbrev Ch := @VW.freeze
theorem VX.freeze (id : Nat) (h : Fp (st.o id) = true) (hv : VX P n m c (st.freeze id) K) : VX P n m c st K := by
 obtain ⟨e, s, h1, h2⟩ := hv
 exact ⟨e, s, .freeze id h h1, h2⟩
theorem VW.own0 (t : Nat) (ty k : Nat) (hk : 0 < k) {k' : Nat} (ht : El st.sl t = .nil k') (hv : VW P n m c ((st.put (some t) (.own st.ob.length 0)).set st.ob.length (.row ty k true false [])) K) : VW P n m c st K := fun E F hE hF β a w r => by
 obtain ⟨r1, h1⟩ := r.empty (Gr st st.ob.length (Aj _)) ty hk true
 refine hv E F hE hF (fun i => if i = st.ob.length then none else β i) a w ?_
 rw [St.put_set]
 have hr := r.sl t
 rw [ht] at hr
 refine ⟨r1.sz, fun x => ?_, r1.df, ?_, ?_, ?_, r1.kp, ?_, r1.kb, r1.dk⟩
 ·rw [Aab]
  show Dv _ (bif t == x then _ else El _ x) _
  cases hb : t == x with
  | true =>
   have : t = x := by simpa using hb
   subst this
   generalize a.tmps.getD t undef = u at hr
   cases hr with
   | nil k A => exact h1 A
  | false => exact r1.sl x
 ·rw [Aab, St.put_o]; exact r1.ob
 ·rw [St.put_o]; exact r1.inj
 ·rw [St.put_o]; exact r1.rng
 rw [Aab]; exact r1.ct
abbrev Cm := @VW.own0
theorem VX.own0 (t : Nat) (ty k : Nat) (hk : 0 < k) {k' : Nat} (ht : El st.sl t = .nil k') (hv : VX P n m c ((st.put (some t) (.own st.ob.length 0)).set st.ob.length (.row ty k true false [])) K) : VX P n m c st K := by
 obtain ⟨e, s, h1, h2⟩ := hv
 exact ⟨e, s, .own0 t ty k hk ht h1, h2⟩
abbrev Cg := @VX.own0
end
end
abbrev TyS (t : Nat) (k : Nat) (e : Nat) : Prop := tok Tryz.prog t = true /\ Rw Tryz.prog t = false /\ tsz Tryz.prog t = 1 /\ zok Tryz.prog t = true /\ Gv Tryz.prog t = [.nil k] /\ I0 Tryz.prog t = 24 /\ G8 Tryz.prog t = true /\ Dw Tryz.prog t = e /\ (Tryz.prog.underlying t).isSome = true
theorem Iy {t : Nat} {k : Nat} {e : Nat} (h0 : tok Tryz.prog t = true := by kernel_rfl) (h1 : Rw Tryz.prog t = false := by kernel_rfl) (h2 : tsz Tryz.prog t = 1 := by kernel_rfl) (h3 : zok Tryz.prog t = true := by kernel_rfl) (h4 : Gv Tryz.prog t = [.nil k] := by kernel_rfl) (h5 : I0 Tryz.prog t = 24 := by kernel_rfl) (h6 : G8 Tryz.prog t = true := by kernel_rfl) (h7 : Dw Tryz.prog t = e := by kernel_rfl) (h8 : (Tryz.prog.underlying t).isSome = true := by kernel_rfl) : TyS t k e := ⟨h0, h1, h2, h3, h4, h5, h6, h7, h8⟩
abbrev TyA (t : Nat) (n : Nat) (z : List AV) (b : Nat) (p : List (Nat × Nat)) : Prop := tok Tryz.prog t = true /\ Rw Tryz.prog t = true /\ tsz Tryz.prog t = n /\ zok Tryz.prog t = true /\ Gv Tryz.prog t = z /\ I0 Tryz.prog t = b /\ Qd Tryz.prog t = true /\ tpl Tryz.prog t = p /\ (Tryz.prog.underlying t).isSome = true
theorem Hy {t : Nat} {n : Nat} {z : List AV} {b : Nat} {p : List (Nat × Nat)} (h0 : tok Tryz.prog t = true := by kernel_rfl) (h1 : Rw Tryz.prog t = true := by kernel_rfl) (h2 : tsz Tryz.prog t = n := by kernel_rfl) (h3 : zok Tryz.prog t = true := by kernel_rfl) (h4 : Gv Tryz.prog t = z := by kernel_rfl) (h5 : I0 Tryz.prog t = b := by kernel_rfl) (h6 : Qd Tryz.prog t = true := by kernel_rfl) (h7 : tpl Tryz.prog t = p := by kernel_rfl) (h8 : (Tryz.prog.underlying t).isSome = true := by kernel_rfl) : TyA t n z b p := ⟨h0, h1, h2, h3, h4, h5, h6, h7, h8⟩
theorem ty3 : tok Tryz.prog 3 = true /\ Rw Tryz.prog 3 = false /\ tsz Tryz.prog 3 = 1 /\ zok Tryz.prog 3 = true /\ Gv Tryz.prog 3 = [.lit (.int .i64 0)] /\ I0 Tryz.prog 3 = 8 /\ Yx Tryz.prog 3 = some .i64 /\ (Tryz.prog.underlying 3).isSome = true := ⟨by kernel_rfl, by kernel_rfl, by kernel_rfl, by kernel_rfl, by kernel_rfl, by kernel_rfl, by kernel_rfl, by kernel_rfl⟩
theorem ty4 : tok Tryz.prog 4 = true /\ Rw Tryz.prog 4 = false /\ tsz Tryz.prog 4 = 1 /\ zok Tryz.prog 4 = true /\ Gv Tryz.prog 4 = [.lit (.bool false)] /\ I0 Tryz.prog 4 = 1 /\ Apm Tryz.prog 4 = true /\ (Tryz.prog.underlying 4).isSome = true := ⟨by kernel_rfl, by kernel_rfl, by kernel_rfl, by kernel_rfl, by kernel_rfl, by kernel_rfl, by kernel_rfl, by kernel_rfl⟩
theorem ty5 : tok Tryz.prog 5 = true /\ Rw Tryz.prog 5 = false /\ tsz Tryz.prog 5 = 1 /\ zok Tryz.prog 5 = true /\ Gv Tryz.prog 5 = [.lit (.int .u8 0)] /\ I0 Tryz.prog 5 = 1 /\ Yx Tryz.prog 5 = some .u8 /\ (Tryz.prog.underlying 5).isSome = true := ⟨by kernel_rfl, by kernel_rfl, by kernel_rfl, by kernel_rfl, by kernel_rfl, by kernel_rfl, by kernel_rfl, by kernel_rfl⟩
theorem ty9 : tok Tryz.prog 9 = true /\ Rw Tryz.prog 9 = false /\ tsz Tryz.prog 9 = 1 /\ zok Tryz.prog 9 = true /\ Gv Tryz.prog 9 = [.lit (.string ⟨#[]⟩)] /\ I0 Tryz.prog 9 = 16 /\ U7 Tryz.prog 9 = true /\ (Tryz.prog.underlying 9).isSome = true := ⟨by kernel_rfl, by kernel_rfl, by kernel_rfl, by kernel_rfl, by kernel_rfl, by kernel_rfl, by kernel_rfl, by kernel_rfl⟩
theorem Axo : TyS 22 1 3 := Iy
theorem Axn : TyS 27 3 88 := Iy
theorem Axm : TyS 28 8 60 := Iy
theorem Axl : TyA 30 6 [.nil 3, .nil 8, .lit (.int .i64 0), .lit (.int .i64 0), .lit (.int .i64 0), .lit (.int .i64 0)] 80 [(0, 1), (1, 1), (2, 1), (3, 1), (4, 1), (5, 1)] := Hy
theorem Axk : TyS 32 17 70 := Iy
theorem Axj : TyS 33 5 135 := Iy
theorem Axi : TyS 34 3 138 := Iy
theorem Axh : TyS 35 4 128 := Iy
theorem Axg : TyA 37 13 [.nil 3, .nil 8, .lit (.int .i64 0), .lit (.int .i64 0), .lit (.int .i64 0), .lit (.int .i64 0), .lit (.bool false), .lit (.int .i64 0), .nil 17, .nil 5, .nil 3, .nil 1, .nil 4] 216 [(0, 6), (6, 1), (7, 1), (8, 1), (9, 1), (10, 1), (11, 1), (12, 1)] := Hy
theorem Axf : TyS 38 4 100 := Iy
theorem Axe : TyA 40 14 [.nil 3, .nil 8, .lit (.int .i64 0), .lit (.int .i64 0), .lit (.int .i64 0), .lit (.int .i64 0), .lit (.bool false), .lit (.int .i64 0), .nil 17, .nil 5, .nil 3, .nil 1, .nil 4, .nil 4] 240 [(0, 13), (13, 1)] := Hy
theorem Axd : TyS 42 5 46 := Iy
theorem Axc : TyS 44 1 5 := Iy
theorem Axb : TyA 46 5 [.lit (.int .i64 0), .lit (.int .i64 0), .lit (.int .i64 0), .lit (.int .i64 0), .nil 1] 56 [(0, 1), (1, 1), (2, 1), (3, 1), (4, 1)] := Hy
theorem Axa : TyS 47 1 44 := Iy
theorem Aw9 : TyA 49 2 [.nil 1, .nil 1] 48 [(0, 1), (1, 1)] := Hy
theorem Aw8 : TyA 56 4 [.lit (.int .i64 0), .nil 1, .nil 1, .nil 1] 80 [(0, 1), (1, 1), (2, 1), (3, 1)] := Hy
theorem Aw7 : TyA 60 8 [.nil 1, .lit (.int .i64 0), .lit (.int .i64 0), .nil 1, .lit (.int .i64 0), .lit (.int .i64 0), .lit (.int .i64 0), .lit (.int .i64 0)] 96 [(0, 1), (1, 1), (2, 1), (3, 1), (4, 1), (5, 1), (6, 1), (7, 1)] := Hy
theorem Aw6 : TyS 61 6 73 := Iy
theorem Aw5 : TyS 62 2 216 := Iy
theorem Aw4 : TyA 64 3 [.lit (.int .i64 0), .lit (.int .i64 0), .lit (.int .i64 0)] 24 [(0, 1), (1, 1), (2, 1)] := Hy
theorem Aw3 : TyA 66 14 [.lit (.int .i64 0), .nil 1, .lit (.int .i64 0), .lit (.int .i64 0), .nil 1, .lit (.int .i64 0), .lit (.int .i64 0), .lit (.int .i64 0), .lit (.int .i64 0), .nil 6, .nil 2, .lit (.int .i64 0), .lit (.int .i64 0), .lit (.int .i64 0)] 176 [(0, 1), (1, 8), (9, 1), (10, 1), (11, 3)] := Hy
theorem Aw2 : TyS 67 5 164 := Iy
theorem Aw1 : TyS 68 1 4 := Iy
theorem Aw0 : TyA 70 17 [.lit (.int .i64 0), .nil 1, .lit (.int .i64 0), .lit (.int .i64 0), .nil 1, .lit (.int .i64 0), .lit (.int .i64 0), .lit (.int .i64 0), .lit (.int .i64 0), .nil 6, .nil 2, .lit (.int .i64 0), .lit (.int .i64 0), .lit (.int .i64 0), .nil 5, .nil 1, .nil 1] 248 [(0, 14), (14, 1), (15, 1), (16, 1)] := Hy
theorem Awz : TyA 73 6 [.lit (.bool false), .nil 1, .lit (.int .i64 0), .lit (.int .i64 0), .lit (.int .i64 0), .lit (.int .i64 0)] 64 [(0, 1), (1, 1), (2, 1), (3, 1), (4, 1), (5, 1)] := Hy
theorem Awy : TyS 77 2 49 := Iy
theorem Awx : TyS 80 4 56 := Iy
theorem Aww : TyA 84 2 [.nil 1, .lit (.int .i64 0)] 32 [(0, 1), (1, 1)] := Hy
theorem Awv : TyS 86 8 124 := Iy
theorem Awu : TyA 88 3 [.nil 8, .nil 1, .lit (.int .i64 0)] 56 [(0, 1), (1, 1), (2, 1)] := Hy
theorem Awt : TyA 98 2 [.nil 1, .lit (.bool false)] 32 [(0, 1), (1, 1)] := Hy
theorem Avx : TyA 100 4 [.lit (.bool false), .lit (.bool false), .nil 1, .lit (.bool false)] 40 [(0, 1), (1, 1), (2, 2)] := Hy
theorem Avw : tok Tryz.prog 108 = true /\ Rw Tryz.prog 108 = false /\ tsz Tryz.prog 108 = 1 /\ zok Tryz.prog 108 = true /\ Gv Tryz.prog 108 = [.lit (.int .i64 0)] /\ I0 Tryz.prog 108 = 8 /\ Yx Tryz.prog 108 = some .i64 /\ (Tryz.prog.underlying 108).isSome = true := ⟨by kernel_rfl, by kernel_rfl, by kernel_rfl, by kernel_rfl, by kernel_rfl, by kernel_rfl, by kernel_rfl, by kernel_rfl⟩
theorem Avv : TyS 113 3 116 := Iy
theorem Avu : TyA 116 3 [.lit (.int .i64 0), .lit (.int .i64 0), .nil 1] 40 [(0, 1), (1, 1), (2, 1)] := Hy
theorem Avt : TyS 120 2 122 := Iy
theorem Avs : tok Tryz.prog 122 = true /\ Rw Tryz.prog 122 = true /\ tsz Tryz.prog 122 = 2 /\ zok Tryz.prog 122 = true /\ Gv Tryz.prog 122 = [.lit (.int .i64 0), .lit (.int .i64 0)] /\ I0 Tryz.prog 122 = 16 /\ Qd Tryz.prog 122 = false /\ Dw Tryz.prog 122 = 3 /\ Alc Tryz.prog 122 = some 2 /\ tpl Tryz.prog 122 = [(0, 1), (1, 1)] /\ (Tryz.prog.underlying 122).isSome = true := ⟨by kernel_rfl, by kernel_rfl, by kernel_rfl, by kernel_rfl, by kernel_rfl, by kernel_rfl, by kernel_rfl, by kernel_rfl, by kernel_rfl, by kernel_rfl, by kernel_rfl⟩
theorem Avr : TyA 124 8 [.lit (.int .i64 0), .lit (.int .i64 0), .lit (.int .i64 0), .lit (.int .i64 0), .lit (.int .i64 0), .lit (.int .i64 0), .lit (.int .i64 0), .lit (.int .i64 0)] 64 [(0, 1), (1, 1), (2, 1), (3, 1), (4, 1), (5, 1), (6, 1), (7, 1)] := Hy
theorem Avq : tok Tryz.prog 125 = true /\ Rw Tryz.prog 125 = false /\ tsz Tryz.prog 125 = 1 /\ zok Tryz.prog 125 = true /\ Gv Tryz.prog 125 = [.lit (.int .u64 0)] /\ I0 Tryz.prog 125 = 8 /\ Yx Tryz.prog 125 = some .u64 /\ (Tryz.prog.underlying 125).isSome = true := ⟨by kernel_rfl, by kernel_rfl, by kernel_rfl, by kernel_rfl, by kernel_rfl, by kernel_rfl, by kernel_rfl, by kernel_rfl⟩
theorem Avp : TyA 128 4 [.lit (.bool false), .lit (.bool false), .nil 1, .nil 1] 56 [(0, 1), (1, 1), (2, 1), (3, 1)] := Hy
theorem Avo : TyS 131 2 185 := Iy
theorem Avn : TyA 133 4 [.nil 2, .lit (.int .i64 0), .nil 1, .lit (.int .i64 0)] 64 [(0, 1), (1, 1), (2, 1), (3, 1)] := Hy
theorem Avm : TyA 135 5 [.nil 2, .lit (.int .i64 0), .nil 1, .lit (.int .i64 0), .lit (.bool false)] 72 [(0, 4), (4, 1)] := Hy
theorem Avl : TyA 138 3 [.lit (.int .i64 0), .lit (.int .i64 0), .nil 1] 40 [(0, 1), (1, 1), (2, 1)] := Hy
theorem Avk : tok Tryz.prog 141 = true /\ Rw Tryz.prog 141 = false /\ tsz Tryz.prog 141 = 1 /\ zok Tryz.prog 141 = true /\ Gv Tryz.prog 141 = [.lit (.int .u64 0)] /\ I0 Tryz.prog 141 = 8 /\ Yx Tryz.prog 141 = some .u64 /\ (Tryz.prog.underlying 141).isSome = true := ⟨by kernel_rfl, by kernel_rfl, by kernel_rfl, by kernel_rfl, by kernel_rfl, by kernel_rfl, by kernel_rfl, by kernel_rfl⟩
theorem Avj : TyS 147 2 149 := Iy
theorem Avi : TyA 149 2 [.lit (.bool false), .nil 3] 32 [(0, 1), (1, 1)] := Hy
theorem Avh : TyS 152 1 80 := Iy
theorem Avg : TyA 154 2 [.nil 1, .nil 4] 48 [(0, 1), (1, 1)] := Hy
theorem Avf : TyS 162 5 166 := Iy
theorem Ave : TyA 164 5 [.lit (.int .i64 0), .lit (.int .i64 0), .lit (.int .i64 0), .lit (.int .i64 0), .nil 5] 56 [(0, 1), (1, 1), (2, 1), (3, 1), (4, 1)] := Hy
theorem Avd : TyA 166 5 [.lit (.int .i64 0), .lit (.int .i64 0), .lit (.int .i64 0), .lit (.int .i64 0), .lit (.int .i64 0)] 40 [(0, 1), (1, 1), (2, 1), (3, 1), (4, 1)] := Hy
theorem Avb : TyA 171 6 [.lit (.int .i64 0), .lit (.int .i64 0), .lit (.int .i64 0), .lit (.int .i64 0), .lit (.int .i64 0), .lit (.int .i64 0)] 48 [(0, 1), (1, 1), (2, 1), (3, 1), (4, 1), (5, 1)] := Hy
theorem Ava : TyA 177 5 [.lit (.int .i64 0), .lit (.int .i64 0), .lit (.int .i64 0), .lit (.int .i64 0), .lit (.int .i64 0)] 40 [(0, 1), (1, 1), (2, 1), (3, 1), (4, 1)] := Hy
theorem Au9 : TyA 185 2 [.lit (.int .i64 0), .lit (.int .i64 0)] 16 [(0, 1), (1, 1)] := Hy
theorem Au8 : TyS 197 1 152 := Iy
theorem Au7 : TyS 198 3 248 := Iy
theorem Au6 : TyA 209 3 [.lit (.int .i64 0), .lit (.int .i64 0), .lit (.int .i64 0)] 24 [(0, 1), (1, 1), (2, 1)] := Hy
theorem Au5 : tok Tryz.prog 213 = true /\ Rw Tryz.prog 213 = false /\ tsz Tryz.prog 213 = 1 /\ zok Tryz.prog 213 = true /\ Gv Tryz.prog 213 = [.lit (.int .u32 0)] /\ I0 Tryz.prog 213 = 4 /\ Yx Tryz.prog 213 = some .u32 /\ (Tryz.prog.underlying 213).isSome = true := ⟨by kernel_rfl, by kernel_rfl, by kernel_rfl, by kernel_rfl, by kernel_rfl, by kernel_rfl, by kernel_rfl, by kernel_rfl⟩
theorem Au4 : TyA 216 2 [.lit (.int .i64 0), .lit (.int .i64 0)] 16 [(0, 1), (1, 1)] := Hy
theorem Au3 : TyS 242 5 287 := Iy
theorem Au2 : TyA 248 3 [.lit (.int .i64 0), .lit (.int .i64 0), .lit (.int .i64 0)] 24 [(0, 1), (1, 1), (2, 1)] := Hy
theorem Au1 : TyA 287 5 [.lit (.int .i64 0), .lit (.int .i64 0), .lit (.int .i64 0), .lit (.int .i64 0), .lit (.int .i64 0)] 40 [(0, 1), (1, 1), (2, 1), (3, 1), (4, 1)] := Hy
theorem Auz : TyS 371 1 62 := Iy
attribute [go_sem] ty3 ty4 ty5 ty9 Axo Axn Axm Axl Axk Axj Axi Axh Axg Axf Axe Axd Axc Axb Axa Aw9 Aw8 Aw7 Aw6 Aw5 Aw4 Aw3 Aw2 Aw1 Aw0 Awz Awy Awx Aww Awv Awu Awt Avx Avw Avv Avu Avt Avs Avr Avq Avp Avo Avn Avm Avl Avk Avj Avi Avh Avg Avf Ave Avd Avb Ava Au9 Au8 Au7 Au6 Au5 Au4 Au3 Au2 Au1 Auz
attribute [go_sem] Value.oneCell'
end Go.Proofs.YtkkimgjinbaemaaGreat
