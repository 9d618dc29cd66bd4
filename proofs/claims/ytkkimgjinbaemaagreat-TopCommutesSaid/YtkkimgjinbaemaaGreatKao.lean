/- The walk. -/
import Derived.Test.YtkkimgjinbaemaaGreatKan
namespace Go.Proofs.YtkkimgjinbaemaaGreat
open Go.RowKit
set_option linter.unusedVariables false
set_option linter.unusedSimpArgs false
set_option maxRecDepth 100000
set_option maxHeartbeats 4000000
section
variable {P : Program}
theorem Ic : ∀ (l : List VO) (st : St) {K K' : St -> Prop}, (∀ s, K s -> K' s) -> runs P l st K -> runs P l st K'
 | [], st, K, K', h, hr => h _ hr
 | v :: os, st, K, K', h, hr => by
  obtain ⟨hg, hr⟩ := hr
  refine ⟨hg, ?_⟩
  cases hc : Ck v.op with
  | true =>
   rw [hc, if_pos rfl] at hr
   rw [if_pos rfl]
   obtain ⟨e, h1, h2⟩ := hr
   exact ⟨e, h1, Ic os _ h h2⟩
  | false =>
   rw [hc, if_neg (by simp)] at hr
   rw [if_neg (by simp)]
   exact ⟨hr.1, Ic os _ h hr.2⟩
theorem Mu : ∀ (l : List VO) (st : St) {K : St -> Prop}, runs P l st K -> ∃ s, runs P l st (fun s' => s' = s) /\ K s
 | [], st, K, hr => ⟨st, rfl, hr⟩
 | v :: os, st, K, hr => by
  obtain ⟨hg, hr⟩ := hr
  cases hc : Ck v.op with
  | true =>
   rw [hc, if_pos rfl] at hr
   obtain ⟨e, h1, h2⟩ := hr
   obtain ⟨s, h3, h4⟩ := Mu os _ h2
   exact ⟨s, ⟨hg, by rw [hc, if_pos rfl]; exact ⟨e, h1, h3⟩⟩, h4⟩
  | false =>
   rw [hc, if_neg (by simp)] at hr
   obtain ⟨s, h3, h4⟩ := Mu os _ hr.2
   exact ⟨s, ⟨hg, by rw [hc, if_neg (by simp)]; exact ⟨hr.1, h3⟩⟩, h4⟩
theorem Qa : ∀ (l : List VO) (st : St) (tr : Tr) {K K' : Tr -> St -> Prop}, (∀ t s, K t s -> K' t s) -> Dj P l st tr K -> Dj P l st tr K'
 | [], st, tr, K, K', h, hr => h _ _ hr
 | v :: os, st, tr, K, K', h, hr => by
  obtain ⟨hg, hr⟩ := hr
  refine ⟨hg, ?_⟩
  cases hc : Ck v.op with
  | true =>
   rw [hc, if_pos rfl] at hr
   rw [if_pos rfl]
   obtain ⟨e, h1, h2⟩ := hr
   exact ⟨e, h1, Qa os _ _ h h2⟩
  | false =>
   rw [hc, if_neg (by simp)] at hr
   rw [if_neg (by simp)]
   exact ⟨hr.1, Qa os _ _ h hr.2⟩
theorem U2 : ∀ (l : List VO) (st : St) (tr : Tr) {K : Tr -> St -> Prop}, Dj P l st tr K -> ∃ t s, Dj P l st tr (fun t' s' => t' = t /\ s' = s) /\ K t s
 | [], st, tr, K, hr => ⟨tr, st, ⟨rfl, rfl⟩, hr⟩
 | v :: os, st, tr, K, hr => by
  obtain ⟨hg, hr⟩ := hr
  cases hc : Ck v.op with
  | true =>
   rw [hc, if_pos rfl] at hr
   obtain ⟨e, h1, h2⟩ := hr
   obtain ⟨t, s, h3, h4⟩ := U2 os _ _ h2
   exact ⟨t, s, ⟨hg, by rw [hc, if_pos rfl]; exact ⟨e, h1, h3⟩⟩, h4⟩
  | false =>
   rw [hc, if_neg (by simp)] at hr
   obtain ⟨t, s, h3, h4⟩ := U2 os _ _ hr.2
   exact ⟨t, s, ⟨hg, by rw [hc, if_neg (by simp)]; exact ⟨hr.1, h3⟩⟩, h4⟩
def VX (P : Program) (n m : Nat) (c : Code) (st : St) (K : Exit -> St -> Prop) : Prop := ∃ e s, VW P n m c st (fun e' s' => e' = e /\ s' = s) /\ K e s
def Afb (m : Nat) (s : St) (C : St -> Prop) : Prop := ∃ sel s', Acf s sel s' /\ (∀ id, id < m -> sel[id]? = some id) /\ C s'
section
variable {n m : Nat} {st : St} {K K' : Exit -> St -> Prop}
theorem VX.mono {c : Code} (h : VX P n m c st K) (hk : ∀ e s, K e s -> K' e s) : VX P n m c st K' := by
 obtain ⟨e, s, h1, h2⟩ := h
 exact ⟨e, s, h1, hk e s h2⟩
theorem VX.seq {x y : Code} (h : VX P n m x st (Exit.vthen (fun s => VX P n m y s K) K)) : VX P n m (.seq x y) st K := by
 obtain ⟨e, s, h1, h2⟩ := h
 cases e with
 | normal =>
  obtain ⟨e2, s2, h3, h4⟩ := h2
  refine ⟨e2, s2, .seq (h1.mono ?_), h4⟩
  rintro e' s' ⟨rfl, rfl⟩
  exact h3
 | _ =>
  refine ⟨_, s, .seq (h1.mono ?_), h2⟩
  rintro e' s' ⟨rfl, rfl⟩
  exact ⟨rfl, rfl⟩
theorem VX.skip (h : K .normal st) : VX P n m .skip st K := ⟨_, _, .skip ⟨rfl, rfl⟩, h⟩
theorem VX.label {l : Nat} (h : K .normal st) : VX P n m (.label l) st K := ⟨_, _, .label ⟨rfl, rfl⟩, h⟩
theorem VX.exit {id : Nat} (h : K (.exit id) st) : VX P n m (.exit id) st K := ⟨_, _, .exit ⟨rfl, rfl⟩, h⟩
theorem VX.goto {l : Nat} (h : K (.goto l) st) : VX P n m (.goto l) st K := ⟨_, _, .goto ⟨rfl, rfl⟩, h⟩
theorem VX.ret (h : K .ret st) : VX P n m .ret st K := ⟨_, _, .ret ⟨rfl, rfl⟩, h⟩
theorem VX.cond {c : Operand} {x y : Code} (hb : F7 (st.raw c).sv = true) (hs : (st.raw c).sb = true) (ht : C4 (st.raw c).sv = true -> VX P n m x st K) (hf : C4 (st.raw c).sv = false -> VX P n m y st K) : VX P n m (.cond c x y) st K := by
 cases hv : C4 (st.raw c).sv with
 | true =>
  obtain ⟨e, s, h1, h2⟩ := ht hv
  exact ⟨e, s, .cond hb hs (fun _ => h1) (fun h => by rw [hv] at h; cases h), h2⟩
 | false =>
  obtain ⟨e, s, h1, h2⟩ := hf hv
  exact ⟨e, s, .cond hb hs (fun h => by rw [hv] at h; cases h) (fun _ => h1), h2⟩
theorem VX.block {id : Nat} {c : Code} (h : VX P n m c st (Exit.vblock id K)) : VX P n m (.block id c) st K := by
 obtain ⟨e, s, h1, h2⟩ := h
 cases e with
 | exit id' =>
  unfold Exit.vblock at h2
  simp only at h2
  split at h2
  ·rename_i e
   refine ⟨.normal, s, .block (h1.mono ?_), h2⟩
   rintro e' s' ⟨rfl, rfl⟩
   unfold Exit.vblock
   simp only
   rw [if_pos e]
   exact ⟨trivial, trivial⟩
  rename_i e
  refine ⟨.exit id', s, .block (h1.mono ?_), h2⟩
  rintro e' s' ⟨rfl, rfl⟩
  unfold Exit.vblock
  simp only
  rw [if_neg e]
  exact ⟨trivial, trivial⟩
 | _ =>
  refine ⟨_, s, .block (h1.mono ?_), h2⟩
  rintro e' s' ⟨rfl, rfl⟩
  exact ⟨rfl, rfl⟩
theorem VX.weak {c : Code} {sel : List Nat} {st' : St} (h : Acf st sel st') (hm : ∀ id, id < m -> sel[id]? = some id) (hv : VX P n m c st' K) : VX P n m c st K := by
 obtain ⟨e, s, h1, h2⟩ := hv
 exact ⟨e, s, .weak h hm h1, h2⟩
theorem VX.wk {c : Code} {C : St -> Prop} (h : Afb m st C) (hv : ∀ s, C s -> VX P n m c s K) : VX P n m c st K := by
 obtain ⟨sel, s, h1, h2, h3⟩ := h
 exact .weak h1 h2 (hv s h3)
theorem VX.cut {x y : Code} (C : St -> Prop) (h : VX P n m x st (Exit.vthen (fun s => Afb m s C) K)) (hy : ∀ s, C s -> VX P n m y s K) : VX P n m (.seq x y) st K :=
 .seq (h.mono fun e s => by
  cases e with
  | normal => exact fun h => .wk h hy
  | _ => exact fun h => h)
theorem VX.loop {c : Code} (I : Nat -> St -> Prop) (z : Nat) (h0 : I z st) (round : ∀ z s, I z s -> VX P n m c s (Exit.vthen (fun s' => ∃ z', z' < z /\ I z' s') K)) : VX P n m (.loop c) st K := by
 have key : ∀ (z : Nat) (st : St), I z st -> ∃ e s Z, ∃ J : Nat -> St -> Prop, K e s /\ J Z st /\ ∀ z' s', J z' s' -> z' <= Z /\ VW P n m c s' (Exit.vthen (fun s'' => ∃ z'', z'' < z' /\ J z'' s'') fun e' s' => e' = e /\ s' = s) := by
  intro z
  induction z using Nat.strongRecOn with
  | _ z ih =>
   intro st hst
   obtain ⟨e1, s1, h1, h2⟩ := round z st hst
   have other : K e1 s1 -> e1 ≠ .normal -> ∃ e s Z, ∃ J : Nat -> St -> Prop, K e s /\ J Z st /\ ∀ z' s', J z' s' -> z' <= Z /\ VW P n m c s' (Exit.vthen (fun s'' => ∃ z'', z'' < z' /\ J z'' s'') fun e' s' => e' = e /\ s' = s) := fun hK hne => by
    refine ⟨e1, s1, 0, fun z' s' => z' = 0 /\ s' = st, hK, ⟨rfl, rfl⟩, ?_⟩
    rintro z' s' ⟨rfl, rfl⟩
    refine ⟨Aj _, h1.mono ?_⟩
    rintro e' s' ⟨rfl, rfl⟩
    cases e' with
    | normal => exact absurd rfl hne
    | _ => exact ⟨rfl, rfl⟩
   cases e1 with
   | normal =>
    obtain ⟨z1, hlt, h3⟩ := h2
    obtain ⟨e, s, Z, J, g1, g2, g3⟩ := ih z1 hlt s1 h3
    refine ⟨e, s, Z + 1, fun z' s' => J z' s' \/ (z' = Z + 1 /\ s' = st), g1, .inr ⟨rfl, rfl⟩, ?_⟩
    rintro z' s' (h | ⟨rfl, rfl⟩)
    ·obtain ⟨q1, q2⟩ := g3 z' s' h
     refine ⟨by omega, q2.mono fun e' s' => ?_⟩
     cases e' with
     | normal => exact fun ⟨z'', a, b⟩ => ⟨z'', a, .inl b⟩
     | _ => exact fun h => h
    refine ⟨Aj _, h1.mono ?_⟩
    rintro e' s' ⟨rfl, rfl⟩
    exact ⟨Z, Nat.lt_succ_self _, .inl g2⟩
   | _ => exact other h2 (by simp)
 obtain ⟨e, s, Z, J, h1, h2, h3⟩ := key z st h0
 exact ⟨e, s, .loop J Z h2 fun z' s' h => (h3 z' s' h).2, h1⟩
theorem VX.loop_w {c : Code} (I : Nat -> St -> Prop) (h0 : ∃ z, Afb m st (I z)) (round : ∀ z s, I z s -> VX P n m c s (Exit.vthen (fun s' => ∃ z', z' < z /\ Afb m s' (I z')) K)) : VX P n m (.loop c) st K := by
 obtain ⟨z, h0⟩ := h0
 exact .loop (fun z s => Afb m s (I z)) z h0 fun z s h => .wk h fun s' hs' => round z s' hs'
theorem VX.region_seq {id : Nat} {l : List Oper} {y : Code} (hd : Cw n l = true) (h : ∀ K1 : St -> Prop, (∀ s, VX P n m y s K -> K1 s) -> runs P (Dg l) st K1) : VX P n m (.seq (.region id l.toArray false) y) st K := by
 obtain ⟨s, h1, e, s2, h2, h3⟩ := Mu _ _ (h _ fun _ h => h)
 refine ⟨e, s2, .region_seq hd fun K1 hK1 => Ic _ _ ?_ h1, h3⟩
 rintro s' rfl
 exact hK1 _ h2
theorem VX.region {id : Nat} {l : List Oper} (hd : Cw n l = true) (h : ∀ K1 : St -> Prop, (∀ s, K .normal s -> K1 s) -> runs P (Dg l) st K1) : VX P n m (.region id l.toArray false) st K := by
 obtain ⟨s, h1, h2⟩ := Mu _ _ (h _ fun _ h => h)
 refine ⟨.normal, s, .region hd (Ic _ _ ?_ h1), h2⟩
 rintro s' rfl
 exact ⟨rfl, rfl⟩
theorem VX.draw1 {id : Nat} {l : List Oper} (hm : P.follows .mixedOrders = true) (hd : Cw n l = true) (hs : Fy l = true)
 (h : ∀ K1 : Tr -> St -> Prop, (∀ tr s, Mx l tr = true -> K .normal s -> K1 tr s) -> Dj P (Dg l) st [] K1) : VX P n m (.region id l.toArray true) st K := by
 obtain ⟨tr, s, h1, hi, h2⟩ := U2 _ _ _ (h (fun tr s => Mx l tr = true /\ K .normal s) fun _ _ h1 h2 => ⟨h1, h2⟩)
 refine ⟨.normal, s, .draw1 hm hd hs fun K1 hK1 => Qa _ _ _ ?_ h1, h2⟩
 rintro t' s' ⟨rfl, rfl⟩
 exact hK1 _ _ hi ⟨rfl, rfl⟩
theorem VX.draw_seq {id : Nat} {l : List Oper} {y : Code} (hm : P.follows .mixedOrders = true) (hd : Cw n l = true) (hs : Fy l = true)
 (h : ∀ K1 : Tr -> St -> Prop, (∀ tr s, Mx l tr = true -> VX P n m y s K -> K1 tr s) -> Dj P (Dg l) st [] K1) : VX P n m (.seq (.region id l.toArray true) y) st K := by
 obtain ⟨tr, s, h1, hi, e, s2, h2, h3⟩ := U2 _ _ _ (h (fun tr s => Mx l tr = true /\ VX P n m y s K) fun _ _ h1 h2 => ⟨h1, h2⟩)
 refine ⟨e, s2, .draw_seq hm hd hs fun K1 hK1 => Qa _ _ _ ?_ h1, h3⟩
 rintro t' s' ⟨rfl, rfl⟩
 exact hK1 _ _ hi h2
end
mutual
def AV.melt (o : Nat -> Ob) : AV -> AV
 | .own id n => match o id with | .row _ k fr true es => if n = es.length then .imm fr k es else .own id n | _ => .own id n
 | .agg cs => .agg (Of o cs)
 | .tup cs => .tup (Of o cs)
 | .fn f cs => .fn f (Of o cs)
 | .any => .any
 | .lit v => .lit v
 | .nil k => .nil k
 | .imm fr k es => .imm fr k es
 | .sub id n lo m => match o id with | .row _ k fr true es => if n = es.length then .imm fr k ((es.drop lo).take m) else .sub id n lo m | _ => .sub id n lo m
 | .ptr id off => .ptr id off
 | .rptr id n i off => .rptr id n i off
 | .bsl id n => .bsl id n
 | .iptr fr cs off => .iptr fr cs off
 | .gd t v => .gd t (v.melt o)
def Of (o : Nat -> Ob) : List AV -> List AV
 | [] => []
 | c :: cs => c.melt o :: Of o cs
end
theorem My (o : Nat -> Ob) : ∀ (cs : List AV) (i : Nat), (Of o cs)[i]? = (cs[i]?).map (AV.melt o)
 | [], i => by simp [Of]
 | c :: cs, 0 => by simp [Of]
 | c :: cs, i + 1 => by simp [Of, My o cs i]
theorem Kl (o : Nat -> Ob) : ∀ (cs : List AV), (Of o cs).length = cs.length
 | [] => rfl
 | c :: cs => by simp [Of, Kl o cs]
theorem Br.melt {E : Ent} {β : Nat -> Option Nat} {st : St} {a : Act} {w : World} (r : Rel E β st a w) {c : AV} {u : Value} (h : Br (E.C β st w) c u) : Br (E.C β st w) (c.melt st.o) u := by
 induction h with
 | own id n u h =>
  unfold AV.melt
  split
  ·rename_i ty k fr es ho
   split
   ·rename_i hn
    exact .imm _ _ _ _ (r.frozen ho h hn)
   exact .own _ _ _ h
  exact .own _ _ _ h
 | any u => exact .any u
 | lit v => exact .lit v
 | nil k A => exact .nil k A
 | imm fr k es u h => exact .imm fr k es u h
 | sub id n lo m u h =>
  unfold AV.melt
  split
  ·rename_i ty k fr es ho
   split
   ·rename_i hn
    exact .imm _ _ _ _ (r.frozenS ho h hn)
   exact .sub _ _ _ _ _ h
  exact .sub _ _ _ _ _ h
 | ptr id off u h => exact .ptr _ _ _ h
 | rptr id n i off u h => exact .rptr _ _ _ _ _ h
 | bsl id n u h => exact .bsl _ _ _ h
 | iptr fr cs off b o cur ty fz us h1 h2 h3 => exact .iptr fr cs off b o cur ty fz us h1 h2 h3
 | agg cs us h1 h2 ih =>
  refine .agg _ _ (by rw [Kl]; exact h1) fun i c u hc' hu => ?_
  rw [My] at hc'
  cases hx : cs[i]? with
  | none => rw [hx] at hc'; cases hc'
  | some x =>
   rw [hx] at hc'
   simp only [Ai, Option.some.injEq] at hc'
   subst hc'
   exact ih i x u hx hu
 | tup cs us h1 h2 ih =>
  refine .tup _ _ (by rw [Kl]; exact h1) fun i c u hc' hu => ?_
  rw [My] at hc'
  cases hx : cs[i]? with
  | none => rw [hx] at hc'; cases hc'
  | some x =>
   rw [hx] at hc'
   simp only [Ai, Option.some.injEq] at hc'
   subst hc'
   exact ih i x u hx hu
 | fn f cs us h1 h2 ih =>
  refine .fn f _ _ (by rw [Kl]; exact h1) fun i c u hc' hu => ?_
  rw [My] at hc'
  cases hx : cs[i]? with
  | none => rw [hx] at hc'; cases hc'
  | some x =>
   rw [hx] at hc'
   simp only [Ai, Option.some.injEq] at hc'
   subst hc'
   exact ih i x u hx hu
 | gd t v u h1 h2 ih => exact .gd t _ u ih h2
def Ob.melt (o : Nat -> Ob) : Ob -> Ob
 | .box ty cs => .box ty (Of o cs)
 | x => x
def Xl (o : Nat -> Ob) : List (Nat × AV) -> List (Nat × AV)
 | [] => []
 | p :: l => (p.1, p.2.melt o) :: Xl o l
theorem Aal (o : Nat -> Ob) : ∀ (l : List (Nat × AV)) (t : Nat), Ce (Xl o l) t = (Ce l t).melt o
 | [], t => rfl
 | p :: l, t => by
  simp only [Xl, Ce]
  cases p.1 == t
  ·exact Aal o l t
  rfl
def Xm (o : Nat -> Ob) : List Ob -> List Ob
 | [] => []
 | x :: l => x.melt o :: Xm o l
theorem Ac1 (o : Nat -> Ob) : ∀ (l : List Ob) (i : Nat), (Xm o l).getD i .gone = (l.getD i .gone).melt o
 | [], i => by simp [Xm, Ob.melt]
 | x :: l, 0 => by simp [Xm]
 | x :: l, i + 1 => by have := Ac1 o l i; simp [Xm] at this ⊢; exact this
def St.melt (st : St) : St := ⟨Xl st.o st.sl, Xm st.o st.ob⟩
theorem Rel.melt {E : Ent} {β : Nat -> Option Nat} {st : St} {a : Act} {w : World} (r : Rel E β st a w) : Rel E β st.melt a w := by
 have ho : ∀ i, st.melt.o i = (st.o i).melt st.o := fun i => Ac1 _ _ _
 have hg : ∀ i, st.melt.o i ≠ .gone -> st.o i ≠ .gone := fun i h e => h (by rw [ho, e]; rfl)
 have s : Ks (E.C β st w) (E.C β st.melt w) := by
  refine ⟨rfl, fun _ h => h, fun _ h => h, fun _ h => h, Aj _, ?_, fun _ _ _ => rfl, ?_, ?_⟩
  ·rintro b hb ⟨i, h1, h2⟩
   refine ⟨i, h1, ?_⟩
   have h2 : (st.melt.o i).live := h2
   rw [ho] at h2
   show (st.o i).live
   cases hq : st.o i <;> rw [hq] at h2 <;> exact h2
  ·intro i ty cs h
   have h : st.o i = _ := h
   exact ⟨⟨_, (ho i).trans (by rw [h]; rfl)⟩, rfl⟩
  intro i ty k fr fz es h
  have h : st.o i = _ := h
  exact ⟨fr, fz, es, (ho i).trans (by rw [h]; rfl), Aj _, fun _ => ⟨rfl, fun b cur hb hc => ⟨cur, hc, rfl⟩⟩⟩
 refine ⟨r.sz, fun t => ?_, r.df, fun i => ?_, fun i j b hi hj => r.inj i j b (hg i hi) (hg j hj), fun i b hi => r.rng i b (hg i hi), r.kp, r.ct.step s, r.kb, r.dk⟩
 ·show Br _ (Ce (Xl st.o st.sl) t) _
  rw [Aal]
  exact ((r.sl t).melt r).step s
 rw [ho]
 cases hq : st.o i with
 | gone => trivial
 | row ty k fr fz es =>
  have := r.ob i
  rw [hq] at this
  exact this.step s rfl fun _ _ => rfl
 | box ty cs =>
  have := r.ob i
  rw [hq] at this
  obtain ⟨b, cur, h1, h2, h3, h4⟩ := this
  refine ⟨b, cur, h1, h2, by rw [Kl]; exact h3, fun j c u hc hu => ?_⟩
  rw [My] at hc
  cases hx : cs[j]? with
  | none => rw [hx] at hc; cases hc
  | some x =>
   rw [hx] at hc
   simp only [Ai, Option.some.injEq] at hc
   subst hc
   exact ⟨((h4 j x u hx hu).1.melt r).step s, (h4 j x u hx hu).2⟩
def U5 : Ob -> TypeId
 | .row ty _ _ _ _ => ty
 | _ => 0
def Am6 : Ob -> Bool
 | .row _ _ fr _ _ => fr
 | _ => false
def St.freeze (st : St) (id : Nat) : St := (st.set id (.row (U5 (st.o id)) (O2 (st.o id)) (Am6 (st.o id)) true (Ik (st.o id)))).melt
section
variable {n m : Nat} {st : St} {K : Exit -> St -> Prop} {c : Code}
theorem VW.freeze (id : Nat) (h : Db (st.o id) = true) (hv : VW P n m c (st.freeze id) K) : VW P n m c st K := fun E F hE hF β a w r => by
 refine hv E F hE hF β a w ?_
 unfold St.freeze
 cases hq : st.o id with
 | row ty k fr fz es => exact (r.freeze hq).1.melt
 | _ => rw [hq] at h; exact absurd h (by simp [Db])
theorem VX.freeze (id : Nat) (h : Db (st.o id) = true) (hv : VX P n m c (st.freeze id) K) : VX P n m c st K := by
 obtain ⟨e, s, h1, h2⟩ := hv
 exact ⟨e, s, .freeze id h h1, h2⟩
theorem VW.own0 (t : Nat) (ty k : Nat) (hk : 0 < k) {k' : Nat} (ht : Ce st.sl t = .nil k') (hv : VW P n m c ((st.put (some t) (.own st.ob.length 0)).set st.ob.length (.row ty k true false [])) K) : VW P n m c st K := fun E F hE hF β a w r => by
 obtain ⟨r1, h1⟩ := r.empty (Dx st st.ob.length (Aj _)) ty hk true
 refine hv E F hE hF (fun i => if i = st.ob.length then none else β i) a w ?_
 rw [St.put_set]
 have hr := r.sl t
 rw [ht] at hr
 refine ⟨r1.sz, fun x => ?_, r1.df, ?_, ?_, ?_, r1.kp, ?_, r1.kb, r1.dk⟩
 ·rw [Xr]
  show Br _ (bif t == x then _ else Ce _ x) _
  cases hb : t == x with
  | true =>
   have : t = x := by simpa using hb
   subst this
   generalize a.tmps.getD t undef = u at hr
   cases hr with
   | nil k A => exact h1 A
  | false => exact r1.sl x
 ·rw [Xr, St.put_o]; exact r1.ob
 ·rw [St.put_o]; exact r1.inj
 ·rw [St.put_o]; exact r1.rng
 rw [Xr]; exact r1.ct
theorem VX.own0 (t : Nat) (ty k : Nat) (hk : 0 < k) {k' : Nat} (ht : Ce st.sl t = .nil k') (hv : VX P n m c ((st.put (some t) (.own st.ob.length 0)).set st.ob.length (.row ty k true false [])) K) : VX P n m c st K := by
 obtain ⟨e, s, h1, h2⟩ := hv
 exact ⟨e, s, .own0 t ty k hk ht h1, h2⟩
end
end
abbrev TyS (t : Nat) (k : Nat) (e : Nat) : Prop := tok Tryz.prog t = true /\ Po Tryz.prog t = false /\ tsz Tryz.prog t = 1 /\ zok Tryz.prog t = true /\ El Tryz.prog t = [.nil k] /\ Gp Tryz.prog t = 24 /\ Ex Tryz.prog t = true /\ Bs Tryz.prog t = e /\ (Tryz.prog.underlying t).isSome = true
theorem Gi {t : Nat} {k : Nat} {e : Nat} (h0 : tok Tryz.prog t = true := by kernel_rfl) (h1 : Po Tryz.prog t = false := by kernel_rfl) (h2 : tsz Tryz.prog t = 1 := by kernel_rfl) (h3 : zok Tryz.prog t = true := by kernel_rfl) (h4 : El Tryz.prog t = [.nil k] := by kernel_rfl) (h5 : Gp Tryz.prog t = 24 := by kernel_rfl) (h6 : Ex Tryz.prog t = true := by kernel_rfl) (h7 : Bs Tryz.prog t = e := by kernel_rfl) (h8 : (Tryz.prog.underlying t).isSome = true := by kernel_rfl) : TyS t k e := ⟨h0, h1, h2, h3, h4, h5, h6, h7, h8⟩
abbrev TyA (t : Nat) (n : Nat) (z : List AV) (b : Nat) (p : List (Nat × Nat)) : Prop := tok Tryz.prog t = true /\ Po Tryz.prog t = true /\ tsz Tryz.prog t = n /\ zok Tryz.prog t = true /\ El Tryz.prog t = z /\ Gp Tryz.prog t = b /\ N7 Tryz.prog t = true /\ tpl Tryz.prog t = p /\ (Tryz.prog.underlying t).isSome = true
theorem Fu {t : Nat} {n : Nat} {z : List AV} {b : Nat} {p : List (Nat × Nat)} (h0 : tok Tryz.prog t = true := by kernel_rfl) (h1 : Po Tryz.prog t = true := by kernel_rfl) (h2 : tsz Tryz.prog t = n := by kernel_rfl) (h3 : zok Tryz.prog t = true := by kernel_rfl) (h4 : El Tryz.prog t = z := by kernel_rfl) (h5 : Gp Tryz.prog t = b := by kernel_rfl) (h6 : N7 Tryz.prog t = true := by kernel_rfl) (h7 : tpl Tryz.prog t = p := by kernel_rfl) (h8 : (Tryz.prog.underlying t).isSome = true := by kernel_rfl) : TyA t n z b p := ⟨h0, h1, h2, h3, h4, h5, h6, h7, h8⟩
theorem ty3 : tok Tryz.prog 3 = true /\ Po Tryz.prog 3 = false /\ tsz Tryz.prog 3 = 1 /\ zok Tryz.prog 3 = true /\ El Tryz.prog 3 = [.lit (.int .i64 0)] /\ Gp Tryz.prog 3 = 8 /\ Wf Tryz.prog 3 = some .i64 /\ (Tryz.prog.underlying 3).isSome = true := ⟨by kernel_rfl, by kernel_rfl, by kernel_rfl, by kernel_rfl, by kernel_rfl, by kernel_rfl, by kernel_rfl, by kernel_rfl⟩
theorem ty4 : tok Tryz.prog 4 = true /\ Po Tryz.prog 4 = false /\ tsz Tryz.prog 4 = 1 /\ zok Tryz.prog 4 = true /\ El Tryz.prog 4 = [.lit (.bool false)] /\ Gp Tryz.prog 4 = 1 /\ Amg Tryz.prog 4 = true /\ (Tryz.prog.underlying 4).isSome = true := ⟨by kernel_rfl, by kernel_rfl, by kernel_rfl, by kernel_rfl, by kernel_rfl, by kernel_rfl, by kernel_rfl, by kernel_rfl⟩
theorem ty5 : tok Tryz.prog 5 = true /\ Po Tryz.prog 5 = false /\ tsz Tryz.prog 5 = 1 /\ zok Tryz.prog 5 = true /\ El Tryz.prog 5 = [.lit (.int .u8 0)] /\ Gp Tryz.prog 5 = 1 /\ Wf Tryz.prog 5 = some .u8 /\ (Tryz.prog.underlying 5).isSome = true := ⟨by kernel_rfl, by kernel_rfl, by kernel_rfl, by kernel_rfl, by kernel_rfl, by kernel_rfl, by kernel_rfl, by kernel_rfl⟩
theorem ty9 : tok Tryz.prog 9 = true /\ Po Tryz.prog 9 = false /\ tsz Tryz.prog 9 = 1 /\ zok Tryz.prog 9 = true /\ El Tryz.prog 9 = [.lit (.string ⟨#[]⟩)] /\ Gp Tryz.prog 9 = 16 /\ Sp Tryz.prog 9 = true /\ (Tryz.prog.underlying 9).isSome = true := ⟨by kernel_rfl, by kernel_rfl, by kernel_rfl, by kernel_rfl, by kernel_rfl, by kernel_rfl, by kernel_rfl, by kernel_rfl⟩
theorem At4 : TyS 22 1 3 := Gi
theorem At3 : TyS 27 3 88 := Gi
theorem At2 : TyS 28 8 60 := Gi
theorem At1 : TyA 30 6 [.nil 3, .nil 8, .lit (.int .i64 0), .lit (.int .i64 0), .lit (.int .i64 0), .lit (.int .i64 0)] 80 [(0, 1), (1, 1), (2, 1), (3, 1), (4, 1), (5, 1)] := Fu
theorem At0 : TyS 32 17 70 := Gi
theorem Atz : TyS 33 5 135 := Gi
theorem Aty : TyS 34 3 138 := Gi
theorem Atx : TyS 35 4 128 := Gi
theorem Atw : TyA 37 13 [.nil 3, .nil 8, .lit (.int .i64 0), .lit (.int .i64 0), .lit (.int .i64 0), .lit (.int .i64 0), .lit (.bool false), .lit (.int .i64 0), .nil 17, .nil 5, .nil 3, .nil 1, .nil 4] 216 [(0, 6), (6, 1), (7, 1), (8, 1), (9, 1), (10, 1), (11, 1), (12, 1)] := Fu
theorem Atv : TyS 38 4 100 := Gi
theorem Atu : TyA 40 14 [.nil 3, .nil 8, .lit (.int .i64 0), .lit (.int .i64 0), .lit (.int .i64 0), .lit (.int .i64 0), .lit (.bool false), .lit (.int .i64 0), .nil 17, .nil 5, .nil 3, .nil 1, .nil 4, .nil 4] 240 [(0, 13), (13, 1)] := Fu
theorem Att : TyS 42 5 46 := Gi
theorem Ats : TyS 44 1 5 := Gi
theorem Atr : TyA 46 5 [.lit (.int .i64 0), .lit (.int .i64 0), .lit (.int .i64 0), .lit (.int .i64 0), .nil 1] 56 [(0, 1), (1, 1), (2, 1), (3, 1), (4, 1)] := Fu
theorem Atq : TyS 47 1 44 := Gi
theorem Atp : TyA 49 2 [.nil 1, .nil 1] 48 [(0, 1), (1, 1)] := Fu
theorem Ato : TyA 56 4 [.lit (.int .i64 0), .nil 1, .nil 1, .nil 1] 80 [(0, 1), (1, 1), (2, 1), (3, 1)] := Fu
theorem Atn : TyA 60 8 [.nil 1, .lit (.int .i64 0), .lit (.int .i64 0), .nil 1, .lit (.int .i64 0), .lit (.int .i64 0), .lit (.int .i64 0), .lit (.int .i64 0)] 96 [(0, 1), (1, 1), (2, 1), (3, 1), (4, 1), (5, 1), (6, 1), (7, 1)] := Fu
theorem Atm : TyS 61 6 73 := Gi
theorem Atl : TyS 62 2 216 := Gi
theorem Atk : TyA 64 3 [.lit (.int .i64 0), .lit (.int .i64 0), .lit (.int .i64 0)] 24 [(0, 1), (1, 1), (2, 1)] := Fu
theorem Atj : TyA 66 14 [.lit (.int .i64 0), .nil 1, .lit (.int .i64 0), .lit (.int .i64 0), .nil 1, .lit (.int .i64 0), .lit (.int .i64 0), .lit (.int .i64 0), .lit (.int .i64 0), .nil 6, .nil 2, .lit (.int .i64 0), .lit (.int .i64 0), .lit (.int .i64 0)] 176 [(0, 1), (1, 8), (9, 1), (10, 1), (11, 3)] := Fu
theorem Ati : TyS 67 5 164 := Gi
theorem Ath : TyS 68 1 4 := Gi
theorem Atg : TyA 70 17 [.lit (.int .i64 0), .nil 1, .lit (.int .i64 0), .lit (.int .i64 0), .nil 1, .lit (.int .i64 0), .lit (.int .i64 0), .lit (.int .i64 0), .lit (.int .i64 0), .nil 6, .nil 2, .lit (.int .i64 0), .lit (.int .i64 0), .lit (.int .i64 0), .nil 5, .nil 1, .nil 1] 248 [(0, 14), (14, 1), (15, 1), (16, 1)] := Fu
theorem Atf : TyA 73 6 [.lit (.bool false), .nil 1, .lit (.int .i64 0), .lit (.int .i64 0), .lit (.int .i64 0), .lit (.int .i64 0)] 64 [(0, 1), (1, 1), (2, 1), (3, 1), (4, 1), (5, 1)] := Fu
theorem Ate : TyS 77 2 49 := Gi
theorem Atd : TyS 80 4 56 := Gi
theorem Atc : TyA 84 2 [.nil 1, .lit (.int .i64 0)] 32 [(0, 1), (1, 1)] := Fu
theorem Atb : TyS 86 8 124 := Gi
theorem Ata : TyA 88 3 [.nil 8, .nil 1, .lit (.int .i64 0)] 56 [(0, 1), (1, 1), (2, 1)] := Fu
theorem As9 : TyA 98 2 [.nil 1, .lit (.bool false)] 32 [(0, 1), (1, 1)] := Fu
theorem Ask : TyA 100 4 [.lit (.bool false), .lit (.bool false), .nil 1, .lit (.bool false)] 40 [(0, 1), (1, 1), (2, 2)] := Fu
theorem Asj : tok Tryz.prog 108 = true /\ Po Tryz.prog 108 = false /\ tsz Tryz.prog 108 = 1 /\ zok Tryz.prog 108 = true /\ El Tryz.prog 108 = [.lit (.int .i64 0)] /\ Gp Tryz.prog 108 = 8 /\ Wf Tryz.prog 108 = some .i64 /\ (Tryz.prog.underlying 108).isSome = true := ⟨by kernel_rfl, by kernel_rfl, by kernel_rfl, by kernel_rfl, by kernel_rfl, by kernel_rfl, by kernel_rfl, by kernel_rfl⟩
theorem Asi : TyS 113 3 116 := Gi
theorem Ash : TyA 116 3 [.lit (.int .i64 0), .lit (.int .i64 0), .nil 1] 40 [(0, 1), (1, 1), (2, 1)] := Fu
theorem Asg : TyS 120 2 122 := Gi
theorem Asf : tok Tryz.prog 122 = true /\ Po Tryz.prog 122 = true /\ tsz Tryz.prog 122 = 2 /\ zok Tryz.prog 122 = true /\ El Tryz.prog 122 = [.lit (.int .i64 0), .lit (.int .i64 0)] /\ Gp Tryz.prog 122 = 16 /\ N7 Tryz.prog 122 = false /\ Bs Tryz.prog 122 = 3 /\ Aie Tryz.prog 122 = some 2 /\ tpl Tryz.prog 122 = [(0, 1), (1, 1)] /\ (Tryz.prog.underlying 122).isSome = true := ⟨by kernel_rfl, by kernel_rfl, by kernel_rfl, by kernel_rfl, by kernel_rfl, by kernel_rfl, by kernel_rfl, by kernel_rfl, by kernel_rfl, by kernel_rfl, by kernel_rfl⟩
theorem Ase : TyA 124 8 [.lit (.int .i64 0), .lit (.int .i64 0), .lit (.int .i64 0), .lit (.int .i64 0), .lit (.int .i64 0), .lit (.int .i64 0), .lit (.int .i64 0), .lit (.int .i64 0)] 64 [(0, 1), (1, 1), (2, 1), (3, 1), (4, 1), (5, 1), (6, 1), (7, 1)] := Fu
theorem Asd : tok Tryz.prog 125 = true /\ Po Tryz.prog 125 = false /\ tsz Tryz.prog 125 = 1 /\ zok Tryz.prog 125 = true /\ El Tryz.prog 125 = [.lit (.int .u64 0)] /\ Gp Tryz.prog 125 = 8 /\ Wf Tryz.prog 125 = some .u64 /\ (Tryz.prog.underlying 125).isSome = true := ⟨by kernel_rfl, by kernel_rfl, by kernel_rfl, by kernel_rfl, by kernel_rfl, by kernel_rfl, by kernel_rfl, by kernel_rfl⟩
theorem Asc : TyA 128 4 [.lit (.bool false), .lit (.bool false), .nil 1, .nil 1] 56 [(0, 1), (1, 1), (2, 1), (3, 1)] := Fu
theorem Asb : TyS 131 2 185 := Gi
theorem Asa : TyA 133 4 [.nil 2, .lit (.int .i64 0), .nil 1, .lit (.int .i64 0)] 64 [(0, 1), (1, 1), (2, 1), (3, 1)] := Fu
theorem Ar9 : TyA 135 5 [.nil 2, .lit (.int .i64 0), .nil 1, .lit (.int .i64 0), .lit (.bool false)] 72 [(0, 4), (4, 1)] := Fu
theorem Ar8 : TyA 138 3 [.lit (.int .i64 0), .lit (.int .i64 0), .nil 1] 40 [(0, 1), (1, 1), (2, 1)] := Fu
theorem Ar7 : tok Tryz.prog 141 = true /\ Po Tryz.prog 141 = false /\ tsz Tryz.prog 141 = 1 /\ zok Tryz.prog 141 = true /\ El Tryz.prog 141 = [.lit (.int .u64 0)] /\ Gp Tryz.prog 141 = 8 /\ Wf Tryz.prog 141 = some .u64 /\ (Tryz.prog.underlying 141).isSome = true := ⟨by kernel_rfl, by kernel_rfl, by kernel_rfl, by kernel_rfl, by kernel_rfl, by kernel_rfl, by kernel_rfl, by kernel_rfl⟩
theorem Ar6 : TyS 147 2 149 := Gi
theorem Ar5 : TyA 149 2 [.lit (.bool false), .nil 3] 32 [(0, 1), (1, 1)] := Fu
theorem Ar4 : TyS 152 1 80 := Gi
theorem Ar3 : TyA 154 2 [.nil 1, .nil 4] 48 [(0, 1), (1, 1)] := Fu
theorem Ar2 : TyS 162 5 166 := Gi
theorem Ar1 : TyA 164 5 [.lit (.int .i64 0), .lit (.int .i64 0), .lit (.int .i64 0), .lit (.int .i64 0), .nil 5] 56 [(0, 1), (1, 1), (2, 1), (3, 1), (4, 1)] := Fu
theorem Ar0 : TyA 166 5 [.lit (.int .i64 0), .lit (.int .i64 0), .lit (.int .i64 0), .lit (.int .i64 0), .lit (.int .i64 0)] 40 [(0, 1), (1, 1), (2, 1), (3, 1), (4, 1)] := Fu
theorem Ary : TyA 171 6 [.lit (.int .i64 0), .lit (.int .i64 0), .lit (.int .i64 0), .lit (.int .i64 0), .lit (.int .i64 0), .lit (.int .i64 0)] 48 [(0, 1), (1, 1), (2, 1), (3, 1), (4, 1), (5, 1)] := Fu
theorem Arx : TyA 177 5 [.lit (.int .i64 0), .lit (.int .i64 0), .lit (.int .i64 0), .lit (.int .i64 0), .lit (.int .i64 0)] 40 [(0, 1), (1, 1), (2, 1), (3, 1), (4, 1)] := Fu
theorem Arw : TyA 185 2 [.lit (.int .i64 0), .lit (.int .i64 0)] 16 [(0, 1), (1, 1)] := Fu
theorem Arv : TyS 197 1 152 := Gi
theorem Aru : TyS 198 3 248 := Gi
theorem Art : TyA 209 3 [.lit (.int .i64 0), .lit (.int .i64 0), .lit (.int .i64 0)] 24 [(0, 1), (1, 1), (2, 1)] := Fu
theorem Ars : tok Tryz.prog 213 = true /\ Po Tryz.prog 213 = false /\ tsz Tryz.prog 213 = 1 /\ zok Tryz.prog 213 = true /\ El Tryz.prog 213 = [.lit (.int .u32 0)] /\ Gp Tryz.prog 213 = 4 /\ Wf Tryz.prog 213 = some .u32 /\ (Tryz.prog.underlying 213).isSome = true := ⟨by kernel_rfl, by kernel_rfl, by kernel_rfl, by kernel_rfl, by kernel_rfl, by kernel_rfl, by kernel_rfl, by kernel_rfl⟩
theorem Arr : TyA 216 2 [.lit (.int .i64 0), .lit (.int .i64 0)] 16 [(0, 1), (1, 1)] := Fu
theorem Arq : TyS 242 5 287 := Gi
theorem Arp : TyA 248 3 [.lit (.int .i64 0), .lit (.int .i64 0), .lit (.int .i64 0)] 24 [(0, 1), (1, 1), (2, 1)] := Fu
theorem Aro : TyA 287 5 [.lit (.int .i64 0), .lit (.int .i64 0), .lit (.int .i64 0), .lit (.int .i64 0), .lit (.int .i64 0)] 40 [(0, 1), (1, 1), (2, 1), (3, 1), (4, 1)] := Fu
theorem Arm : TyS 371 1 62 := Gi
attribute [go_sem] ty3 ty4 ty5 ty9 At4 At3 At2 At1 At0 Atz Aty Atx Atw Atv Atu Att Ats Atr Atq Atp Ato Atn Atm Atl Atk Atj Ati Ath Atg Atf Ate Atd Atc Atb Ata As9 Ask Asj Asi Ash Asg Asf Ase Asd Asc Asb Asa Ar9 Ar8 Ar7 Ar6 Ar5 Ar4 Ar3 Ar2 Ar1 Ar0 Ary Arx Arw Arv Aru Art Ars Arr Arq Arp Aro Arm
attribute [go_sem] Value.oneCell'
end Go.Proofs.YtkkimgjinbaemaaGreat
