/- The walk. -/
import Derived.Test.YtkkimgjinbaemaaGreatKab
noncomputable section
namespace Go.Proofs.YtkkimgjinbaemaaGreat
open Go.RowKit
set_option linter.unusedVariables false
set_option linter.unusedSimpArgs false
set_option linter.defProp false
set_option linter.unusedSectionVars false
set_option maxRecDepth 100000
set_option maxHeartbeats 4000000
section
variable {P:Program}
def Nq (id:Nat):List Nat->Nat->Option Nat
 | [],_=>none
 | x::xs,n=>if x=id then some n else Nq id xs (n+1)
theorem Abr {id:Nat}:∀{l:List Nat} {n j:Nat},Nq id l n=some j->n<=j/\l[j - n]? = some id
 | [],n,j,h=>by cases h
 | x::xs,n,j,h=>by
  unfold Nq at h
  split at h
  ·rename_i e;injection h with h;subst h;exact⟨Aj _,by simp[e]⟩
  obtain⟨h1,h2⟩:=Abr h
  exact⟨by omega,by rw[show j - n=(j - (n+1))+1 by omega,Bb];exact h2⟩
def Sim:Ob->Ob->Prop
 | .gone,_=>True
 | .box ty _,o=>∃cs,o=.box ty cs
 | .row ty k _ _ es,o=>∃fr fz,o=.row ty k fr fz es
mutual
def AV.passR (o:Nat->Ob) (ρ:Nat->Option Nat):AV->AV
 | .own id n=>match ρ id with | some j=>.own j n | none=>.imm false (T4 (o id)) (Lu (o id))
 | .sub id n lo m=>match ρ id with | some j=>.sub j n lo m | none=>.imm false (T4 (o id)) (((Lu (o id)).drop lo).take m)
 | .ptr id off=>match ρ id with | some j=>.ptr j off | none=>.any
 | .rptr id n i off=>match ρ id with | some j=>.rptr j n i off | none=>.any
 | .bsl id n=>match ρ id with | some j=>.bsl j n | none=>.any
 | .agg cs=>.agg (G9 o ρ cs)
 | .tup cs=>.tup (G9 o ρ cs)
 | .fn f cs=>.fn f (G9 o ρ cs)
 | .lit v=>.lit v
 | .nil k=>.nil k
 | .imm fr k es=>.imm fr k es
 | .iptr fr cs off=>.iptr fr cs off
 | _=>.any
def G9 (o:Nat->Ob) (ρ:Nat->Option Nat):List AV->List AV
 | []=>[]
 | c::cs=>c.passR o ρ::G9 o ρ cs
end
mutual
def AV.borR (ρ:Nat->Option Nat):AV->Bool
 | .own id _=>(ρ id).isNone
 | .sub id _ _ _=>(ρ id).isNone
 | .agg cs=>U7 ρ cs
 | .tup cs=>U7 ρ cs
 | .fn _ cs=>U7 ρ cs
 | _=>false
def U7 (ρ:Nat->Option Nat):List AV->Bool
 | []=>false
 | c::cs=>c.borR ρ||U7 ρ cs
end
theorem Pn (o:Nat->Ob) (ρ:Nat->Option Nat):∀(cs:List AV) (i:Nat),(G9 o ρ cs)[i]? = (cs[i]?).map (AV.passR o ρ)
 | [],i=>by simp[G9]
 | c::cs,0=>by simp[G9]
 | c::cs,i+1=>by simp[G9,Pn o ρ cs i]
theorem K0 (o:Nat->Ob) (ρ:Nat->Option Nat):∀(cs:List AV),(G9 o ρ cs).length=cs.length
 | []=>rfl
 | c::cs=>by simp[G9,K0 o ρ cs]
theorem Rk {ρ:Nat->Option Nat}:∀{cs:List AV} (h:U7 ρ cs=false) {i:Nat} {c:AV},cs[i]? = some c->c.borR ρ=false
 | [],_,i,c,h=>by simp at h
 | d::cs,h',0,c,h=>by simp at h;subst h;simp only[U7,Bool.or_eq_false_iff] at h';exact h'.1
 | d::cs,h',i+1,c,h=>by simp at h;simp only[U7,Bool.or_eq_false_iff] at h';exact Rk h'.2 h
def Ob.passR (o:Nat->Ob) (ρ:Nat->Option Nat):Ob->Ob
 | .box ty cs=>.box ty (G9 o ρ cs)
 | x=>x
def Ob.passC (o:Nat->Ob):Ob->Prop
 | .box _ cs=>J4 o cs
 | _=>True
def Ob.borR (ρ:Nat->Option Nat):Ob->Bool
 | .box _ cs=>U7 ρ cs
 | _=>false
variable {E:Gs} {β:Nat->Option Nat} {st:St} {a:Act} {w:World}
theorem Asw (r:Eu E β st a w) {C0:VC} (hh:C0.h=w.heap) {f:Bool} (hS:∀fr b,(E.C β st w).S fr b->C0.S f b) {id:Nat} (hL:∀b,β id=some b->C0.S f b) {ty k:Nat} {fr fz:Bool} {es:List (List T)} (ho:st.o id=.row ty k fr fz es) {A:Option Addr} {c lo m:Nat} (hlo:lo+m<=es.length) (hc:m<=c) (hA:m=0\/∃b,β id=some b/\A=some ⟨b,lo*k,none⟩) :
  Gq C0.h (C0.S f) (.sl k ((es.drop lo).take m)) (.slice A m c):=by
 obtain⟨hk,hel,hcell⟩:=r.row_cells ho
 have hlen:((es.drop lo).take m).length=m:=by rw[A5,Bc];omega
 rcases hA with rfl | ⟨b,hb,rfl⟩
 ·rw[List.take_zero];exact .nil _ _ _
 rcases hcell with⟨hb',_⟩ | ⟨b',cur,c',hb',g1,g2,g3,g4,g5⟩
 ·rw[hb'] at hb;cases hb
 rw[hb'] at hb
 injection hb with hb
 subst hb
 have hget:∀(i:Nat) (e:List T),((es.drop lo).take m)[i]? = some e->es[lo+i]? = some e:=fun i e he=>by
  have hi:i<m:=by rw[<- hlen];exact (Ab.1 he).1
  rw[Ag hi,Bd] at he
  exact he
 have hg:∀(i:Nat) (e:List T) (j:Nat) (x:T),((es.drop lo).take m)[i]? = some e->e[j]? = some x->cur[lo*k+i*k+j]? = some ((cur[lo*k+i*k+j]?).getD undef)/\Gq C0.h (C0.S f) x ((cur[lo*k+i*k+j]?).getD undef):=fun i e j x he hx=>by
  obtain⟨u,q1,q2⟩:=g5 (lo+i) e j x (hget i e he) hx
  have e1:cur[lo*k+i*k+j]? = some u:=by rw[<- q1,Be]
  rw[e1]
  refine⟨rfl,?_⟩
  rw[hh]
  exact q2.keep (fun _ _=>rfl) (hS fr)
 have hs:=Gq.sl (h:=C0.h) (S:=C0.S f) k ((es.drop lo).take m) b' (lo*k) c cur ty (0,0) (fun i j=>(cur[lo*k+i*k+j]?).getD undef) (by rw[hh];exact g1) (hL b' hb') (by rw[hlen];exact hc) (fun i e he=>hel _ e (hget i e he)) (fun i e j x he hx=>(hg i e j x he hx).1) fun i e j x he hx=>(hg i e j x he hx).2
 rw[hlen] at hs
 exact hs
variable {u:Value}
theorem Ec.passR (r:Eu E β st a w) {C0:VC} {ρ:Nat->Option Nat} (hh:C0.h=w.heap) (hS:∀fr b,(E.C β st w).S fr b->C0.S fr b) (bor:Bool) (hL:bor=true->∀id b,ρ id=none->st.o id≠.gone->β id=some b->C0.S false b) (ho:∀id j,ρ id=some j->Sim (st.o id) (C0.ob j)/\C0.β j=β id) {c:AV} (h:Ec (E.C β st w) c u) (hc:c.passC st.o) (hb:bor=false->c.borR ρ=false):Ec C0 (c.passR st.o ρ) u:=by
 have hT:∀fr t u,Gq w.heap ((E.C β st w).S fr) t u->Gq C0.h (C0.S fr) t u:=fun fr t u h=>by
  rw[hh]
  exact h.keep (fun _ _=>rfl) (hS fr)
 have hSf:∀fr b,(E.C β st w).S fr b->C0.S false b:=fun fr b h=>VC.S_weak (hS fr b h)
 induction h with
 | any u=>exact .any u
 | lit v=>exact .lit v
 | nil k A=>exact .nil k A
 | imm fr k es u h=>exact .imm fr k es u (hT fr _ _ h)
 | own id n u h =>
  simp only[AV.passR]
  cases hr:ρ id with
  | none =>
   have hbt:bor=true:=by
    cases bor
    ·have:=hb rfl;simp[AV.borR,hr] at this
    rfl
   simp only
   obtain⟨h1,h3⟩:=hc
   obtain⟨ty,fz,hrow⟩:=K3 h1
   refine .imm _ _ _ _ ?_
   rcases r.own_val hrow h h3 with⟨_,he,A,rfl⟩ | ⟨b,cur,c,hb',g1,g2,g3,g4,rfl,g5⟩
   ·rw[he];exact .nil _ _ _
   have:=Asw r hh hSf (fun b h=>hL hbt id b hr (by rw[hrow];simp) h) hrow (A:=some ⟨b,0,none⟩) (c:=c) (lo:=0) (m:=(Lu (st.o id)).length) (by omega) g3 (.inr ⟨b,hb',by simp⟩)
   rwa[List.drop_zero,List.take_length] at this
  | some j =>
   obtain⟨h0,ty,k,fr,fz,es,h1,h2,h3⟩:=h
   obtain⟨e1,e2⟩:=ho id j hr
   have h1:st.o id=_:=h1
   rw[h1] at e1
   obtain⟨fr',fz',e1⟩:=e1
   exact .own _ _ _ ⟨h0,ty,k,fr',fz',es,e1,h2,fun e=>by
    have:=h3 e
    rw[e2,hh];exact this⟩
 | sub id n lo m u h =>
  simp only[AV.passR]
  cases hr:ρ id with
  | none =>
   have hbt:bor=true:=by
    cases bor
    ·have:=hb rfl;simp[AV.borR,hr] at this
    rfl
   simp only
   obtain⟨h1,h3⟩:=hc
   obtain⟨ty,fz,hrow⟩:=K3 h1
   obtain⟨_,ty',k',fr',fz',es',ho',_,h5⟩:=h
   have ho':st.o id=_:=ho'
   rw[hrow] at ho'
   injection ho' with e1 e2 e3 e4 e5
   subst e1 e2 e3 e4 e5
   obtain⟨h6,A,c,rfl,h7,_,h8⟩:=h5 h3
   exact .imm _ _ _ _ (Asw r hh hSf (fun b h=>hL hbt id b hr (by rw[hrow];simp) h) hrow h6 h7 (h8.elim (fun e=>.inl (by omega)) .inr))
  | some j =>
   obtain⟨h0,ty,k,fr,fz,es,h1,h2,h3⟩:=h
   obtain⟨e1,e2⟩:=ho id j hr
   have h1:st.o id=_:=h1
   rw[h1] at e1
   obtain⟨fr',fz',e1⟩:=e1
   exact .sub _ _ _ _ _ ⟨h0,ty,k,fr',fz',es,e1,h2,fun e=>by
    have:=h3 e
    rw[e2];exact this⟩
 | bsl id n u h =>
  simp only[AV.passR]
  cases hr:ρ id with
  | none=>exact .any u
  | some j =>
   obtain⟨ty,cs,b,c,h1,h2,h3⟩:=h
   obtain⟨e1,e2⟩:=ho id j hr
   have h1:st.o id=_:=h1
   rw[h1] at e1
   obtain⟨cs',e1⟩:=e1
   exact .bsl _ _ _ ⟨ty,cs',b,c,e1,by rw[e2];exact h2,h3⟩
 | ptr id off u h =>
  simp only[AV.passR]
  cases hr:ρ id with
  | none=>exact .any u
  | some j =>
   obtain⟨ty,cs,b,h1,h2,h3⟩:=h
   obtain⟨e1,e2⟩:=ho id j hr
   have h1:st.o id=_:=h1
   rw[h1] at e1
   obtain⟨cs',e1⟩:=e1
   exact .ptr _ _ _ ⟨ty,cs',b,e1,by rw[e2];exact h2,h3⟩
 | rptr id n i off u h =>
  simp only[AV.passR]
  cases hr:ρ id with
  | none=>exact .any u
  | some j =>
   obtain⟨h0,ty,k,fr,fz,es,h1,h2,h3⟩:=h
   obtain⟨e1,e2⟩:=ho id j hr
   have h1:st.o id=_:=h1
   rw[h1] at e1
   obtain⟨fr',fz',e1⟩:=e1
   exact .rptr _ _ _ _ _ ⟨h0,ty,k,fr',fz',es,e1,h2,fun e=>by
    have:=h3 e
    rw[e2];exact this⟩
 | iptr fr cs off b o cur ty fz us h1 h2 h3 =>
  exact .iptr fr cs off b o cur ty fz us (by rw[hh];exact h1) (hS fr b h2) fun j x hx=>⟨(h3 j x hx).1,hT fr _ _ (h3 j x hx).2⟩
 | agg cs us h1 h2 ih =>
  refine .agg _ _ (by rw[K0];exact h1) fun i c u hc' hu=>?_
  rw[Pn] at hc'
  cases hx:cs[i]? with
  | none=>rw[hx] at hc';cases hc'
  | some x =>
   rw[hx] at hc'
   simp only[Ai,Option.some.injEq] at hc'
   subst hc'
   exact ih i x u hx hu (Js hc hx) fun e=>Rk (by have:=hb e;simpa[AV.borR] using this) hx
 | tup cs us h1 h2 ih =>
  refine .tup _ _ (by rw[K0];exact h1) fun i c u hc' hu=>?_
  rw[Pn] at hc'
  cases hx:cs[i]? with
  | none=>rw[hx] at hc';cases hc'
  | some x =>
   rw[hx] at hc'
   simp only[Ai,Option.some.injEq] at hc'
   subst hc'
   exact ih i x u hx hu (Js hc hx) fun e=>Rk (by have:=hb e;simpa[AV.borR] using this) hx
 | fn f cs us h1 h2 ih =>
  refine .fn f _ _ (by rw[K0];exact h1) fun i c u hc' hu=>?_
  rw[Pn] at hc'
  cases hx:cs[i]? with
  | none=>rw[hx] at hc';cases hc'
  | some x =>
   rw[hx] at hc'
   simp only[Ai,Option.some.injEq] at hc'
   subst hc'
   exact ih i x u hx hu (Js hc hx) fun e=>Rk (by have:=hb e;simpa[AV.borR] using this) hx
 | gd t v u h1 h2 ih=>exact .any u
mutual
def AV.bk (B:Nat->Nat):AV->AV
 | .own id n=>.own (B id) n
 | .sub id n lo m=>.sub (B id) n lo m
 | .ptr id off=>.ptr (B id) off
 | .rptr id n i off=>.rptr (B id) n i off
 | .bsl id n=>.bsl (B id) n
 | .agg cs=>.agg (bkL B cs)
 | .tup cs=>.tup (bkL B cs)
 | .fn f cs=>.fn f (bkL B cs)
 | .gd t v=>.gd t (v.bk B)
 | .any=>.any
 | .lit v=>.lit v
 | .nil k=>.nil k
 | .imm fr k es=>.imm fr k es
 | .iptr fr cs off=>.iptr fr cs off
def bkL (B:Nat->Nat):List AV->List AV
 | []=>[]
 | c::cs=>c.bk B::bkL B cs
end
theorem Abv (B:Nat->Nat):∀(cs:List AV) (i:Nat),(bkL B cs)[i]? = (cs[i]?).map (AV.bk B)
 | [],i=>by simp[bkL]
 | c::cs,0=>by simp[bkL]
 | c::cs,i+1=>by simp[bkL,Abv B cs i]
theorem Se (B:Nat->Nat):∀(cs:List AV),(bkL B cs).length=cs.length
 | []=>rfl
 | c::cs=>by simp[bkL,Se B cs]
def Ob.bk (B:Nat->Nat):Ob->Ob
 | .box ty cs=>.box ty (bkL B cs)
 | o=>o
variable {C1 C2:VC} {B:Nat->Nat}
theorem Ec.bk (hh:C2.h=C1.h) (ho:∀j,C1.ob j≠.gone->C2.ob (B j)=(C1.ob j).bk B/\C2.β (B j)=C1.β j) (bor:Bool) (hS:∀fr b,(bor=true->fr=true)->C1.S fr b->C2.S fr b) {c:AV} (h:Ec C1 c u) (hc:bor=true->c.cln=true):Ec C2 (c.bk B) u:=by
 have hT:∀fr,(bor=true->fr=true)->∀t u,Gq C1.h (C1.S fr) t u->Gq C2.h (C2.S fr) t u:=fun fr hf t u h=>by
  rw[hh]
  exact h.keep (fun _ _=>rfl) fun b=>hS fr b hf
 induction h with
 | any u=>exact .any u
 | lit v=>exact .lit v
 | nil k A=>exact .nil k A
 | imm fr k es u h=>exact .imm fr k es u (hT fr hc _ _ h)
 | own id n u h =>
  obtain⟨h0,ty,k,fr,fz,es,h1,h2,h3⟩:=h
  obtain⟨e1,e2⟩:=ho id (by rw[h1];simp)
  exact .own _ _ _ ⟨h0,ty,k,fr,fz,es,by rw[e1,h1];rfl,h2,fun e=>by
   have:=h3 e
   rw[e2,hh];exact this⟩
 | sub id n lo m u h =>
  obtain⟨h0,ty,k,fr,fz,es,h1,h2,h3⟩:=h
  obtain⟨e1,e2⟩:=ho id (by rw[h1];simp)
  exact .sub _ _ _ _ _ ⟨h0,ty,k,fr,fz,es,by rw[e1,h1];rfl,h2,fun e=>by
   have:=h3 e
   rw[e2];exact this⟩
 | ptr id off u h =>
  obtain⟨ty,cs,b,h1,h2,h3⟩:=h
  obtain⟨e1,e2⟩:=ho id (by rw[h1];simp)
  exact .ptr _ _ _ ⟨ty,_,b,by rw[e1,h1];rfl,by rw[e2];exact h2,h3⟩
 | bsl id n u h =>
  obtain⟨ty,cs,b,c,h1,h2,h3⟩:=h
  obtain⟨e1,e2⟩:=ho id (by rw[h1];simp)
  exact .bsl _ _ _ ⟨ty,_,b,c,by rw[e1,h1];rfl,by rw[e2];exact h2,h3⟩
 | rptr id n i off u h =>
  obtain⟨h0,ty,k,fr,fz,es,h1,h2,h3⟩:=h
  obtain⟨e1,e2⟩:=ho id (by rw[h1];simp)
  exact .rptr _ _ _ _ _ ⟨h0,ty,k,fr,fz,es,by rw[e1,h1];rfl,h2,fun e=>by
   have:=h3 e
   rw[e2];exact this⟩
 | iptr fr cs off b o cur ty fz us h1 h2 h3 =>
  exact .iptr fr cs off b o cur ty fz us (by rw[hh];exact h1) (hS fr b hc h2) fun j x hx=>⟨(h3 j x hx).1,hT fr hc _ _ (h3 j x hx).2⟩
 | agg cs us h1 h2 ih =>
  refine .agg _ _ (by rw[Se];exact h1) fun i c u hc' hu=>?_
  rw[Abv] at hc'
  cases hx:cs[i]? with
  | none=>rw[hx] at hc';cases hc'
  | some x =>
   rw[hx] at hc'
   simp only[Ai,Option.some.injEq] at hc'
   subst hc'
   exact ih i x u hx hu fun e=>Oj (by have:=hc e;simpa[AV.cln] using this) hx
 | tup cs us h1 h2 ih =>
  refine .tup _ _ (by rw[Se];exact h1) fun i c u hc' hu=>?_
  rw[Abv] at hc'
  cases hx:cs[i]? with
  | none=>rw[hx] at hc';cases hc'
  | some x =>
   rw[hx] at hc'
   simp only[Ai,Option.some.injEq] at hc'
   subst hc'
   exact ih i x u hx hu fun e=>Oj (by have:=hc e;simpa[AV.cln] using this) hx
 | fn f cs us h1 h2 ih =>
  refine .fn f _ _ (by rw[Se];exact h1) fun i c u hc' hu=>?_
  rw[Abv] at hc'
  cases hx:cs[i]? with
  | none=>rw[hx] at hc';cases hc'
  | some x =>
   rw[hx] at hc'
   simp only[Ai,Option.some.injEq] at hc'
   subst hc'
   exact ih i x u hx hu fun e=>Oj (by have:=hc e;simpa[AV.cln] using this) hx
 | gd t v u h1 h2 ih=>exact .gd t _ u (fun e=>ih e fun e'=>by have:=hc e';simpa[AV.cln] using this) h2
theorem Kx.bk (hh:C2.h=C1.h) (ho:∀j,C1.ob j≠.gone->C2.ob (B j)=(C1.ob j).bk B/\C2.β (B j)=C1.β j) (bor:Bool) (hS:∀fr b,(bor=true->fr=true)->C1.S fr b->C2.S fr b) {j:Nat} {o:Ob} (hj:C1.ob j=o) (h:Kx C1 j o) (hc:bor=true->o.cln=true):Kx C2 (B j) (o.bk B):=by
 cases o with
 | gone=>trivial
 | box ty cs =>
  obtain⟨e1,e2⟩:=ho j (by rw[hj];simp)
  obtain⟨b,cur,h1,h2,h3,h4⟩:=h
  refine⟨b,cur,by rw[e2];exact h1,by rw[hh];exact h2,by rw[Se];exact h3,fun i c u hc' hu=>?_⟩
  rw[Abv] at hc'
  cases hx:cs[i]? with
  | none=>rw[hx] at hc';cases hc'
  | some x =>
   rw[hx] at hc'
   simp only[Ai,Option.some.injEq] at hc'
   subst hc'
   exact⟨Ec.bk hh ho bor hS (h4 i x u hx hu).1 fun e=>Oj (hc e) hx,(h4 i x u hx hu).2⟩
 | row ty k fr fz es =>
  obtain⟨e1,e2⟩:=ho j (by rw[hj];simp)
  obtain⟨h1,h2⟩:=h
  refine⟨h1,?_⟩
  rw[e2]
  cases hb:C1.β j with
  | none=>rw[hb] at h2;exact h2
  | some b =>
   rw[hb] at h2
   obtain⟨cur,c,g1,g2,g3,g4,g5⟩:=h2
   refine⟨cur,c,by rw[hh];exact g1,g2,g3,g4,fun i e j x he hx=>?_⟩
   obtain⟨u,q1,q2⟩:=g5 i e j x he hx
   refine⟨u,q1,?_⟩
   rw[hh]
   exact q2.keep (fun _ _=>rfl) fun b=>hS fr b hc
def bkN (sel:List Nat) (nid j:Nat):Nat:=if j<sel.length then sel.getD j 0 else nid+(j - sel.length)
def Amc (B:Nat->Nat):List Nat->List Ob->List (Nat×Ob)
 | id::sel,o::os=>(id,o.bk B)::Amc B sel os
 | _,_=>[]
def Ai2 (B:Nat->Nat) (nid:Nat):List Ob->List (Nat×Ob)
 | []=>[]
 | o::os=>(nid,o.bk B)::Ai2 B (nid+1) os
theorem Ajq (B:Nat->Nat):∀(os:List Ob) (nid:Nat) (st:St) (i:Nat),(st.sets (Ai2 B nid os)).o i=if nid<=i/\i<nid+os.length then (os.getD (i - nid) .gone).bk B else st.o i
 | [],nid,st,i=>by simp[Ai2,St.sets];omega
 | o::os,nid,st,i=>by
  rw[Ai2,St.sets,Ajq B os (nid+1),St.set_o]
  simp only[A6]
  by_cases h1:nid+1<=i/\i<nid+1+os.length
  ·rw[if_pos h1,if_pos (by omega),show i - nid=(i - (nid+1))+1 by omega,List.getD_cons_succ]
  rw[if_neg h1]
  by_cases h2:i=nid
  ·subst h2
   rw[if_pos rfl,if_pos (by omega)];simp
  rw[if_neg h2,if_neg (by omega)]
theorem Atr (B:Nat->Nat):∀(sel:List Nat) (os:List Ob) (st:St) (i:Nat),sel.Nodup->sel.length<=os.length->(st.sets (Amc B sel os)).o i=match Nq i sel 0 with | some j=>(os.getD j .gone).bk B | none=>st.o i:=by
 have key:∀(sel:List Nat) (os:List Ob) (st:St) (i n:Nat),sel.Nodup->sel.length<=os.length->(st.sets (Amc B sel os)).o i=match Nq i sel n with | some j=>(os.getD (j - n) .gone).bk B | none=>st.o i:=by
  intro sel
  induction sel with
  | nil=>intro os st i n _ _;cases os<;>rfl
  | cons x xs ih =>
   intro os st i n hnd hl
   cases os with
   | nil=>simp at hl
   | cons o os =>
    obtain⟨h1,h2⟩:=List.nodup_cons.1 hnd
    have hi:=ih os (st.set x (o.bk B)) i (n+1) h2 (by simpa using hl)
    rw[Amc,St.sets,hi,show Nq i (x::xs) n=if x=i then some n else Nq i xs (n+1) from rfl]
    by_cases e:x=i
    ·subst e
     rw[if_pos rfl]
     have:Nq x xs (n+1)=none:=by
      cases hq:Nq x xs (n+1) with
      | none=>rfl
      | some j=>exact absurd (Ac (Abr hq).2) h1
     rw[this]
     simp[St.set_o]
    rw[if_neg e]
    cases hq:Nq i xs (n+1) with
    | none=>simp only[St.set_o];rw[if_neg (Ne.symm e)]
    | some j =>
     have:=(Abr hq).1
     simp only
     rw[show j - n=(j - (n+1))+1 by omega,List.getD_cons_succ]
 intro sel os st i hnd hl
 exact key sel os st i 0 hnd hl
theorem Axp {id:Nat}:∀{sel:List Nat} {j:Nat} (n:Nat),sel.Nodup->sel[j]? = some id->Nq id sel n=some (n+j)
 | x::xs,0,n,_,h=>by simp at h;subst h;simp[Nq]
 | x::xs,j+1,n,hnd,h=>by
  obtain⟨h1,h2⟩:=List.nodup_cons.1 hnd
  simp only[Bb] at h
  unfold Nq
  rw[if_neg fun e=>h1 (by rw[e];exact Ac h),Axp (n+1) h2 h]
  congr 1;omega
theorem Ao9 (B:Nat->Nat):∀(sel:List Nat) (os:List Ob),sel.length<=os.length->∀id∈sel,∃p∈Amc B sel os,p.1=id
 | [],_,_,id,h=>by cases h
 | x::xs,[],hl,id,h=>by simp at hl
 | x::xs,o::os,hl,id,h=>by
  cases h with
  | head=>exact⟨(x,o.bk B),by simp[Amc],rfl⟩
  | tail _ h =>
   obtain⟨p,h1,h2⟩:=Ao9 B xs os (by simpa using hl) id h
   exact⟨p,List.mem_cons_of_mem _ h1,h2⟩
theorem Aoy (B:Nat->Nat):∀(os:List Ob) (nid i:Nat),nid<=i->i<nid+os.length->∃p∈Ai2 B nid os,p.1=i
 | [],nid,i,h1,h2=>by simp at h2;omega
 | o::os,nid,i,h1,h2=>by
  by_cases e:i=nid
  ·exact⟨(nid,o.bk B),by simp[Ai2],e.symm⟩
  obtain⟨p,h3,h4⟩:=Aoy B os (nid+1) i (by omega) (by simp at h2;omega)
  exact⟨p,by simp[Ai2,h3],h4⟩
theorem Adv:∀(l l':List (Nat×Ob)) (st:St),st.sets (l++l')=(st.sets l).sets l'
 | [],l',st=>rfl
 | p::l,l',st=>Adv l l' (st.set p.1 p.2)
mutual
def AV.ids:AV->List Nat
 | .own id _=>[id]
 | .sub id _ _ _=>[id]
 | .ptr id _=>[id]
 | .rptr id _ _ _=>[id]
 | .bsl id _=>[id]
 | .agg cs=>Ha cs
 | .tup cs=>Ha cs
 | .fn _ cs=>Ha cs
 | .gd _ v=>v.ids
 | .any=>[]
 | .lit _=>[]
 | .nil _=>[]
 | .imm _ _ _=>[]
 | .iptr _ _ _=>[]
def Ha:List AV->List Nat
 | []=>[]
 | c::cs=>c.ids++Ha cs
end
def obI:Ob->List Nat
 | .box _ cs=>Ha cs
 | _=>[]
def X8 (o:Nat->Ob):List Nat->List Nat
 | []=>[]
 | id::l=>obI (o id)++X8 o l
def rdC (o:Nat->Ob) (l:List Nat):List Nat:=l++X8 o l
structure Zv (P:Program) (f:FuncId) (av:List AV) (o:Nat->Ob) (nid:Nat) (sel:List Nat) (σr:List Ob) (res:AV):Prop where
  nd:sel.Nodup
  live:∀id∈sel,(o id).live
  pure:E7 P f (sel.map fun id=>(o id).passR o fun id=>Nq id sel 0) (G9 o (fun id=>Nq id sel 0) av) σr res
  args:J4 o av
  obs:∀id∈sel,(o id).passC o
  len:sel.length<=σr.length
  loc:∀id∈sel,id∈rdC o (Ha av)/\∀x∈obI (o id),x∈rdC o (Ha av)
  cln:(U7 (fun id=>Nq id sel 0) av||sel.any fun id=>(o id).borR fun id=>Nq id sel 0)=true->res.cln=true/\σr.all Ob.cln=true
def Pp (sel:List Nat) (nid:Nat) (σr:List Ob) (res:AV):AV×List (Nat×Ob) :=
 (res.bk (bkN sel nid),Amc (bkN sel nid) sel σr++Ai2 (bkN sel nid) nid (σr.drop sel.length))
theorem Ax8 (r:Eu E β st a w) {o:Oper} {fo:Operand} {args:Array Operand} {ts:Array TypeId} (hop:o.op=.call { callee:=.value fo,args:=args,argTypes:=ts }) {nid:Nat} (hd:∀x,o.dst=some x->x<E.n) (hb:∀x∈o.op.operands,(st.raw x).sb=true) {f:FuncId} {caps:List AV} {sel:List Nat} {σr:List Ob} {res:AV} (hf:(st.raw fo).sv=.fn f caps) (hx:Zv P f (args.toList.map (fun x=>(st.raw x).sv)++caps) st.o nid sel σr res) (hn:∀p∈(Pp sel nid σr res).2,nid<=p.1->st.o p.1=.gone) {Q:Exit->Act->World->Prop} :
  o.wp P a w (fun a' w'=>∃β',Eu E β' (st.after o.dst (Pp sel nid σr res).1 (Pp sel nid σr res).2) a' w') Q:=by
 obtain⟨hnd,hlive,⟨hcal,hpure⟩,hpc,hpo,hlen,_,hcl⟩:=hx
 have hev:∀x∈o.op.operands,Ec (E.C β st w) (st.raw x).sv (a.eval x):=fun x hx=>(M9 r x).sv.1 (hb x hx)
 rw[hop] at hev
 have hfo:=hev fo (by simp[Op.operands,Call.operands])
 rw[hf] at hfo
 generalize hufo:a.eval fo=ufo at hfo
 cases hfo with
 | fn f cs ucs hl hcr =>
 generalize hav:args.toList.map (fun x=>(st.raw x).sv)++caps=av at hpure hpc hcl
 generalize hρ:(fun id=>Nq id sel 0)=ρ at hpure hcl
 have hρe:∀id,ρ id=Nq id sel 0:=fun id=>by rw[<- hρ]
 have hρo:∀{id j},ρ id=some j->sel[j]? = some id:=fun {id j} h=>by
  rw[hρe] at h
  have:=(Abr h).2
  rwa[Nat.sub_zero] at this
 have hρi:∀{id j},sel[j]? = some id->ρ id=some j:=fun {id j} h=>by
  rw[hρe,Axp 0 hnd h,Bm]
 generalize hbor:(U7 ρ av||sel.any fun id=>(st.o id).borR ρ)=bor at hcl
 have hus:∀(i:Nat) (c:AV) (u:Value),av[i]? = some c->(args.map a.eval++ucs)[i]? = some u->Ec (E.C β st w) c u:=by
  intro i c u hc hu
  rw[<- hav] at hc
  by_cases hi:i<args.size
  ·rw[Au (by simpa using hi),Ap] at hc
   rw[Bk (by simpa using hi),Array.getElem?_map] at hu
   have hx:args[i]? = some args[i]:=Al hi
   have hx':args.toList[i]? = some args[i]:=by simp
   rw[hx'] at hc
   rw[hx] at hu
   simp only[Ai,Option.some.injEq] at hc hu
   subst hc hu
   exact hev args[i] (by simp[Op.operands,Call.operands])
  rw[Ao (by simp;omega)] at hc
  rw[Array.getElem?_append_right (by simp;omega)] at hu
  simp only[A2,Array.length_toList] at hc
  simp only[Array.size_map] at hu
  exact hcr _ c u hc hu
 have hlenA:av.length=(args.map a.eval++ucs).size:=by rw[<- hav];simp[hl]
 let σa:List Ob:=sel.map fun id=>(st.o id).passR st.o ρ
 let β0:Nat->Option Nat:=fun j=>(sel[j]?).bind β
 let E':Gs:=⟨w,(St.mk [] σa).o,β0,fun b=>bor=true\/(E.C β st w).S false b,fun b=>(E.C β st w).S true b,av.length,[],fun _=>none⟩
 have ho0:∀j id,sel[j]? = some id->(St.mk [] σa).o j=(st.o id).passR st.o ρ:=fun j id h=>by
  show (sel.map _).getD j Ob.gone=_
  rw[Ad,Ap,h];rfl
 have hng0:∀j,(St.mk [] σa).o j≠.gone->∃id,sel[j]? = some id:=fun j h=>by
  cases hq:sel[j]? with
  | some id=>exact⟨id,rfl⟩
  | none =>
   refine absurd ?_ h
   show (sel.map _).getD j Ob.gone=_
   rw[Ad,Ap,hq];rfl
 have hβ0:∀j id,sel[j]? = some id->β0 j=β id:=fun j id h=>by show (sel[j]?).bind β=_;rw[h];rfl
 have hngs:∀id∈sel,st.o id≠.gone:=fun id h e=>by have:=hlive id h;rw[e] at this;exact this
 have hM:∀b,E'.M b->∃id∈sel,β id=some b:=fun b ⟨j,h1,h2⟩=>by
  obtain⟨id,hid⟩:=hng0 j h1
  exact⟨id,Ac hid,by rw[<- hβ0 j id hid];exact h2⟩
 have hMi:∀id∈sel,∀b,β id=some b->E'.M b:=fun id h b hb=>by
  obtain⟨j,hj⟩:=A3.1 h
  refine⟨j,?_,(hβ0 j id hj).trans hb⟩
  show (St.mk [] σa).o j≠.gone
  rw[ho0 j id hj]
  have:=hngs id h
  cases hq:st.o id with
  | gone=>exact absurd hq this
  | box ty cs=>simp[Ob.passR]
  | row ty k fr fz es=>simp[Ob.passR]
 have hMl:∀b,E'.M b->(E.C β st w).lives b:=fun b h=>by
  obtain⟨id,h1,h2⟩:=hM b h
  exact⟨id,h2,hlive id h1⟩
 have hl0:∀sl b,(E'.C β0 ⟨sl,σa⟩ w).lives b->(E.C β st w).lives b:=fun sl b ⟨j,h1,h2⟩=>by
  have h2:((St.mk [] σa).o j).live:=h2
  obtain⟨id,hid⟩:=hng0 j fun e=>by rw[e] at h2;exact h2
  exact⟨id,(hβ0 j id hid).symm.trans h1,hlive id (Ac hid)⟩
 have hS:∀sl fr b,(E.C β st w).S fr b->(E'.C β0 ⟨sl,σa⟩ w).S fr b:=fun sl fr b h=>⟨h.1,fun hl=>h.2.1 (hl0 sl b hl),.inr (.inr ⟨.inr (VC.S_weak h),fun e=>by rw[e] at h;exact h⟩)⟩
 have hL:∀sl,bor=true->∀id b,ρ id=none->st.o id≠.gone->β id=some b->(E'.C β0 ⟨sl,σa⟩ w).S false b:=fun sl hb id b hr hg hβ=>by
  refine⟨(r.rng id b hg hβ).1,fun⟨j,h1,h2⟩=>?_,.inr (.inr ⟨.inl hb,fun e=>by cases e⟩)⟩
  have h2:((St.mk [] σa).o j).live:=h2
  obtain⟨id',hid⟩:=hng0 j fun e=>by rw[e] at h2;exact h2
  have h1:β id'=some b:=(hβ0 j id' hid).symm.trans h1
  have:=r.inj id id' b hg (hngs id' (Ac hid)) hβ h1
  subst this
  rw[hρi hid] at hr
  cases hr
 have hsim:∀sl id j,ρ id=some j->Sim (st.o id) ((E'.C β0 ⟨sl,σa⟩ w).ob j)/\(E'.C β0 ⟨sl,σa⟩ w).β j=β id:=fun sl id j h=>by
  have h:=hρo h
  refine⟨?_,hβ0 j id h⟩
  show Sim _ ((St.mk [] σa).o j)
  rw[ho0 j id h]
  cases st.o id with
  | gone=>trivial
  | box ty cs=>exact⟨_,rfl⟩
  | row ty k fr fz es=>exact⟨_,_,rfl⟩
 have hborA:bor=false->U7 ρ av=false:=fun e=>by rw[e] at hbor;simp only[Bool.or_eq_false_iff] at hbor;exact hbor.1
 have hborO:bor=false->∀id∈sel,(st.o id).borR ρ=false:=fun e id h=>by
  rw[e] at hbor
  simp only[Bool.or_eq_false_iff,List.any_eq_false] at hbor
  simpa using hbor.2 id h
 have r0:Eu E' β0 ⟨Ic 0 (G9 st.o ρ av),σa⟩ ⟨args.map a.eval++ucs,[]⟩ w:=by
  refine⟨hlenA.symm,fun t=>?_,rfl,fun j=>?_,fun i j b hi hj h1 h2=>?_,fun i b hi h1=>?_,Kp.refl _ _,⟨fun id ty cs h=>⟨⟨cs,h⟩,rfl⟩,fun id ty k fr fz es h=>⟨fr,fz,es,h,Aj _,fun _=>⟨rfl,fun b cur hb hc=>⟨cur,hc,rfl⟩⟩⟩⟩,(fun b o h=>by cases h),List.nodup_nil,fun D h=>by cases h⟩
  ·show Ec _ (E9 (Ic 0 (G9 st.o ρ av)) t) _
   rw[Lx,if_pos (Ae _),Nat.sub_zero,Ad,Pn]
   cases hx:av[t]? with
   | none=>exact .any _
   | some x =>
    have ht:t<(args.map a.eval++ucs).size:=by rw[<- hlenA];exact (Ab.1 hx).1
    rw[Av,Al ht]
    exact Ec.passR r (C0:=E'.C β0 ⟨Ic 0 (G9 st.o ρ av),σa⟩ w) rfl (hS _) bor (hL _) (hsim _) (hus t x _ hx (Al ht)) (Js hpc hx) fun e=>Rk (hborA e) hx
  ·show Kx _ j ((St.mk [] σa).o j)
   cases hq:sel[j]? with
   | none =>
    have:(St.mk [] σa).o j=.gone:=by
     show (sel.map _).getD j Ob.gone=_
     rw[Ad,Ap,hq];rfl
    rw[this];trivial
   | some id =>
    rw[ho0 j id hq]
    have hr:=r.ob id
    have hmem:=Ac hq
    cases ho:st.o id with
    | gone=>trivial
    | box ty cs =>
     rw[ho] at hr
     obtain⟨b,cur,q1,q2,q3,q4⟩:=hr
     refine⟨b,cur,(hβ0 j id hq).trans q1,q2,by rw[K0];exact q3,fun i c u hc hu=>?_⟩
     rw[Pn] at hc
     cases hx:cs[i]? with
     | none=>rw[hx] at hc;cases hc
     | some x =>
      rw[hx] at hc
      simp only[Ai,Option.some.injEq] at hc
      subst hc
      have h1:=hpo id hmem
      rw[ho] at h1
      exact⟨Ec.passR r (C0:=E'.C β0 ⟨Ic 0 (G9 st.o ρ av),σa⟩ w) rfl (hS _) bor (hL _) (hsim _) (q4 i x u hx hu).1 (Js h1 hx) fun e=>by
       have h2:=hborO e id hmem
       rw[ho] at h2
       exact Rk h2 hx,(q4 i x u hx hu).2⟩
    | row ty k fr fz es =>
     rw[ho] at hr
     obtain⟨q1,q2⟩:=hr
     refine⟨q1,?_⟩
     have hb:(E'.C β0 ⟨Ic 0 (G9 st.o ρ av),σa⟩ w).β j=(E.C β st w).β id:=hβ0 j id hq
     rw[hb]
     cases hbb:(E.C β st w).β id with
     | none=>rw[hbb] at q2;exact q2
     | some b =>
      rw[hbb] at q2
      obtain⟨cur,c,g1,g2,g3,g4,g5⟩:=q2
      refine⟨cur,c,g1,g2,g3,g4,fun i e j x he hx=>?_⟩
      obtain⟨u,p1,p2⟩:=g5 i e j x he hx
      exact⟨u,p1,p2.keep (fun _ _=>rfl) (hS _ fr)⟩
  ·have hi:(St.mk [] σa).o i≠.gone:=hi
   have hj:(St.mk [] σa).o j≠.gone:=hj
   obtain⟨x,hx⟩:=hng0 i hi
   obtain⟨y,hy⟩:=hng0 j hj
   rw[hβ0 i x hx] at h1
   rw[hβ0 j y hy] at h2
   have:=r.inj x y b (hngs x (Ac hx)) (hngs y (Ac hy)) h1 h2
   subst this
   have e1:=hρi hx
   rw[hρi hy] at e1
   injection e1 with e1
   exact e1.symm
  have hi:(St.mk [] σa).o i≠.gone:=hi
  obtain⟨x,hx⟩:=hng0 i hi
  have h1':β x=some b:=(hβ0 i x hx).symm.trans h1
  exact⟨(r.rng x b (hngs x (Ac hx)) h1').1,.inr ⟨i,hi,h1⟩⟩
 have hcall:=hpure E' β0 _ (by show av.length=(G9 st.o ρ av).length;rw[K0]) rfl rfl r0
 unfold Oper.wp
 have hrun:(execOp a.eval o).run P w=.ok (.enter f (args.map a.eval++ucs)) w:=by
  obtain⟨dst,op,ty,pos,af,gd⟩:=o
  simp only at hop
  subst hop
  simp only[execOp,resolve,hufo,Deferred.ofValue,Sem.run_bind,Sem.run_pure,Result.andThen_ok,invoke,Array.empty_append]
  exact Yd hcal
 rw[hrun]
 refine hcall.mono ?_
 rintro e w' ⟨v,β1,rfl,r1⟩
 show ∃β',Eu E β' _ _ _
 have hσ:∀i,(St.mk [(0,res)] σr).o i=σr.getD i .gone:=fun i=>rfl
 have hjl:∀j,σr.getD j .gone≠.gone->j<σr.length:=fun j h=>by
  apply Classical.byContradiction
  intro h'
  exact h (by rw[Ad,Ar (by omega)];rfl)
 have hlt1:∀i b,σr.getD i .gone≠.gone->β1 i=some b->b<w'.heap.size/\(w.heap.size<=b\/E'.M b):=fun i b hi hb=>r1.rng i b hi hb
 have hwsz:w.heap.size<=w'.heap.size:=r1.kp.size
 have hkeep:∀b,b<w.heap.size->¬E'.M b->w'.heap[b]? = w.heap[b]?:=fun b hb hm=>r1.kp.block b hb hm
 have hselnid:∀id∈sel,id<nid:=fun id h=>by
  apply Classical.byContradiction
  intro hge
  obtain⟨p,h1,h2⟩:=Ao9 (bkN sel nid) sel σr hlen id h
  exact hngs id h (by have:=hn p (by simp only[Pp,A0];exact .inl h1) (by omega);rwa[h2] at this)
 have hfresh:∀i,nid<=i->i<nid+(σr.length - sel.length)->st.o i=.gone:=fun i h1 h2=>by
  obtain⟨p,q1,q2⟩:=Aoy (bkN sel nid) (σr.drop sel.length) nid i h1 (by simpa using h2)
  have:=hn p (by simp only[Pp,A0];exact .inr q1) (by omega)
  rwa[q2] at this
 let nw:Nat->Prop:=fun i=>nid<=i/\i<nid+(σr.length - sel.length)
 let β':Nat->Option Nat:=fun i=>match ρ i with
  | some j=>β1 j
  | none=>if nid<=i/\i<nid+(σr.length - sel.length) then β1 (i - nid+sel.length) else β i
 let st':St:=st.sets (Pp sel nid σr res).2
 have ho':∀i,st'.o i=if nid<=i/\i<nid+(σr.length - sel.length) then (σr.getD (i - nid+sel.length) .gone).bk (bkN sel nid) else match ρ i with | some j=>(σr.getD j .gone).bk (bkN sel nid) | none=>st.o i:=fun i=>by
  show (st.sets (Amc _ sel σr++Ai2 _ nid (σr.drop sel.length))).o i=_
  rw[Adv,Ajq,Bc]
  by_cases h:nid<=i/\i<nid+(σr.length - sel.length)
  ·rw[if_pos h,if_pos h]
   congr 1
   rw[Ad,Bd,<- Ad,Ba]
  rw[if_neg h,if_neg h,Atr _ _ _ _ _ hnd hlen,hρe]
 have hρnw:∀i j,ρ i=some j->i<nid:=fun i j h=>hselnid i (Ac (hρo h))
 have hnew:∀j,(St.mk [(0,res)] σr).o j≠.gone->st'.o (bkN sel nid j)=((St.mk [(0,res)] σr).o j).bk (bkN sel nid)/\β' (bkN sel nid j)=β1 j:=fun j hj=>by
  have hjl:=hjl j hj
  by_cases hk:j<sel.length
  ·have hs:sel[j]? = some (sel.getD j 0):=by rw[Ad,Aa hk];rfl
   have hB:bkN sel nid j=sel.getD j 0:=by simp only[bkN,if_pos hk]
   have hr:=hρi hs
   have:=hρnw _ _ hr
   rw[hB]
   refine⟨?_,?_⟩
   ·rw[ho',if_neg (by omega),hr];rfl
   show (match ρ _ with | some j=>β1 j | none=>_)=_
   rw[hr]
  have hB:bkN sel nid j=nid+(j - sel.length):=by
   simp only[bkN,if_neg hk]
  have hr:ρ (nid+(j - sel.length))=none:=by
   cases hq:ρ (nid+(j - sel.length)) with
   | none=>rfl
   | some j'=>have:=hρnw _ _ hq;omega
  rw[hB]
  refine⟨?_,?_⟩
  ·rw[ho',if_pos (by omega),hσ]
   congr 2;omega
  show (match ρ _ with | some j=>β1 j | none=>_)=_
  rw[hr]
  simp only
  rw[if_pos (by omega)]
  congr 1;omega
 have hcase:∀i,(∃j,j<σr.length/\i=bkN sel nid j/\st'.o i=(σr.getD j .gone).bk (bkN sel nid)/\β' i=β1 j)\/(st'.o i=st.o i/\β' i=β i/\ρ i=none):=fun i=>by
  cases hr:ρ i with
  | some j =>
   have hs:=hρo hr
   have hk:=(Ab.1 hs).1
   refine .inl ⟨j,by omega,?_,?_,?_⟩
   ·simp only[bkN,if_pos hk,Ad,hs,Bh]
   ·have:=hρnw _ _ hr
    rw[ho',if_neg (by omega),hr]
   show (match ρ _ with | some j=>β1 j | none=>_)=_
   rw[hr]
  | none =>
   by_cases h:nid<=i/\i<nid+(σr.length - sel.length)
   ·refine .inl ⟨i - nid+sel.length,by omega,?_,?_,?_⟩
    ·simp only[bkN]
     rw[if_neg (by omega)]
     omega
    ·rw[ho',if_pos h]
    show (match ρ _ with | some j=>β1 j | none=>_)=_
    rw[hr]
    simp only
    rw[if_pos h]
   refine .inr ⟨?_,?_,rfl⟩
   ·rw[ho',if_neg h,hr]
   show (match ρ _ with | some j=>β1 j | none=>_)=_
   rw[hr]
   simp only
   rw[if_neg h]
 have hold:∀i,st.o i≠.gone->(∃j id,sel[j]? = some id/\i=id/\ρ i=some j/\st'.o i=(σr.getD j .gone).bk (bkN sel nid)/\β' i=β1 j)\/(st'.o i=st.o i/\β' i=β i/\ρ i=none):=fun i hi=>by
  cases hr:ρ i with
  | some j =>
   have:=hρnw _ _ hr
   refine .inl ⟨j,i,hρo hr,rfl,rfl,?_,?_⟩
   ·rw[ho',if_neg (by omega),hr]
   show (match ρ _ with | some j=>β1 j | none=>_)=_
   rw[hr]
  | none =>
   have hnn:¬(nid<=i/\i<nid+(σr.length - sel.length)):=fun h=>hi (hfresh i h.1 h.2)
   refine .inr ⟨?_,?_,rfl⟩
   ·rw[ho',if_neg hnn,hr]
   show (match ρ _ with | some j=>β1 j | none=>_)=_
   rw[hr]
   simp only
   rw[if_neg hnn]
 have hnM:∀i b,st.o i≠.gone->ρ i=none->β i=some b->¬E'.M b:=fun i b hi hr hb hm=>by
  obtain⟨id,h1,h2⟩:=hM b hm
  have:=r.inj i id b hi (hngs id h1) hb h2
  subst this
  obtain⟨j,hj⟩:=A3.1 h1
  rw[hρi hj] at hr
  cases hr
 have s:Ot (E.C β st w) (E.C β' st' w'):=by
  refine⟨rfl,fun _ h=>h,fun _ h=>h,fun _ h=>h,hwsz,?_,fun b hb hnl=>hkeep b hb fun hm=>hnl (hMl b hm),?_,?_⟩
  ·rintro b hb ⟨i,h1,h2⟩
   have hb:b<w.heap.size:=hb
   have h1:β' i=some b:=h1
   have h2:(st'.o i).live:=h2
   rcases hcase i with⟨j,_,_,q1,q2⟩ | ⟨q1,q2,_⟩
   ·rw[q1] at h2
    rw[q2] at h1
    have hg:σr.getD j .gone≠.gone:=fun e=>by rw[e] at h2;exact h2
    rcases (hlt1 j b hg h1).2 with h3 | h3
    ·omega
    exact hMl b h3
   rw[q1] at h2
   rw[q2] at h1
   exact⟨i,h1,h2⟩
  ·intro i ty cs h
   have h:st.o i=_:=h
   rcases hold i (by rw[h];simp) with⟨j,id,hj,rfl,hr,q1,q2⟩ | ⟨q1,q2,_⟩
   ·have h0:E'.o0 j=.box ty (G9 st.o ρ cs):=by show (St.mk [] σa).o j=_;rw[ho0 j i hj,h];rfl
    obtain⟨⟨cs',h3⟩,h4⟩:=r1.ct.box j ty _ h0
    have h3:σr.getD j .gone=_:=h3
    have h4:β1 j=β0 j:=h4
    refine⟨⟨bkL (bkN sel nid) cs',?_⟩,?_⟩
    ·show st'.o i=_
     rw[q1,h3];rfl
    show β' i=β i
    rw[q2,h4,hβ0 j i hj]
   exact⟨⟨cs,by show st'.o i=_;rw[q1];exact h⟩,q2⟩
  intro i ty k fr fz es h
  have h:st.o i=_:=h
  rcases hold i (by rw[h];simp) with⟨j,id,hj,rfl,hr,q1,q2⟩ | ⟨q1,q2,hr⟩
  ·have h0:E'.o0 j=.row ty k fr fz es:=by show (St.mk [] σa).o j=_;rw[ho0 j i hj,h];rfl
   obtain⟨fr',fz',es',h3,h4,h5⟩:=r1.ct.row j ty k fr fz es h0
   have h3:σr.getD j .gone=_:=h3
   refine⟨fr',fz',es',?_,h4,fun e=>?_⟩
   ·show st'.o i=_
    rw[q1,h3];rfl
   obtain⟨h6,h7⟩:=h5 e
   have h6:β1 j=β0 j:=h6
   refine⟨?_,fun b cur hb hc=>h7 b cur ((hβ0 j i hj).trans hb) hc⟩
   show β' i=β i
   rw[q2,h6,hβ0 j i hj]
  refine⟨fr,fz,es,by show st'.o i=_;rw[q1];exact h,Aj _,fun _=>⟨q2,fun b cur hb hc=>⟨cur,?_,rfl⟩⟩⟩
  exact (hkeep b (r.rng i b (by rw[h];simp) hb).1 (hnM i b (by rw[h];simp) hr hb)).trans hc
 have hS':∀fr b,(bor=true->fr=true)->(E'.C β1 ⟨[(0,res)],σr⟩ w').S fr b->(E.C β' st' w').S fr b:=by
  intro fr b hf hs
  obtain⟨h1,h2,h3⟩:=hs
  have g3:w.heap.size<=b\/E'.M b\/(E'.im b/\(fr=true->E'.fr b)):=h3
  have him:E'.im b/\(fr=true->E'.fr b)->(E.C β st w).S fr b:=fun⟨g4,g5⟩=>by
   cases fr with
   | true=>exact g5 rfl
   | false =>
    rcases g4 with g4 | g4
    ·have:=hf g4;cases this
    exact g4
  refine⟨h1,?_,?_⟩
  ·rintro⟨i,q1,q2⟩
   have q1:β' i=some b:=q1
   have q2:(st'.o i).live:=q2
   rcases hcase i with⟨j,_,_,q3,q4⟩ | ⟨q3,q4,hr⟩
   ·refine h2 ⟨j,by rw[q4] at q1;exact q1,?_⟩
    show (σr.getD j .gone).live
    rw[q3] at q2
    cases hq:σr.getD j .gone with
    | gone=>rw[hq] at q2;exact q2
    | box ty cs=>trivial
    | row ty k fr fz es=>rw[hq] at q2;exact q2
   rw[q3] at q2
   rw[q4] at q1
   have hg:st.o i≠.gone:=fun e=>by rw[e] at q2;exact q2
   rcases g3 with g3 | g3 | g3
   ·have:=(r.rng i b hg q1).1
    omega
   ·exact hnM i b hg hr q1 g3
   exact (him g3).2.1 ⟨i,q1,q2⟩
  show E.w0.heap.size<=b\/E.M b\/_
  rcases g3 with g3 | g3 | g3
  ·have:=r.kp.size
   exact .inl (by omega)
  ·obtain⟨id,h4,h5⟩:=hM b g3
   rcases (r.rng id b (hngs id h4) h5).2 with h6 | h6
   ·exact .inl h6
   exact .inr (.inl h6)
  exact (him g3).2.2
 have r2:Eu E β' st' a w':=by
  refine r.move s (Afl _ _) (fun i=>?_) ?_ ?_ ?_
  ·rcases hcase i with⟨j,hj,e,q1,q2⟩ | ⟨q1,q2,hr⟩
   ·rw[q1,e]
    have hr:=r1.ob j
    refine Kx.bk (C1:=E'.C β1 ⟨[(0,res)],σr⟩ w') (C2:=E.C β' st' w') rfl hnew bor hS' rfl hr fun hb=>?_
    have:=(hcl hb).2
    rw[Am] at this
    rw[Ad,Aa hj]
    exact this _ (List.getElem_mem hj)
   rw[q1]
   by_cases hg:st.o i=.gone
   ·rw[hg];trivial
   exact (r.ob i).step s q2 fun b hb=>hkeep b (r.rng i b hg hb).1 (hnM i b hg hr hb)
  ·intro i j b hi hj h1 h2
   have h1:β' i=some b:=h1
   have h2:β' j=some b:=h2
   have hfar:∀i j b,(∃j',j'<σr.length/\i=bkN sel nid j'/\st'.o i=(σr.getD j' .gone).bk (bkN sel nid)/\β' i=β1 j')->(st'.o j=st.o j/\β' j=β j/\ρ j=none)->st'.o i≠.gone->st'.o j≠.gone->β' i=some b->β' j=some b->False:=fun i j b ⟨i',_,_,q1,q2⟩ ⟨q3,q4,q5⟩ hi hj h1 h2=>by
    rw[q1] at hi
    rw[q3] at hj
    rw[q2] at h1
    rw[q4] at h2
    rcases (hlt1 i' b (fun e=>hi (by rw[e];rfl)) h1).2 with h3 | h3
    ·have:=(r.rng j b hj h2).1
     omega
    exact hnM j b hj q5 h2 h3
   rcases hcase i with ci | ci
   ·rcases hcase j with cj | cj
    ·obtain⟨i',_,e1,q1,q2⟩:=ci
     obtain⟨j',_,e2,q3,q4⟩:=cj
     rw[q1] at hi
     rw[q3] at hj
     rw[q2] at h1
     rw[q4] at h2
     have:=r1.inj i' j' b (fun e=>hi (by rw[hσ] at e;rw[e];rfl)) (fun e=>hj (by rw[hσ] at e;rw[e];rfl)) h1 h2
     rw[e1,e2,this]
    exact (hfar i j b ci cj hi hj h1 h2).elim
   rcases hcase j with cj | cj
   ·exact (hfar j i b cj ci hj hi h2 h1).elim
   rw[ci.1] at hi
   rw[cj.1] at hj
   rw[ci.2.1] at h1
   rw[cj.2.1] at h2
   exact r.inj i j b hi hj h1 h2
  ·intro i b hi h1
   have h1:β' i=some b:=h1
   have hsz:=r.kp.size
   rcases hcase i with⟨j,_,_,q1,q2⟩ | ⟨q1,q2,_⟩
   ·rw[q1] at hi
    rw[q2] at h1
    have h3:=hlt1 j b (fun e=>hi (by rw[e];rfl)) h1
    refine⟨h3.1,?_⟩
    rcases h3.2 with h3 | h3
    ·exact .inl (by omega)
    obtain⟨id,h4,h5⟩:=hM b h3
    exact (r.rng id b (hngs id h4) h5).2
   rw[q1] at hi
   rw[q2] at h1
   have:=r.rng i b hi h1
   exact⟨by omega,this.2⟩
  have h4:=r.kp.size
  refine⟨r1.kp.os.trans r.kp.os,r1.kp.tape.trans r.kp.tape,r1.kp.output.trans r.kp.output,by omega,fun b hb hm=>(hkeep b (by omega) fun hm'=>?_).trans (r.kp.block b hb hm)⟩
  obtain⟨id,h5,h6⟩:=hM b hm'
  rcases (r.rng id b (hngs id h5) h6).2 with h7 | h7
  ·omega
  exact hm h7
 refine⟨β',?_⟩
 show Eu E β' ((st.put o.dst _).sets _) _ w'
 rw[Abk]
 refine r2.put ?_ o.dst hd
 exact Ec.bk (C1:=E'.C β1 ⟨[(0,res)],σr⟩ w') (C2:=E.C β' st' w') rfl hnew bor hS' (r1.sl 0) fun hb=>(hcl hb).1
end
section
variable {P:Program}
inductive Gd where
  | no
  | at (d:Tmp) (want:Bool)
  | bad
def Oi (ops:Array Oper) (o:Oper):Gd:=match o.guard with
 | none=>.no
 | some (j,want)=>match (ops[j]?).bind (·.dst) with
  | some d=>.at d want
  | none=>.bad
def St.gb (st:St):Gd->Bool
 | .no=>true
 | .at d want=>(E9 st.sl d).sb&&(Fh (E9 st.sl d).sv == want)
 | .bad=>false
def St.gc (st:St):Gd->Prop
 | .no=>True
 | .at d _=>Ik (E9 st.sl d).sv=true
 | .bad=>False
variable {E:Gs} {β:Nat->Option Nat} {st:St} {a:Act} {w:World}
theorem Yg (r:Eu E β st a w) (ops:Array Oper) (o:Oper) (hc:st.gc (Oi ops o)):Region.wanted o (yielded ops a.tmps)=st.gb (Oi ops o):=by
 unfold Oi at hc ⊢
 unfold Region.wanted
 cases hg:o.guard with
 | none=>rfl
 | some jw =>
  obtain⟨j,want⟩:=jw
  rw[hg] at hc
  simp only at hc ⊢
  cases hd:(ops[j]?).bind (·.dst) with
  | none=>rw[hd] at hc;exact hc.elim
  | some d =>
   rw[hd] at hc
   simp only[St.gc,St.gb,yielded,hd,Option.bind_some] at hc ⊢
   have hr:=M9 r (.tmp d)
   simp only[St.raw,Act.eval] at hr
   generalize E9 st.sl d=v at hc hr ⊢
   obtain⟨h1,h2⟩:=hr.sv
   cases hb:v.sb with
   | true =>
    obtain⟨e1,e2⟩:=Nb hc (h1 hb)
    have:a.tmps[d]? = some (.bool (Fh v.sv)):=by
     rw[Av] at e2
     cases hq:a.tmps[d]? with
     | none=>rw[hq] at e2;cases e2
     | some q=>rw[hq] at e2;rw[<- e2];rfl
    rw[this]
    simp
   | false =>
    have e2:=h2 hb
    have:∀b,a.tmps[d]? ≠ some (.bool b):=fun b e=>by
     rw[Av,e] at e2
     cases e2
    cases hq:a.tmps[d]? with
    | none=>simp
    | some q=>cases q<;>first | exact absurd hq (this _) | simp
def Qy (raw:Operand->AV):Op->Prop
 | .move x=>(raw x).sb=true
 | .assign x=>(raw x).sb=true
 | .box _ x=>(raw x).sb=true
 | .load _ x=>(raw x).sb=true
 | .fieldAddr _ x _=>(raw x).sb=true
 | .nilCheck x=>(raw x).sb=true
 | .unOp _ _ x=>(raw x).sb=true
 | .extract x _=>(raw x).sb=true
 | .convert _ _ x=>(raw x).sb=true
 | .store _ x y=>(raw x).sb=true/\(raw y).sb=true
 | .binOp _ _ x y _=>(raw x).sb=true/\(raw y).sb=true
 | .indexAddr _ x y=>(raw x).sb=true/\(raw y).sb=true
 | op=>(op.operands.toList.all fun x=>(raw x).sb)=true
variable {op:Op}
theorem Aow {raw:Operand->AV} (h:Qy raw op):∀x∈op.operands,(raw x).sb=true:=by
 unfold Qy at h
 split at h<;>first
  | (intro x hx;simp[Op.operands] at hx;subst hx;exact h)
  | (intro x hx;simp[Op.operands] at hx;rcases hx with hx | hx<;>subst hx<;>first | exact h.1 | exact h.2)
  | (intro x hx;exact Am.1 h x (by simpa using hx))
def Ht (P:Program) (op:Op) (ty:TypeId) (st:St) (nid:Nat):Prop :=
 match op with
 | .pick c a b=>(Aau (st.raw c) (st.raw a) (st.raw b)).c
 | op=>Qy st.raw op/\(Nw P op ty st.raw st.o nid).c
def I0 (P:Program) (op:Op) (ty:TypeId) (st:St) (nid:Nat):AV×List (Nat×Ob) :=
 match op with
 | .pick c a b=>((Aau (st.raw c) (st.raw a) (st.raw b)).v,[])
 | op=>((Nw P op ty st.raw st.o nid).v,(Nw P op ty st.raw st.o nid).up)
variable {ty:TypeId} {nid:Nat}
section
variable (h:∀c a b,op≠.pick c a b)
include h
theorem Ahs:I0 P op ty st nid=((Nw P op ty st.raw st.o nid).v,(Nw P op ty st.raw st.o nid).up):=by
 unfold I0
 split
 ·rename_i c a b;exact absurd rfl (h c a b)
 rfl
theorem Ahw:Ht P op ty st nid=(Qy st.raw op/\(Nw P op ty st.raw st.o nid).c):=by
 unfold Ht
 split
 ·rename_i c a b;exact absurd rfl (h c a b)
 rfl
end
def V4 (P:Program) (op:Op) (ty:TypeId) (st:St) (nid:Nat) (e:AV×List (Nat×Ob)):Prop :=
 match op with
 | .call { callee:=.value fo,args,.. }=>((st.raw fo).sb=true/\(args.toList.all fun x=>(st.raw x).sb)=true)/\(Ay8 P fo args.toList st.raw st.o nid e\/∃f caps sel σr res,(st.raw fo).sv=.fn f caps/\Zv P f (args.toList.map (fun x=>(st.raw x).sv)++caps) st.o nid sel σr res/\e=Pp sel nid σr res)
 | op=>Ht P op ty st nid/\e=I0 P op ty st nid
variable {o:Oper}
theorem Az5 (r:Eu E β st a w) {c x y:Operand} (hop:o.op=.pick c x y) (hd:∀x,o.dst=some x->x<E.n) (hc:(Aau (st.raw c) (st.raw x) (st.raw y)).c) {Q:Exit->Act->World->Prop} :
 o.wp P a w (fun a' w'=>∃β',Eu E β' (st.after o.dst (Aau (st.raw c) (st.raw x) (st.raw y)).v []) a' w') Q:=by
 obtain⟨h1,h2,h3,h4⟩:=hc
 obtain⟨e1,e2⟩:=Nb h1 ((M9 r c).sv.1 h2)
 unfold Oper.wp
 have hrun:∃v,(execOp a.eval o).run P w=.ok (.value v) w/\Ec (E.C β st w) (Aau (st.raw c) (st.raw x) (st.raw y)).v v:=by
  obtain⟨dst,op,ty,pos,af,gd⟩:=o
  simp only at hop
  subst hop
  simp only[Aau]
  cases hb:Fh (st.raw c).sv with
  | true =>
   obtain⟨g1,g2⟩:=h3 hb
   obtain⟨q1,q2⟩:=Nb g1 ((M9 r x).sv.1 g2)
   exact⟨a.eval x,by simp[execOp,e2,hb,asBool],by rw[q2];exact .lit _⟩
  | false =>
   obtain⟨g1,g2⟩:=h4 hb
   obtain⟨q1,q2⟩:=Nb g1 ((M9 r y).sv.1 g2)
   exact⟨a.eval y,by simp[execOp,e2,hb,asBool],by rw[q2];exact .lit _⟩
 obtain⟨v,h5,h6⟩:=hrun
 rw[h5]
 exact⟨β,r.put h6 o.dst hd⟩
variable {e:AV×List (Nat×Ob)}
theorem A2s (r:Eu E β st a w) (hd:∀x,o.dst=some x->x<E.n) (hn:∀p∈e.2,nid<=p.1->st.o p.1=.gone) (h:V4 P o.op o.type st nid e) {Q:Exit->Act->World->Prop} :
 o.wp P a w (fun a' w'=>∃β',Eu E β' (st.after o.dst e.1 e.2) a' w') Q:=by
 unfold V4 at h
 split at h
 ·rename_i fo args ts hop
  have hops:∀x∈o.op.operands,(st.raw x).sb=true:=fun x hx=>by
   rw[hop] at hx
   simp only[Op.operands,Call.operands,Array.mem_append] at hx
   rcases hx with hx | hx
   ·simp at hx;subst hx;exact h.1.1
   exact Am.1 h.1.2 x (by simpa using hx)
  rcases h.2 with h2 | ⟨f,caps,sel,σr,res,h3,h4,rfl⟩
  ·exact A0q r hop hd hops h2 hn
  exact Ax8 r hop hd hops h3 h4 hn
 rename_i hno
 obtain⟨h1,rfl⟩:=h
 by_cases hp:∃c x y,o.op=.pick c x y
 ·obtain⟨c,x,y,hop⟩:=hp
  rw[hop] at h1 ⊢
  exact Az5 r hop hd h1
 have e1:=Ahs (P:=P) (ty:=o.type) (st:=st) (nid:=nid) fun c x y e=>hp ⟨c,x,y,e⟩
 have e2:=Ahw (P:=P) (ty:=o.type) (st:=st) (nid:=nid) fun c x y e=>hp ⟨c,x,y,e⟩
 rw[e1] at hn ⊢
 rw[e2] at h1
 exact A40 r hd hn (Aow h1.1) h1.2
theorem Eu.putLe {s:St} {d:Option Tmp} {v v':AV} (r:Eu E β (s.put d v) a w) (h:∀C u,Ec C v u->Ec C v' u):Eu E β (s.put d v') a w:=by
 cases d with
 | none=>exact r
 | some d =>
  have hC:E.C β (s.put (some d) v') w=E.C β (s.put (some d) v) w:=by rw[Ad9,Ad9]
  refine⟨r.sz,fun t=>?_,r.df,fun id=>by rw[hC];exact r.ob id,r.inj,r.rng,r.kp,by rw[hC];exact r.ct,r.kb,r.dk⟩
  rw[hC]
  have:=r.sl t
  simp only[St.put,E9] at this ⊢
  cases hb:d == t with
  | true =>
   rw[hb] at this
   exact h _ _ this
  | false =>
   rw[hb] at this
   exact this
def St.afterG (st:St) (g:Gd) (d:Option Tmp) (e:AV×List (Nat×Ob)):St:=match g with
 | .no=>st.after d e.1 e.2
 | g=>st.after d (.gd (st.gb g) e.1) (bif st.gb g then e.2 else [])
def FOk (E:Gs) (F:Fence):Prop:=F=Fence.wide\/∃l r,F=Fence.wide.inRound l/\E.kb l=some (.loop r)
variable {F:Fence}
theorem FOk.fn (h:FOk E F) (f:FuncId):F.fn f:=by
 rcases h with rfl | ⟨l,r,rfl,_⟩<;>exact trivial
theorem FOk.depth (h:FOk E F):F.depth.isSome=true->1<=0:=by
 rcases h with rfl | ⟨l,r,rfl,_⟩<;>intro h<;>cases h
variable {n:Nat} {args:Array Value}
theorem FOk.calls (h:FOk E F) {f:FuncId} {R:Ending->World->Prop} (hc:Calls P f args w R):CallsIn F n P f args w R:=by
 rcases h with rfl | ⟨l,r,rfl,_⟩
 ·exact callsIn_wide.2 hc
 exact (callsIn_wide (n:=n)).2 hc
theorem FOk.rows (h:FOk E F) {row:String} {R:Value->World->Prop} (hc:Rows P row args w R):RowsIn F n P row args w R:=by
 rcases h with rfl | ⟨l,r,rfl,_⟩
 ·exact fun c cs _=>let ⟨v,w',r,s⟩:=hc c cs;⟨v,w',r,stepsIn_wide.2 s⟩
 exact fun c cs _=>let ⟨v,w',r,s⟩:=hc c cs;⟨v,w',r,stepsIn_wide.2 s⟩
variable {K:Act->World->Prop}
theorem Ru (hF:FOk E F) (hnd:∀c,o.op≠.defer c) {Q:Exit->Act->World->Prop} (h:o.wp P a w K fun _ _ _=>False):o.wpIn F 0 P a w K Q:=by
 refine⟨fun f _=>hF.fn f,?_⟩
 rw[Oper.semAt_eq _ _ _ hnd]
 unfold Oper.wp at h
 generalize (execOp a.eval o).run P w=r at h
 cases r with
 | ok x w' =>
  cases x with
  | value v=>exact h
  | skip=>exact h
  | defer d=>exact h
  | enter f args =>
   refine⟨hF.depth,(hF.calls h).mono ?_⟩
   intro e w'' he
   cases e with
   | returned v=>exact he
   | panicked c=>exact he.elim
   | outgrown=>obtain⟨_,_,hx⟩:=he;exact hx.elim
  | row row args=>exact⟨hF.depth,hF.rows h⟩
  | _=>exact h.elim
 | halt x w' =>
  cases x with
  | panic v=>exact h.elim
  | _=>exact h.elim
theorem Am6 (h:V4 P op ty st nid e):∀c,op≠.defer c:=by
 rintro c rfl
 exact h.1.2.elim
theorem Vs (r:Eu E β st a w) {ops:Array Oper} (hd:∀x,o.dst=some x->x<E.n) (hg:st.gc (Oi ops o)) (hn:st.gb (Oi ops o)=true->∀p∈e.2,nid<=p.1->st.o p.1=.gone) (h:st.gb (Oi ops o)=true->V4 P o.op o.type st nid e) (hF:FOk E F) {Q:Exit->Act->World->Prop} (hK:∀β' a' w',Eu E β' (st.afterG (Oi ops o) o.dst e) a' w'->K a' w') :
  if Region.wanted o (yielded ops a.tmps) then o.wpIn F 0 P a w K Q else (∀f,o.about P w a.eval=some f->F.fn f)/\K (a.put o.dst undef) w:=by
 rw[Yg r ops o hg]
 cases hb:st.gb (Oi ops o) with
 | true =>
  rw[if_pos rfl]
  refine Oper.wpIn_mono (fun a' w' h'=>?_) (Ru hF (Am6 (h hb)) (A2s r hd (hn hb) (h hb)))
  obtain⟨β',r'⟩:=h'
  refine hK β' a' w' ?_
  unfold St.afterG
  split
  ·exact r'
  rw[hb]
  simp only[cond_true]
  unfold St.after at r' ⊢
  rw[Abk] at r' ⊢
  exact r'.putLe fun C u hu=>.gd true _ u (fun _=>hu) fun e=>by cases e
 | false =>
  rw[if_neg (by simp)]
  refine⟨fun f _=>hF.fn f,hK β _ w ?_⟩
  unfold St.afterG
  split
  ·rename_i hno
   rw[hno] at hb
   cases hb
  rw[hb]
  simp only[cond_false,St.after,St.sets]
  exact r.put (.gd false _ _ (fun e=>by cases e) fun _=>rfl) o.dst hd
structure VO where
  d:Option Tmp
  op:Op
  ty:TypeId
  g:Gd
def Gh (l:List Oper):List VO:=l.map fun o=>⟨o.dst,o.op,o.type,Oi l.toArray o⟩
def runs (P:Program):List VO->St->(St->Prop)->Prop
 | [],st,K=>K st
 | v::os,st,K=>st.gc v.g /\
  if Ff v.op then ∃e:AV×List (Nat×Ob),(st.gb v.g=true->V4 P v.op v.ty st st.ob.length e)/\runs P os (st.afterG v.g v.d e) K
  else (st.gb v.g=true->Ht P v.op v.ty st st.ob.length)/\runs P os (st.afterG v.g v.d (I0 P v.op v.ty st st.ob.length)) K
theorem Hf (st:St):∀i,st.ob.length<=i->st.o i=.gone:=fun i hi=>by
 simp only[St.o]
 rw[Ad,Ar hi];rfl
theorem Afy (hc:Ff op=false) (h:Ht P op ty st nid):V4 P op ty st nid (I0 P op ty st nid):=by
 unfold V4
 split
 ·cases hc
 exact⟨h,rfl⟩
theorem Aa9 {E:Gs} {F:Fence} (hF:FOk E F) {ops:Array Oper} {K:St->Prop} {Q:Exit->Act->World->Prop} (hQ:∀st β a w,K st->Eu E β st a w->Q .normal a w):∀(l:List Oper) (hd:∀o∈l,∀x,o.dst=some x->x<E.n) (st:St) (β:Nat->Option Nat) (a:Act) (w:World),
 runs P (l.map fun o=>⟨o.dst,o.op,o.type,Oi ops o⟩) st K->Eu E β st a w->wpListIn F 0 P ops Q l a w
 | [],_,st,β,a,w,h,r=>hQ st β a w h r
 | o::l,hd,st,β,a,w,h,r=>by
  obtain⟨hg,h⟩:=h
  unfold wpListIn
  simp only at h hg
  cases hc:Ff o.op with
  | true =>
   rw[hc,if_pos rfl] at h
   obtain⟨e,h1,h2⟩:=h
   exact Vs r (hd o (by simp)) hg (fun _ p _ hp=>Hf st p.1 hp) h1 hF fun β' a' w' r'=>Aa9 hF hQ l (fun x hx=>hd x (by simp[hx])) _ β' a' w' h2 r'
  | false =>
   rw[hc,if_neg (by simp)] at h
   obtain⟨h1,h2⟩:=h
   exact Vs r (hd o (by simp)) hg (fun _ p _ hp=>Hf st p.1 hp) (fun hb=>Afy hc (h1 hb)) hF fun β' a' w' r'=>Aa9 hF hQ l (fun x hx=>hd x (by simp[hx])) _ β' a' w' h2 r'
structure Hs (E E':Gs):Prop where
  ex:∃ds kb,E'={ E with ds:=ds,kb:=kb }
  kb:∀b o,E.kb b=some o->E'.kb b=some o
theorem Hs.refl (E:Gs):Hs E E:=⟨⟨E.ds,E.kb,rfl⟩,fun _ _ h=>h⟩
theorem Hs.trans {E E' E2:Gs} (h:Hs E E') (h':Hs E' E2):Hs E E2:=by
 obtain⟨⟨ds,kb,rfl⟩,h1⟩:=h
 obtain⟨⟨ds2,kb2,rfl⟩,h2⟩:=h'
 exact⟨⟨ds2,kb2,rfl⟩,fun b o h=>h2 b o (h1 b o h)⟩
theorem Hs.ok {E E':Gs} (h:Hs E E') {n m:Nat} (hE:E.n=n/\∀id,m<=id->E.o0 id=.gone):E'.n=n/\∀id,m<=id->E'.o0 id=.gone:=by
 obtain⟨⟨ds,kb,rfl⟩,_⟩:=h
 exact hE
theorem FOk.le {E E':Gs} (h:FOk E F) (hle:Hs E E'):FOk E' F:=by
 rcases h with h | ⟨l,r,h1,h2⟩
 ·exact .inl h
 exact .inr ⟨l,r,h1,hle.kb _ _ h2⟩
def Ah1 (E:Gs) (K:Exit->St->Prop):Exit->Act->World->Prop:=fun e a w=>∃E' st β,Hs E E'/\K e st/\Eu E' β st a w
theorem Ah1.mono {E E':Gs} {K K':Exit->St->Prop} (hle:Hs E E') {e:Exit} (hk:∀s,K e s->K' e s) (h:Ah1 E' K e a w):Ah1 E K' e a w:=by
 obtain⟨E2,st,β,h1,h2,h3⟩:=h
 exact⟨E2,st,β,hle.trans h1,hk _ h2,h3⟩
def VW (P:Program) (n m:Nat) (c:Code) (st:St) (K:Exit->St->Prop):Prop :=
 ∀(E:Gs) (F:Fence),(E.n=n/\∀id,m<=id->E.o0 id=.gone)->FOk E F->∀β a w,Eu E β st a w->c.wpIn F 0 P (Ah1 E K) a w
variable {c:Code} {x y:Code} {id:Nat} {l:List Oper}
section
variable {n m:Nat} {st:St} {K K':Exit->St->Prop}
theorem VW.mono (h:VW P n m c st K) (hk:∀e s,K e s->K' e s):VW P n m c st K':=fun E F hE hF β a w r=>wpIn_mono (h E F hE hF β a w r) fun e a w ⟨E',s,β,h0,h1,h2⟩=>⟨E',s,β,h0,hk e s h1,h2⟩
@[reducible] def Exit.vthen (next:St->Prop) (K:Exit->St->Prop):Exit->St->Prop
 | .normal,s=>next s
 | e,s=>K e s
theorem VW.seq (h:VW P n m x st (Exit.vthen (fun s=>VW P n m y s K) K)):VW P n m (.seq x y) st K:=fun E F hE hF β a w r=>by
 refine wpIn_seq (wpIn_mono (h E F hE hF β a w r) fun e a w ⟨E',s,β,h0,h1,h2⟩=>?_)
 cases e with
 | normal=>exact wpIn_mono (h1 E' F (h0.ok hE) (hF.le h0) β a w h2) fun e a w hp=>hp.mono h0 fun _ h=>h
 | exit id=>exact⟨E',s,β,h0,h1,h2⟩
 | goto l=>exact⟨E',s,β,h0,h1,h2⟩
 | ret=>exact⟨E',s,β,h0,h1,h2⟩
 | panic ch=>exact⟨E',s,β,h0,h1,h2⟩
 | outgrown=>exact⟨E',s,β,h0,h1,h2⟩
abbrev Dv:=@VW.seq
theorem VW.skip (h:K .normal st):VW P n m .skip st K:=fun E F hE hF β a w r=>wpIn_skip ⟨E,st,β,Hs.refl E,h,r⟩
abbrev Bv:=@VW.skip
theorem VW.label {l:Nat} (h:K .normal st):VW P n m (.label l) st K:=fun E F hE hF β a w r=>wpIn_label ⟨E,st,β,Hs.refl E,h,r⟩
theorem VW.exit (h:K (.exit id) st):VW P n m (.exit id) st K:=fun E F hE hF β a w r=>wpIn_exit ⟨E,st,β,Hs.refl E,h,r⟩
abbrev B4:=@VW.exit
theorem VW.goto {l:Nat} (h:K (.goto l) st):VW P n m (.goto l) st K:=fun E F hE hF β a w r=>wpIn_goto ⟨E,st,β,Hs.refl E,h,r⟩
theorem VW.ret (h:K .ret st):VW P n m .ret st K:=fun E F hE hF β a w r=>wpIn_ret ⟨E,st,β,Hs.refl E,h,r⟩
theorem VW.cond {c:Operand} (hb:Ik (st.raw c).sv=true) (hs:(st.raw c).sb=true) (ht:Fh (st.raw c).sv=true->VW P n m x st K) (hf:Fh (st.raw c).sv=false->VW P n m y st K):VW P n m (.cond c x y) st K:=fun E F hE hF β a w r=>by
 obtain⟨_,e2⟩:=Nb hb ((M9 r c).sv.1 hs)
 refine wpIn_cond_split e2 (fun e=>ht e E F hE hF β a w r) fun e=>hf e E F hE hF β a w r
@[reducible] def Exit.vblock (id:Nat) (K:Exit->St->Prop):Exit->St->Prop
 | .exit id',s=>if id'=id then K .normal s else K (.exit id') s
 | e,s=>K e s
theorem VW.block (h:VW P n m c st (Exit.vblock id K)):VW P n m (.block id c) st K:=fun E F hE hF β a w r=>by
 refine wpIn_block (wpIn_mono (h E F hE hF β a w r) fun e a w ⟨E',s,β,h0,h1,h2⟩=>?_)
 cases e with
 | exit id' =>
  unfold Exit.inBlock
  unfold Exit.vblock at h1
  simp only at h1 ⊢
  split
  ·rename_i e;rw[if_pos e] at h1;exact⟨E',s,β,h0,h1,h2⟩
  rename_i e;rw[if_neg e] at h1;exact⟨E',s,β,h0,h1,h2⟩
 | normal=>exact⟨E',s,β,h0,h1,h2⟩
 | goto l=>exact⟨E',s,β,h0,h1,h2⟩
 | ret=>exact⟨E',s,β,h0,h1,h2⟩
 | panic ch=>exact⟨E',s,β,h0,h1,h2⟩
 | outgrown=>exact⟨E',s,β,h0,h1,h2⟩
theorem VW.loop (I:Nat->St->Prop) (z:Nat) (h0:I z st) (round:∀z s,I z s->VW P n m c s (Exit.vthen (fun s'=>∃z',z'<z/\I z' s') K)):VW P n m (.loop c) st K:=fun E F hE hF β a w r=>by
 refine wpIn_loop (fun a w=>∃n s β E',Hs E E'/\I n s/\Eu E' β s a w) (fun a w=>Classical.epsilon fun n=>(∃s β E',Hs E E'/\I n s/\Eu E' β s a w)/\∀n' s β E',Hs E E'->I n' s->Eu E' β s a w->n<=n') ⟨z,st,β,E,Hs.refl E,h0,r⟩ ?_
 rintro a w ⟨n1,s1,β1,E1,hl1,hI,r1⟩
 have hleast:∀a w,(∃n s β E',Hs E E'/\I n s/\Eu E' β s a w)->∃n,(∃s β E',Hs E E'/\I n s/\Eu E' β s a w)/\∀n' s β E',Hs E E'->I n' s->Eu E' β s a w->n<=n':=by
  rintro a w ⟨n,h⟩
  induction n using Nat.strongRecOn with
  | _ n ih =>
   by_cases hm:∃n',n'<n/\∃s β E',Hs E E'/\I n' s/\Eu E' β s a w
   ·obtain⟨n',hlt,h'⟩:=hm
    exact ih n' hlt h'
   exact⟨n,h,fun n' s β E' h0 h1 h2=>Nat.le_of_not_lt fun hlt=>hm ⟨n',hlt,s,β,E',h0,h1,h2⟩⟩
 obtain⟨⟨s0,β0,E0,hl0,hI0,r0⟩,hmin⟩:=Classical.epsilon_spec (hleast a w ⟨n1,s1,β1,E1,hl1,hI,r1⟩)
 refine wpIn_mono (round _ s0 hI0 E0 F (hl0.ok hE) (hF.le hl0) β0 a w r0) fun e a' w' ⟨E',s,β,h0,h1,h2⟩=>?_
 cases e with
 | normal =>
  obtain⟨n',hlt,hI'⟩:=h1
  refine⟨⟨n',s,β,E',hl0.trans h0,hI',h2⟩,?_⟩
  have:=Classical.epsilon_spec (hleast a' w' ⟨n',s,β,E',hl0.trans h0,hI',h2⟩)
  exact Nat.lt_of_le_of_lt (this.2 n' s β E' (hl0.trans h0) hI' h2) hlt
 | exit id=>exact⟨E',s,β,hl0.trans h0,h1,h2⟩
 | goto l=>exact⟨E',s,β,hl0.trans h0,h1,h2⟩
 | ret=>exact⟨E',s,β,hl0.trans h0,h1,h2⟩
 | panic ch=>exact⟨E',s,β,hl0.trans h0,h1,h2⟩
 | outgrown=>exact⟨E',s,β,hl0.trans h0,h1,h2⟩
def Ft (n:Nat) (l:List Oper):Bool:=l.all fun o=>match o.dst with | some d=>decide (d<n) | none=>true
theorem Pq (h:Ft n l=true):∀o∈l,∀x,o.dst=some x->x<n:=fun o ho x hx=>by
 have:=Am.1 h o ho
 rw[hx] at this
 simpa using this
theorem VW.region (hd:Ft n l=true) (h:runs P (Gh l) st (K .normal)):VW P n m (.region id l.toArray false) st K:=fun E F hE hF β a w r =>
 wpIn_region_lit (Aa9 hF (fun s β a w h1 h2=>⟨E,s,β,Hs.refl E,h1,h2⟩) l (fun o ho x hx=>by rw[hE.1];exact Pq hd o ho x hx) st β a w h r)
theorem VW.region_seq {y:Code} (hd:Ft n l=true) (h:∀K1:St->Prop,(∀s,VW P n m y s K->K1 s)->runs P (Gh l) st K1):VW P n m (.seq (.region id l.toArray false) y) st K :=
 .seq (.region hd (h _ fun _ h=>h))
abbrev Bx:=@VW.region_seq
end
end
section
variable {P:Program}
mutual
def AV.ren (ρ:Nat->Option Nat):AV->AV
 | .own id n=>match ρ id with | some j=>.own j n | none=>.any
 | .sub id n lo m=>match ρ id with | some j=>.sub j n lo m | none=>.any
 | .ptr id off=>match ρ id with | some j=>.ptr j off | none=>.any
 | .rptr id n i off=>match ρ id with | some j=>.rptr j n i off | none=>.any
 | .bsl id n=>match ρ id with | some j=>.bsl j n | none=>.any
 | .agg cs=>.agg (Om ρ cs)
 | .tup cs=>.tup (Om ρ cs)
 | .fn f cs=>.fn f (Om ρ cs)
 | .gd t v=>.gd t (v.ren ρ)
 | .any=>.any
 | .lit v=>.lit v
 | .nil k=>.nil k
 | .imm fr k es=>.imm fr k es
 | .iptr fr cs off=>.iptr fr cs off
def Om (ρ:Nat->Option Nat):List AV->List AV
 | []=>[]
 | c::cs=>c.ren ρ::Om ρ cs
end
theorem P5 (ρ:Nat->Option Nat):∀(cs:List AV) (i:Nat),(Om ρ cs)[i]? = (cs[i]?).map (AV.ren ρ)
 | [],i=>by simp[Om]
 | c::cs,0=>by simp[Om]
 | c::cs,i+1=>by simp[Om,P5 ρ cs i]
theorem P4 (ρ:Nat->Option Nat):∀(cs:List AV),(Om ρ cs).length=cs.length
 | []=>rfl
 | c::cs=>by simp[Om,P4 ρ cs]
def Ob.ren (ρ:Nat->Option Nat):Ob->Ob
 | .box ty cs=>.box ty (Om ρ cs)
 | o=>o
def Le (c c':AV):Prop:=∀C u,Ec C c u->Ec C c' u
theorem Le.refl (c:AV):Le c c:=fun _ _ h=>h
theorem Le.any (c:AV):Le c .any:=fun _ u _=>.any u
theorem Le.nil (k:Nat) (fr:Bool) (k':Nat):Le (.nil k) (.imm fr k' []):=fun _ _ h=>by
 cases h with
 | nil k A=>exact .imm _ _ _ _ (.nil _ _ _)
theorem Le.imm {fr fr':Bool} (hf:fr'=true->fr=true) (k:Nat) (es:List (List T)):Le (.imm fr k es) (.imm fr' k es):=fun _ _ h=>by
 cases h with
 | imm fr k es u h=>exact .imm _ _ _ _ (VC.T_weak h hf)
theorem Le.gd (v:AV):Le (.gd true v) v:=fun _ _ h=>by
 cases h with
 | gd t v u h1 h2=>exact h1 rfl
inductive Rc:List AV->List AV->Prop
  | nil:Rc [] []
  | cons {c c':AV} {cs cs':List AV}:Le c c'->Rc cs cs'->Rc (c::cs) (c'::cs')
theorem Rc.refl:∀(cs:List AV),Rc cs cs
 | []=>.nil
 | c::cs=>.cons (Le.refl c) (Rc.refl cs)
variable {cs cs':List AV}
section
variable (h:Rc cs cs')
include h
theorem Rc.length:cs.length=cs'.length:=by
 induction h with
 | nil=>rfl
 | cons _ _ ih=>simp[ih]
theorem Rc.get:∀{i:Nat} {c':AV},cs'[i]? = some c'->∃c,cs[i]? = some c/\Le c c':=by
 induction h with
 | nil=>intro i c' h;simp at h
 | cons h1 _ ih =>
  intro i c' h
  cases i with
  | zero=>simp at h;subst h;exact⟨_,rfl,h1⟩
  | succ i=>simp at h;obtain⟨c,h2,h3⟩:=ih h;exact⟨c,by simpa using h2,h3⟩
theorem Le.agg:Le (.agg cs) (.agg cs'):=fun C u hr=>by
 cases hr with
 | agg cs us h1 h2 =>
  refine .agg _ _ (by rw[<- h.length];exact h1) fun i c u hc hu=>?_
  obtain⟨c0,g1,g2⟩:=h.get hc
  exact g2 C u (h2 i c0 u g1 hu)
theorem Le.tup:Le (.tup cs) (.tup cs'):=fun C u hr=>by
 cases hr with
 | tup cs us h1 h2 =>
  refine .tup _ _ (by rw[<- h.length];exact h1) fun i c u hc hu=>?_
  obtain⟨c0,g1,g2⟩:=h.get hc
  exact g2 C u (h2 i c0 u g1 hu)
end
inductive Wq:Ob->Ob->Prop
  | gone:Wq .gone .gone
  | box {ty:TypeId} {cs cs':List AV}:Rc cs cs'->Wq (.box ty cs) (.box ty cs')
  | row {ty k:Nat} {fr fz fr' fz':Bool} {es:List (List T)}:(fr'=true->fr=true)->(fz'=false->fz=false)->Wq (.row ty k fr fz es) (.row ty k fr' fz' es)
theorem Wq.refl (o:Ob):Wq o o:=by
 cases o with
 | gone=>exact .gone
 | box ty cs=>exact .box (Rc.refl cs)
 | row ty k fr fz es=>exact .row (fun e=>e) fun e=>e
variable {ρ:Nat->Option Nat}
theorem Ec.ren {C C':VC} (hh:C'.h=C.h) (ho:∀id j,ρ id=some j->Sim (C.ob id) (C'.ob j)/\C'.β j=C.β id) (hS:∀fr b,C.S fr b->C'.S fr b) {c:AV} {u:Value} (h:Ec C c u):Ec C' (c.ren ρ) u:=by
 have hT:∀fr t u,Gq C.h (C.S fr) t u->Gq C'.h (C'.S fr) t u:=fun fr t u h=>by
  rw[hh]
  exact h.keep (fun _ _=>rfl) (hS fr)
 induction h with
 | any u=>exact .any u
 | lit v=>exact .lit v
 | nil k A=>exact .nil k A
 | imm fr k es u h=>exact .imm fr k es u (hT fr _ _ h)
 | own id n u h =>
  simp only[AV.ren]
  cases hr:ρ id with
  | none=>exact .any u
  | some j =>
   obtain⟨h0,ty,k,fr,fz,es,h1,h2,h3⟩:=h
   obtain⟨e1,e2⟩:=ho id j hr
   rw[h1] at e1
   obtain⟨fr',fz',e1⟩:=e1
   exact .own _ _ _ ⟨h0,ty,k,fr',fz',es,e1,h2,fun e=>by
    have:=h3 e
    rw[e2,hh];exact this⟩
 | sub id n lo m u h =>
  simp only[AV.ren]
  cases hr:ρ id with
  | none=>exact .any u
  | some j =>
   obtain⟨h0,ty,k,fr,fz,es,h1,h2,h3⟩:=h
   obtain⟨e1,e2⟩:=ho id j hr
   rw[h1] at e1
   obtain⟨fr',fz',e1⟩:=e1
   exact .sub _ _ _ _ _ ⟨h0,ty,k,fr',fz',es,e1,h2,fun e=>by
    have:=h3 e
    rw[e2];exact this⟩
 | bsl id n u h =>
  simp only[AV.ren]
  cases hr:ρ id with
  | none=>exact .any u
  | some j =>
   obtain⟨ty,cs,b,c,h1,h2,h3⟩:=h
   obtain⟨e1,e2⟩:=ho id j hr
   rw[h1] at e1
   obtain⟨cs',e1⟩:=e1
   exact .bsl _ _ _ ⟨ty,cs',b,c,e1,by rw[e2];exact h2,h3⟩
 | ptr id off u h =>
  simp only[AV.ren]
  cases hr:ρ id with
  | none=>exact .any u
  | some j =>
   obtain⟨ty,cs,b,h1,h2,h3⟩:=h
   obtain⟨e1,e2⟩:=ho id j hr
   rw[h1] at e1
   obtain⟨cs',e1⟩:=e1
   exact .ptr _ _ _ ⟨ty,cs',b,e1,by rw[e2];exact h2,h3⟩
 | rptr id n i off u h =>
  simp only[AV.ren]
  cases hr:ρ id with
  | none=>exact .any u
  | some j =>
   obtain⟨h0,ty,k,fr,fz,es,h1,h2,h3⟩:=h
   obtain⟨e1,e2⟩:=ho id j hr
   rw[h1] at e1
   obtain⟨fr',fz',e1⟩:=e1
   exact .rptr _ _ _ _ _ ⟨h0,ty,k,fr',fz',es,e1,h2,fun e=>by
    have:=h3 e
    rw[e2];exact this⟩
 | iptr fr cs off b o cur ty fz us h1 h2 h3 =>
  exact .iptr fr cs off b o cur ty fz us (by rw[hh];exact h1) (hS fr b h2) fun j x hx=>⟨(h3 j x hx).1,hT fr _ _ (h3 j x hx).2⟩
 | agg cs us h1 h2 ih =>
  refine .agg _ _ (by rw[P4];exact h1) fun i c u hc' hu=>?_
  rw[P5] at hc'
  cases hx:cs[i]? with
  | none=>rw[hx] at hc';cases hc'
  | some x =>
   rw[hx] at hc'
   simp only[Ai,Option.some.injEq] at hc'
   subst hc'
   exact ih i x u hx hu
 | tup cs us h1 h2 ih =>
  refine .tup _ _ (by rw[P4];exact h1) fun i c u hc' hu=>?_
  rw[P5] at hc'
  cases hx:cs[i]? with
  | none=>rw[hx] at hc';cases hc'
  | some x =>
   rw[hx] at hc'
   simp only[Ai,Option.some.injEq] at hc'
   subst hc'
   exact ih i x u hx hu
 | fn f cs us h1 h2 ih =>
  refine .fn f _ _ (by rw[P4];exact h1) fun i c u hc' hu=>?_
  rw[P5] at hc'
  cases hx:cs[i]? with
  | none=>rw[hx] at hc';cases hc'
  | some x =>
   rw[hx] at hc'
   simp only[Ai,Option.some.injEq] at hc'
   subst hc'
   exact ih i x u hx hu
 | gd t v u h1 h2 ih=>exact .gd t _ u (fun e=>ih e) h2
inductive LeS (ρ:Nat->Option Nat) (l:List (Nat×AV)):List (Nat×AV)->Prop
  | nil:LeS ρ l []
  | cons {t:Nat} {c':AV} {l':List (Nat×AV)}:Le ((E9 l t).ren ρ) c'->LeS ρ l l'->LeS ρ l ((t,c')::l')
theorem LeS.get {l l':List (Nat×AV)} (h:LeS ρ l l') (t:Nat):Le ((E9 l t).ren ρ) (E9 l' t):=by
 induction h with
 | nil=>exact Le.any _
 | @cons t' c' l' h1 _ ih =>
  simp only[E9]
  cases hb:t' == t with
  | true =>
   have:t'=t:=by simpa using hb
   subst this
   exact h1
  | false=>exact ih
structure Ajc (st:St) (sel:List Nat) (st':St):Prop where
  sl:LeS (fun id=>Nq id sel 0) st.sl st'.sl
  ob:∀j,j<sel.length->Wq ((st.o (sel.getD j 0)).ren fun id=>Nq id sel 0) (st'.o j)
  len:st'.ob.length=sel.length
  nd:sel.Nodup
variable {E:Gs} {β:Nat->Option Nat} {a:Act} {w:World} {sel:List Nat}
section
variable {st st':St} (r:Eu E β st a w) (h:Ajc st sel st') (hE:∀id,E.o0 id≠.gone->sel[id]? = some id)
include r h hE
theorem Eu.weakE:Eu E (fun j=>(sel[j]?).bind β) st' a w:=by
 let β':Nat->Option Nat:=fun j=>(sel[j]?).bind β
 show Eu E β' st' a w
 have hgone:∀j,sel.length<=j->st'.o j=.gone:=fun j hj=>Hf st' j (by rw[h.len];exact hj)
 have hle:∀j id,sel[j]? = some id->Wq ((st.o id).ren fun id=>Nq id sel 0) (st'.o j):=fun j id hj=>by
  have hlt:j<sel.length:=(Ab.1 hj).1
  have:=h.ob j hlt
  rw[Ad,hj] at this
  exact this
 have hng:∀j id,sel[j]? = some id->st'.o j≠.gone->st.o id≠.gone:=fun j id hj hne e=>by
  have:=hle j id hj
  rw[e] at this
  simp only[Ob.ren] at this
  cases hq:st'.o j with
  | gone=>exact hne hq
  | box ty cs=>rw[hq] at this;cases this
  | row ty k fr fz es=>rw[hq] at this;cases this
 have hsel:∀j,st'.o j≠.gone->∃id,sel[j]? = some id:=fun j hj=>by
  by_cases hlt:j<sel.length
  ·exact⟨_,Aa hlt⟩
  exact absurd (hgone j (by omega)) hj
 have hβ:∀j id,sel[j]? = some id->β' j=β id:=fun j id hj=>by simp[β',hj]
 have hS:∀fr b,(E.C β st w).S fr b->(E.C β' st' w).S fr b:=fun fr b ⟨h1,h2,h3⟩=>by
  refine⟨h1,fun⟨j,g1,g2⟩=>h2 ?_,h3⟩
  have g1:β' j=some b:=g1
  have g2:(st'.o j).live:=g2
  obtain⟨id,hj⟩:=hsel j fun e=>by rw[e] at g2;exact g2
  rw[hβ j id hj] at g1
  refine⟨id,g1,?_⟩
  show (st.o id).live
  have hl:=hle j id hj
  cases hq:st.o id with
  | gone=>rw[hq] at hl;simp only[Ob.ren] at hl;cases hp:st'.o j with
   | gone=>rw[hp] at g2;exact g2
   | box ty cs=>rw[hp] at hl;cases hl
   | row ty k fr fz es=>rw[hp] at hl;cases hl
  | box ty cs=>trivial
  | row ty k fr fz es =>
   rw[hq] at hl
   simp only[Ob.ren] at hl
   cases hp:st'.o j with
   | gone=>rw[hp] at hl;cases hl
   | box ty cs=>rw[hp] at hl;cases hl
   | row ty' k' fr' fz' es' =>
    rw[hp] at hl g2
    cases hl with
    | row e1 e2=>exact e2 g2
 have hsim:∀id j,Nq id sel 0=some j->Sim (st.o id) (st'.o j)/\β' j=β id:=fun id j hj=>by
  obtain⟨_,hj⟩:=Abr hj
  rw[Nat.sub_zero] at hj
  refine⟨?_,hβ j id hj⟩
  have hl:=hle j id hj
  cases hq:st.o id with
  | gone=>trivial
  | box ty cs=>rw[hq] at hl;simp only[Ob.ren] at hl;cases hp:st'.o j with
   | gone=>rw[hp] at hl;cases hl
   | box ty' cs'=>rw[hp] at hl;cases hl with
    | box e=>exact⟨_,rfl⟩
   | row ty k fr fz es=>rw[hp] at hl;cases hl
  | row ty k fr fz es=>rw[hq] at hl;simp only[Ob.ren] at hl;cases hp:st'.o j with
   | gone=>rw[hp] at hl;cases hl
   | box ty cs=>rw[hp] at hl;cases hl
   | row ty' k' fr' fz' es'=>rw[hp] at hl;cases hl with
    | row e1 e2=>exact⟨_,_,rfl⟩
 have hV:∀c u,Ec (E.C β st w) c u->Ec (E.C β' st' w) (c.ren fun id=>Nq id sel 0) u:=fun c u hc=>Ec.ren (C:=E.C β st w) (C':=E.C β' st' w) rfl hsim hS hc
 refine⟨r.sz,fun t=>h.sl.get t _ _ (hV _ _ (r.sl t)),r.df,fun j=>?_,?_,?_,r.kp,?_,r.kb,r.dk⟩
 ·by_cases hj:st'.o j=.gone
  ·rw[hj];trivial
  obtain⟨id,hid⟩:=hsel j hj
  have hr:=r.ob id
  have hl:=hle j id hid
  cases hq:st.o id with
  | gone=>exact absurd hq (hng j id hid hj)
  | box ty cs =>
   rw[hq] at hr hl
   simp only[Ob.ren] at hl
   obtain⟨b,cur,q1,q2,q3,q4⟩:=hr
   cases hp:st'.o j with
   | gone=>exact absurd hp hj
   | row ty k fr fz es=>rw[hp] at hl;cases hl
   | box ty' cs' =>
    rw[hp] at hl
    cases hl with
    | box e =>
     refine⟨b,cur,by show β' j=_;rw[hβ j id hid];exact q1,q2,by rw[<- e.length,P4];exact q3,fun i c u hc hu=>?_⟩
     obtain⟨c1,g1,g2⟩:=e.get hc
     rw[P5] at g1
     cases hx:cs[i]? with
     | none=>rw[hx] at g1;cases g1
     | some x =>
      rw[hx] at g1
      simp only[Ai,Option.some.injEq] at g1
      subst g1
      exact⟨g2 _ _ (hV x u (q4 i x u hx hu).1),(q4 i x u hx hu).2⟩
  | row ty k fr fz es =>
   rw[hq] at hr hl
   simp only[Ob.ren] at hl
   obtain⟨q1,q2⟩:=hr
   cases hp:st'.o j with
   | gone=>exact absurd hp hj
   | box ty cs=>rw[hp] at hl;cases hl
   | row ty' k' fr' fz' es' =>
    rw[hp] at hl
    cases hl with
    | row e1 e2 =>
     refine⟨q1,?_⟩
     have hb:(E.C β' st' w).β j=(E.C β st w).β id:=hβ j id hid
     rw[hb]
     cases hbb:(E.C β st w).β id with
     | none=>rw[hbb] at q2;exact q2
     | some b =>
      rw[hbb] at q2
      obtain⟨cur,c,g1,g2,g3,g4,g5⟩:=q2
      refine⟨cur,c,g1,g2,g3,g4,fun i e j x he hx=>?_⟩
      obtain⟨u,p1,p2⟩:=g5 i e j x he hx
      exact⟨u,p1,VC.T_weak (C:=E.C β' st' w) (p2.keep (fun _ _=>rfl) (hS fr)) e1⟩
 ·intro i j b hi hj h1 h2
  obtain⟨x,hx⟩:=hsel i hi
  obtain⟨y,hy⟩:=hsel j hj
  rw[hβ i x hx] at h1
  rw[hβ j y hy] at h2
  have:=r.inj x y b (hng i x hx hi) (hng j y hy hj) h1 h2
  subst this
  obtain⟨hi',hx'⟩:=Ab.1 hx
  obtain⟨hj',hy'⟩:=Ab.1 hy
  have hnd:=List.pairwise_iff_getElem.1 h.nd
  rcases Nat.lt_trichotomy i j with hlt | he | hlt
  ·exact absurd (hx'.trans hy'.symm) (hnd i j hi' hj' hlt)
  ·exact he
  exact absurd (hy'.trans hx'.symm) (hnd j i hj' hi' hlt)
 ·intro i b hi h1
  obtain⟨x,hx⟩:=hsel i hi
  rw[hβ i x hx] at h1
  exact r.rng x b (hng i x hx hi) h1
 refine⟨fun id ty cs ho=>?_,fun id ty k fr fz es ho=>?_⟩
 ·have hid:=hE id (by rw[ho];simp)
  obtain⟨⟨cs',q1⟩,q2⟩:=r.ct.box id ty cs ho
  have q1:st.o id=_:=q1
  have hl:=hle id id hid
  rw[q1] at hl
  simp only[Ob.ren] at hl
  cases hp:st'.o id with
  | gone=>rw[hp] at hl;cases hl
  | row ty k fr fz es=>rw[hp] at hl;cases hl
  | box ty' cs2 =>
   rw[hp] at hl
   cases hl with
   | box e=>exact⟨⟨_,hp⟩,by show β' id=_;rw[hβ id id hid];exact q2⟩
 have hid:=hE id (by rw[ho];simp)
 obtain⟨fr',fz',es',q1,q2,q3⟩:=r.ct.row id ty k fr fz es ho
 have q1:st.o id=_:=q1
 have hl:=hle id id hid
 rw[q1] at hl
 simp only[Ob.ren] at hl
 cases hp:st'.o id with
 | gone=>rw[hp] at hl;cases hl
 | box ty cs=>rw[hp] at hl;cases hl
 | row ty2 k2 fr2 fz2 es2 =>
  rw[hp] at hl
  cases hl with
  | row e1 e2 =>
   refine⟨fr2,fz2,es',hp,q2,fun e=>?_⟩
   obtain⟨g1,g2⟩:=q3 e
   exact⟨by show β' id=_;rw[hβ id id hid];exact g1,g2⟩
theorem Eu.weak:∃β',Eu E β' st' a w:=⟨_,r.weakE h hE⟩
end
variable {st:St}
theorem VW.weak {n m:Nat} {K:Exit->St->Prop} {c:Code} {st':St} (h:Ajc st sel st') (hm:∀id,id<m->sel[id]? = some id) (hv:VW P n m c st' K):VW P n m c st K:=fun E F hE hF β a w r=>by
 obtain⟨β',r'⟩:=r.weak h fun id hid=>hm id (Nat.lt_of_not_le fun hle=>hid (hE.2 id hle))
 exact hv E F hE hF β' a w r'
def Aah (P:Program) (st:St):ResultVar->Mp
 | .tmp t=>⟨E9 st.sl t,[],True⟩
 | .cell a t=>let e:=J9 P t (E9 st.sl a).sv st.o;⟨e.v,[],(E9 st.sl a).sb=true/\e.c⟩
def Lg (P:Program) (st:St) (rs:List ResultVar):AV:=match rs with
 | [r]=>(Aah P st r).v
 | rs=>.tup (rs.map fun r=>(Aah P st r).v)
def Wp (P:Program) (st:St):List ResultVar->Prop
 | []=>True
 | r::rs=>(Aah P st r).c/\Wp P st rs
theorem At3 (r:Eu E β st a w) {x:ResultVar} (hc:(Aah P st x).c) :
 ∃v,((match x with | .tmp t=>pure (a.tmps.getD t undef) | .cell ad t=>do loadVar t (<- asAddr (a.tmps.getD ad undef)):Sem Value)).run P w=.ok v w/\Ec (E.C β st w) (Aah P st x).v v:=by
 cases x with
 | tmp t=>exact⟨_,rfl,M9 r (.tmp t)⟩
 | cell ad t =>
  obtain⟨h1,h2⟩:=hc
  have hx:=(M9 r (.tmp ad)).sv.1 h1
  obtain⟨v,g1,g2,_⟩:=Asv (P:=P) r hx h2
  refine⟨v,?_,g2⟩
  simp only[Act.eval] at g1
  revert g1
  simp only[Instr.loadAt]
  generalize a.tmps.getD ad undef=u
  intro g1
  cases u with
  | pointer A =>
   cases A with
   | some x=>simpa[Instr.sureAddr,asAddr] using g1
   | none=>simp[Instr.sureAddr] at g1
  | _=>simp[Instr.sureAddr] at g1
variable {fn:Func} {rs:List ResultVar}
theorem Ajz (r:Eu E β st a w) (hrs:fn.results=rs.toArray) (hc:Wp P st rs) :
 ∃v,(results fn a.tmps).run P w=.ok v w/\Ec (E.C β st w) (Lg P st rs) v:=by
 have hall:∀(rs:List ResultVar),Wp P st rs->∃vs:List Value,(rs.mapM (fun x=>(match x with | .tmp t=>pure (a.tmps.getD t undef) | .cell ad t=>do loadVar t (<- asAddr (a.tmps.getD ad undef)):Sem Value))).run P w=.ok vs w/\vs.length=rs.length /\
  ∀(i:Nat) (x:ResultVar) (v:Value),rs[i]? = some x->vs[i]? = some v->Ec (E.C β st w) (Aah P st x).v v:=by
  intro rs
  induction rs with
  | nil=>intro _;exact⟨[],rfl,rfl,fun i x v h=>by simp at h⟩
  | cons x rs ih =>
   intro⟨h1,h2⟩
   obtain⟨v,g1,g2⟩:=At3 r h1
   obtain⟨vs,q1,q2,q3⟩:=ih h2
   refine⟨v::vs,?_,by simp[q2],fun i y u hy hu=>?_⟩
   ·rw[List.mapM_cons]
    simp only[Sem.run_bind]
    rw[g1]
    simp only[Result.andThen_ok]
    rw[q1]
    rfl
   cases i with
   | zero=>simp at hy hu;subst hy hu;exact g2
   | succ i=>simp at hy hu;exact q3 i y u hy hu
 obtain⟨vs,h1,h2,h3⟩:=hall rs hc
 refine⟨if h:vs.toArray.size=1 then vs.toArray[0] else .tuple vs.toArray,?_,?_⟩
 ·unfold results
  rw[hrs,List.mapM_toArray]
  simp only[map_eq_pure_bind,bind_assoc,pure_bind,Sem.run_bind]
  exact congrArg (fun r=>Result.andThen r fun (a:List Value) w'=>Sem.run P (pure (if h:a.toArray.size=1 then a.toArray[0] else Value.tuple a.toArray)) w') h1
 match rs,h2,h3 with
 | [],h2,h3 =>
  have:vs=[]:=List.eq_nil_of_length_eq_zero h2
  subst this
  exact .tup _ _ rfl fun i c u h=>by simp at h
 | [x],h2,h3 =>
  obtain⟨v,rfl⟩:∃v,vs=[v]:=by
   match vs,h2 with
   | [v],_=>exact⟨v,rfl⟩
  exact h3 0 x v rfl rfl
 | x::y::rs,h2,h3 =>
  have hne:¬vs.toArray.size=1:=by simp at h2 ⊢;omega
  rw[dif_neg hne]
  refine .tup _ _ (by simp at h2 ⊢;omega) fun i c u hc hu=>?_
  rw[Ap] at hc
  cases hq:(x::y::rs)[i]? with
  | none=>rw[hq] at hc;cases hc
  | some z =>
   rw[hq] at hc
   simp only[Ai,Option.some.injEq] at hc
   subst hc
   exact h3 i z u hq (by simpa using hu)
def Sg (P:Program) (m:Nat) (rs:List ResultVar) (σr:List Ob) (res:AV) (e:Exit) (st:St):Prop :=
 (e=.normal\/e=.ret)/\Wp P st rs/\∃sel,Ajc ⟨[(0,Lg P st rs)],st.ob⟩ sel ⟨[(0,res)],σr⟩/\∀id,id<m->sel[id]? = some id
theorem Eu.shut (r:Eu E β st a w) {D:Nat} {ds:List Nat} (hds:E.ds=D::ds) :
 Eu { E with ds:=ds,kb:=fun b=>if b=D then none else E.kb b } β st ⟨a.tmps,ds.map dmk⟩ (w.putObj D (.deferred none)):=by
 have hD:=r.dk.2 D (by rw[hds];simp)
 have hDw:=r.kb D _ hD.1
 have hsz:(w.putObj D (.deferred none)).heap.size=w.heap.size:=by simp[World.putObj]
 have hfar:∀b,b≠D->(w.putObj D (.deferred none)).heap[b]? = w.heap[b]?:=fun b hb=>World.putObj_heap_other hb
 have hcell:∀b cur ty fz,w.heap[b]? = some (.cells cur ty fz)->b≠D:=fun b cur ty fz h e=>by
  subst e
  rw[h] at hDw
  have:=hDw.2
  rw[show (.deferred (some []):Obj)=.cells cur ty fz from (Option.some.inj hDw.1).symm] at this
  cases this
 have s:Yb (E.C β st w) (E.C β st (w.putObj D (.deferred none))):=by
  refine⟨rfl,fun _ h=>h,fun _ h=>h,fun _ h=>h,Nat.le_of_eq hsz.symm,fun b _ h=>h,fun b cur ty fz _ _ h=>(hfar b (hcell b _ _ _ h)).trans h,fun id ty cs h=>⟨⟨cs,h⟩,rfl⟩,fun id ty k fr fz es h=>⟨fr,fz,es,h,Aj _,fun _=>⟨rfl,fun b cur hb hc=>⟨cur,(hfar b (hcell b _ _ _ hc)).trans hc,rfl⟩⟩⟩⟩
 refine⟨r.sz,fun t=>(r.sl t).stepW s,rfl,fun id=>?_,r.inj,fun i b hi hb=>?_,?_,r.ct.stepW s,fun b o h=>?_,?_⟩
 ·have hr:=r.ob id
  cases hq:st.o id with
  | gone=>trivial
  | box ty cs =>
   rw[hq] at hr
   refine hr.stepW s rfl fun b hb=>?_
   obtain⟨b',cur,q1,q2,_⟩:=hr
   have q1:β id=some b':=q1
   have hb:β id=some b:=hb
   rw[hb] at q1
   injection q1 with q1
   subst q1
   exact hfar b (hcell b _ _ _ q2)
  | row ty k fr fz es =>
   rw[hq] at hr
   refine hr.stepW s rfl fun b hb=>?_
   have h2:=hr.2
   rw[hb] at h2
   obtain⟨cur,c,q2,_⟩:=h2
   exact hfar b (hcell b _ _ _ q2)
 ·have:=r.rng i b hi hb
  exact⟨by rw[hsz];exact this.1,this.2⟩
 ·have h:=r.kp
  have h2:=hD.2
  exact⟨h.os,h.tape,h.output,by have h3:=h.size;show E.w0.heap.size<=(w.putObj D (.deferred none)).heap.size;rw[hsz];exact h3,fun b hb hm=>(hfar b (by have hb:b<E.w0.heap.size:=hb;omega)).trans (h.block b hb hm)⟩
 ·have h:(if b=D then none else E.kb b)=some o:=h
  by_cases e:b=D
  ·rw[if_pos e] at h;cases h
  rw[if_neg e] at h
  exact⟨(hfar b e).trans (r.kb b o h).1,(r.kb b o h).2⟩
 have h1:=r.dk.1
 rw[hds] at h1
 obtain⟨h2,h3⟩:=List.nodup_cons.1 h1
 refine⟨h3,fun D' hD'=>?_⟩
 have:=r.dk.2 D' (by rw[hds];simp[hD'])
 refine⟨?_,this.2⟩
 show (if D'=D then none else E.kb D')=_
 rw[if_neg fun e=>h2 (by rw[<- e];exact hD')]
 exact this.1
theorem Ac4 {E0:Gs} {fn:Func} {rs:List ResultVar} (hrs:fn.results=rs.toArray) {m:Nat} {σr:List Ob} {res:AV} (hE:∀id,m<=id->E0.o0 id=.gone) (h0:∀b o,E0.kb b=some o->b<E0.w0.heap.size) (h0d:E0.ds=[]) {R:Ending->World->Prop} (hR:∀v β' w',Eu { E0 with n:=1 } β' ⟨[(0,res)],σr⟩ ⟨#[v],[]⟩ w'->R (.returned v) w'):∀(ds:List Nat) (E:Gs) (β:Nat->Option Nat) (st:St) (a:Act) (w:World),Hs { E0 with n:=fn.ntmps } E->E.ds=ds->Eu E β st a w->Wp P st rs->(∃sel,Ajc ⟨[(0,Lg P st rs)],st.ob⟩ sel ⟨[(0,res)],σr⟩/\∀id,id<m->sel[id]? = some id) ->
 LeavesInM Fence.wide 0 P fn a.tmps R (ds.map dmk) .returning w
 | [],E,β,st,a,w,hle,hds,r,hc,⟨sel,hw,hm⟩=>by
  obtain⟨v,g1,g2⟩:=Ajz r hrs hc
  have hle':=hle
  obtain⟨⟨ds1,kb1,rfl⟩,hkb⟩:=hle'
  have r3:Eu { E0 with n:=1 } β ⟨[(0,Lg P st rs)],st.ob⟩ ⟨#[v],[]⟩ w:=by
   refine⟨rfl,fun t=>?_,by show []=E0.ds.map dmk;rw[h0d];rfl,r.ob,r.inj,r.rng,r.kp,r.ct,fun b o h=>r.kb b o (hkb b o h),by show E0.ds.Nodup/\_;rw[h0d];exact⟨List.nodup_nil,fun D h=>by cases h⟩⟩
   cases t with
   | zero=>exact g2
   | succ t=>exact .any _
  obtain⟨β2,r4⟩:=r3.weak hw fun id hid=>hm id (Nat.lt_of_not_le fun hle2=>hid (hE id hle2))
  exact⟨v,g1,hR v β2 w r4⟩
 | D::ds,E,β,st,a,w,hle,hds,r,hc,hw=>by
  have hD:=r.dk.2 D (by rw[hds];simp)
  have hDw:=(r.kb D _ hD.1).1
  refine⟨by simp,.inl ⟨D,_,rfl,run_takeDeferred hDw,?_⟩⟩
  have hle':=hle
  obtain⟨⟨ds1,kb1,rfl⟩,hkb⟩:=hle'
  exact Ac4 hrs hE h0 h0d hR ds _ β st ⟨a.tmps,ds.map dmk⟩ _ ⟨⟨_,_,rfl⟩,fun b o h=>by
   have h1:=h0 b o h
   have h2:E0.w0.heap.size<=D:=hD.2
   show (if b=D then none else kb1 b)=some o
   rw[if_neg (by omega)]
   exact hkb b o h⟩ rfl (r.shut hds) hc hw
theorem Afo {f:FuncId} {c:Code} {args:List AV} {σa σr:List Ob} {res:AV} (hf:P.funcs[f]? = some fn) (hb:fn.body=some c) (hn:(fn.name == "runtime.NumGoroutine")=false) (hrs:fn.results=rs.toArray) (hk:args.length<=fn.ntmps) (h:VW P fn.ntmps σa.length c ⟨Ic 0 args,σa⟩ (Sg P σa.length rs σr res)):E7 P f σa args σr res:=by
 refine⟨⟨fn,hf,by rw[hb];rfl,hn⟩,fun E β us hen ho hβ r=>?_⟩
 have hsz:us.size=args.length:=r.sz.trans hen
 have hds:E.ds=[]:=by
  have:=r.df
  cases hq:E.ds with
  | nil=>rfl
  | cons x xs=>rw[hq] at this;cases this
 refine (callsIn_wide (n:=0)).1 (callsIn_of_wp_marks hf hb trivial ?_)
 have r':Eu { E with n:=fn.ntmps } β ⟨Ic 0 args,σa⟩ ⟨us++Array.replicate (fn.ntmps - us.size) undef,[]⟩ E.w0:=by
  refine⟨by simp[hsz];omega,fun t=>?_,r.df,r.ob,r.inj,r.rng,r.kp,r.ct,r.kb,r.dk⟩
  have hr:=r.sl t
  by_cases ht:t<us.size
  ·show Ec _ _ ((us++Array.replicate (fn.ntmps - us.size) undef).getD t undef)
   rw[Av,Bk ht,<- Av]
   exact hr
  have:E9 (Ic 0 args) t=.any:=by
   rw[Lx,Nat.sub_zero,if_pos (Ae _),Ad,Ar (by omega)];rfl
  show Ec _ (E9 (Ic 0 args) t) _
  rw[this]
  exact .any _
 have hE:∀id,σa.length<=id->E.o0 id=.gone:=fun id hid=>by
  rw[ho]
  exact Hf ⟨[],σa⟩ id hid
 have h0:∀b o,E.kb b=some o->b<E.w0.heap.size:=fun b o h=>(Aw.1 (r.kb b o h).1).1
 refine wpIn_mono (h { E with n:=fn.ntmps } Fence.wide ⟨rfl,hE⟩ (.inl rfl) β _ _ r') fun e a w ⟨E',s,β1,hle,h1,h2⟩=>?_
 obtain⟨he,hc,hw⟩:=h1
 have key:LeavesInM Fence.wide 0 P fn a.tmps (fun e w'=>∃v β',e=.returned v/\Eu { E with n:=1 } β' ⟨[(0,res)],σr⟩ ⟨#[v],[]⟩ w') a.defers .returning w:=by
  rw[h2.df]
  exact Ac4 (E0:=E) hrs hE h0 hds (fun v β' w' h=>⟨v,β',rfl,h⟩) E'.ds E' β1 s a w hle rfl h2 hc hw
 rcases he with rfl | rfl<;>exact key
end
section
variable {P:Program} {d:Option Tmp} {ty:TypeId} {os:List VO} {st:St} {K:St->Prop}
theorem Awk:runs P [] st K=K st:=rfl
def Awn (P:Program) (d:Option Tmp) (op:Op) (ty:TypeId) (v:AV) (want:Bool) (os:List VO) (st:St) (K:St->Prop):Prop :=
 Ik v.sv=true/\((v.sb&&(Fh v.sv == want))=true->Ht P op ty st st.ob.length) /\
  runs P os (st.after d (.gd (v.sb&&(Fh v.sv == want)) (I0 P op ty st st.ob.length).1) (bif (v.sb&&(Fh v.sv == want)) then (I0 P op ty st st.ob.length).2 else [])) K
def Ay1 (P:Program) (d:Option Tmp) (op:Op) (ty:TypeId) (os:List VO) (st:St) (K:St->Prop):Prop :=
 ∃e:AV×List (Nat×Ob),V4 P op ty st st.ob.length e/\runs P os (st.after d e.1 e.2) K
def Aap (P:Program) (d:Option Tmp) (op:Op) (ty:TypeId) (v:AV) (want:Bool) (os:List VO) (st:St) (K:St->Prop):Prop :=
 Ik v.sv=true/\∃e:AV×List (Nat×Ob),((v.sb&&(Fh v.sv == want))=true->V4 P op ty st st.ob.length e)/\runs P os (st.after d (.gd (v.sb&&(Fh v.sv == want)) e.1) (bif (v.sb&&(Fh v.sv == want)) then e.2 else [])) K
theorem Azs {op:Op}:runs P (⟨d,op,ty,.no⟩::os) st K=if Ff op=true then Ay1 P d op ty os st K else (Ht P op ty st st.ob.length/\runs P os (st.after d (I0 P op ty st st.ob.length).1 (I0 P op ty st st.ob.length).2) K):=by
 simp only[runs,St.gc,St.gb,St.afterG,true_and,forall_const,Ay1]
variable {t:Tmp}
theorem Azt {op:Op} {want:Bool}:runs P (⟨d,op,ty,.at t want⟩::os) st K=if Ff op=true then Aap P d op ty (E9 st.sl t) want os st K else Awn P d op ty (E9 st.sl t) want os st K:=by
 simp only[runs,St.gc,St.gb,St.afterG,Awn,Aap]
 split<;>simp only[and_true,true_and]
theorem E7.le {f:FuncId} {σa:List Ob} {args args':List AV} {σr:List Ob} {res:AV} (h:E7 P f σa args' σr res) (ha:Rc args args'):E7 P f σa args σr res:=by
 refine⟨h.1,fun E β us hn ho hβ r=>h.2 E β us (by rw[hn,ha.length]) ho hβ ⟨r.sz,fun t=>?_,r.df,r.ob,r.inj,r.rng,r.kp,r.ct,r.kb,r.dk⟩⟩
 have hr:=r.sl t
 have hr:Ec (E.C β ⟨Ic 0 args',σa⟩ E.w0) (E9 (Ic 0 args) t) (us.getD t undef):=hr
 show Ec _ (E9 (Ic 0 args') t) _
 rw[Lx,Nat.sub_zero,if_pos (Ae _),Ad] at hr ⊢
 cases hq:args'[t]? with
 | none=>exact .any _
 | some c' =>
  obtain⟨c,g1,g2⟩:=ha.get hq
  rw[g1] at hr
  exact g2 _ _ hr
variable {op:BinOp} {f:Nat} {ps:List (Nat×Operand)} {n:Nat} {fi cs:List Operand} {ts:Array TypeId}
section
variable {nid:Nat} {x y z c a b:Operand} {t u:TypeId}
theorem Au9:Ht P (.move x) ty st nid=((st.raw x).sb=true/\True):=rfl
theorem Au3:I0 P (.move x) ty st nid=(Ai7 P ty (st.raw x).sv,[]):=rfl
theorem App:Ht P (.assign x) ty st nid=((st.raw x).sb=true/\True):=rfl
theorem Apn:I0 P (.assign x) ty st nid=(Ai7 P ty (st.raw x).sv,[]):=rfl
theorem Ary:Ht P (.alloc t) ty st nid=(zok P t=true):=by simp[Ht,Qy,Nw,Aqg,Op.operands]
theorem Art:I0 P (.alloc t) ty st nid=(.ptr nid 0,[(nid,.box t (Hj P t))]):=rfl
theorem Ays:Ht P (.box t x) ty st nid=((st.raw x).sb=true/\∀c∈(st.raw x).sv.cl,c.one=true):=rfl
theorem Ayo:I0 P (.box t x) ty st nid=(.ptr nid 0,[(nid,.box t (st.raw x).sv.cl)]):=rfl
theorem Avb:Ht P (.load t x) ty st nid=((st.raw x).sb=true/\(J9 P t (st.raw x).sv st.o).c):=rfl
theorem Au5:I0 P (.load t x) ty st nid=((J9 P t (st.raw x).sv st.o).v,(J9 P t (st.raw x).sv st.o).up):=rfl
theorem Aru:Ht P (.store t x y) ty st nid=(((st.raw x).sb=true/\(st.raw y).sb=true)/\(It P t (st.raw x).sv (Ai7 P t (st.raw y).sv) st.o).c):=rfl
theorem Arp:I0 P (.store t x y) ty st nid=((It P t (st.raw x).sv (Ai7 P t (st.raw y).sv) st.o).v,(It P t (st.raw x).sv (Ai7 P t (st.raw y).sv) st.o).up):=rfl
theorem Aja:Ht P (.nilCheck x) ty st nid=((st.raw x).sb=true/\(Aik (st.raw x).sv).c):=rfl
theorem Ai8:I0 P (.nilCheck x) ty st nid=((Aik (st.raw x).sv).v,(Aik (st.raw x).sv).up):=rfl
theorem Arx:Ht P (.binOp op t x y u) ty st nid=(((st.raw x).sb=true/\(st.raw y).sb=true)/\(Ak7 P op t (st.raw x).sv (st.raw y).sv).c):=rfl
theorem Ars:I0 P (.binOp op t x y u) ty st nid=((Ak7 P op t (st.raw x).sv (st.raw y).sv).v,(Ak7 P op t (st.raw x).sv (st.raw y).sv).up):=rfl
theorem Au7 {op:UnOp}:Ht P (.unOp op t x) ty st nid=((st.raw x).sb=true/\(vun op (st.raw x).sv).c):=rfl
theorem Au1 {op:UnOp}:I0 P (.unOp op t x) ty st nid=((vun op (st.raw x).sv).v,(vun op (st.raw x).sv).up):=rfl
theorem Amx:Ht P (.convert t u x) ty st nid=((st.raw x).sb=true/\(Ss P t u (st.raw x).sv st.o).c):=rfl
theorem Amr:I0 P (.convert t u x) ty st nid=((Ss P t u (st.raw x).sv st.o).v,(Ss P t u (st.raw x).sv st.o).up):=rfl
theorem Ahz:Ht P (.fieldAddr t x f) ty st nid=((st.raw x).sb=true/\(Qj P t (st.raw x).sv f st.o).c):=rfl
theorem Ahv:I0 P (.fieldAddr t x f) ty st nid=((Qj P t (st.raw x).sv f st.o).v,(Qj P t (st.raw x).sv f st.o).up):=rfl
theorem Ahy:Ht P (.indexAddr t x y) ty st nid=(((st.raw x).sb=true/\(st.raw y).sb=true)/\(Qi P t (st.raw x).sv (st.raw y).sv st.o).c):=rfl
theorem Ahu:I0 P (.indexAddr t x y) ty st nid=((Qi P t (st.raw x).sv (st.raw y).sv st.o).v,(Qi P t (st.raw x).sv (st.raw y).sv st.o).up):=rfl
theorem Amw {i:Nat}:Ht P (.extract x i) ty st nid=((st.raw x).sb=true/\(Ak5 (st.raw x).sv i).c):=rfl
theorem Amq {i:Nat}:I0 P (.extract x i) ty st nid=((Ak5 (st.raw x).sv i).v,(Ak5 (st.raw x).sv i).up):=rfl
theorem Au8:Ht P (.pick c a b) ty st nid=(Aau (st.raw c) (st.raw a) (st.raw b)).c:=rfl
theorem Au2:I0 P (.pick c a b) ty st nid=((Aau (st.raw c) (st.raw a) (st.raw b)).v,[]):=rfl
theorem Arw:Ht P (.build t ps.toArray) ty st nid=((ps.all fun p=>(st.raw p.2).sb)=true/\(Aci P t (ps.map fun p=>(p.1,(st.raw p.2).sv))).c):=by simp[Ht,Qy,Nw,Op.operands]
theorem Arr:I0 P (.build t ps.toArray) ty st nid=(.agg (Ad5 (tpl P t) (Hj P t) (ps.map fun p=>(p.1,(st.raw p.2).sv))),[]):=rfl
theorem Afa:Ht P (.buildSlice t n ps.toArray) ty st nid=((ps.all fun p=>(st.raw p.2).sb)=true/\(Adk P t n (ps.map fun p=>(p.1,(st.raw p.2).sv)) nid).c):=by simp[Ht,Qy,Nw,Op.operands]
theorem Ae9:I0 P (.buildSlice t n ps.toArray) ty st nid=((Adk P t n (ps.map fun p=>(p.1,(st.raw p.2).sv)) nid).v,(Adk P t n (ps.map fun p=>(p.1,(st.raw p.2).sv)) nid).up):=rfl
theorem Ajb {f:FuncId}:Ht P (.makeFunc (.func f) fi.toArray cs.toArray) ty st nid=((fi.all fun x=>(st.raw x).sb)=true/\(cs.all fun x=>(st.raw x).sb)=true/\fi=[]):=by simp[Ht,Qy,Nw,Op.operands,and_assoc]
theorem Ai9 {f:FuncId}:I0 P (.makeFunc (.func f) fi.toArray cs.toArray) ty st nid=(.fn f (cs.map fun x=>(st.raw x).sv),[]):=rfl
theorem Ahx:Ht P (.makeSlice t x y) ty st nid=(((st.raw x).sb=true/\(st.raw y).sb=true)/\(V8 P t (st.raw x).sv (st.raw y).sv nid).c):=by simp[Ht,Qy,Nw,Op.operands]
theorem Aht:I0 P (.makeSlice t x y) ty st nid=((V8 P t (st.raw x).sv (st.raw y).sv nid).v,(V8 P t (st.raw x).sv (st.raw y).sv nid).up):=rfl
theorem Amv:Ht P (.slice t x none none none) ty st nid=((st.raw x).sb=true/\(Iu P t (st.raw x).sv none none st.o).c):=by simp[Ht,Qy,Nw,Op.operands]
theorem Amp:I0 P (.slice t x none none none) ty st nid=((Iu P t (st.raw x).sv none none st.o).v,(Iu P t (st.raw x).sv none none st.o).up):=rfl
theorem Amt:Ht P (.slice t x (some y) none none) ty st nid=(((st.raw x).sb=true/\(st.raw y).sb=true)/\(Iu P t (st.raw x).sv (some (st.raw y).sv) none st.o).c):=by simp[Ht,Qy,Nw,Op.operands]
theorem Amn:I0 P (.slice t x (some y) none none) ty st nid=((Iu P t (st.raw x).sv (some (st.raw y).sv) none st.o).v,(Iu P t (st.raw x).sv (some (st.raw y).sv) none st.o).up):=rfl
theorem Amu:Ht P (.slice t x none (some y) none) ty st nid=(((st.raw x).sb=true/\(st.raw y).sb=true)/\(Iu P t (st.raw x).sv none (some (st.raw y).sv) st.o).c):=by simp[Ht,Qy,Nw,Op.operands]
theorem Amo:I0 P (.slice t x none (some y) none) ty st nid=((Iu P t (st.raw x).sv none (some (st.raw y).sv) st.o).v,(Iu P t (st.raw x).sv none (some (st.raw y).sv) st.o).up):=rfl
theorem Ams:Ht P (.slice t x (some y) (some z) none) ty st nid=(((st.raw x).sb=true/\(st.raw y).sb=true/\(st.raw z).sb=true)/\(Iu P t (st.raw x).sv (some (st.raw y).sv) (some (st.raw z).sv) st.o).c):=by simp[Ht,Qy,Nw,Op.operands]
theorem Amm:I0 P (.slice t x (some y) (some z) none) ty st nid=((Iu P t (st.raw x).sv (some (st.raw y).sv) (some (st.raw z).sv) st.o).v,(Iu P t (st.raw x).sv (some (st.raw y).sv) (some (st.raw z).sv) st.o).up):=rfl
theorem Ayr:Ht P (.call ⟨.builtin .len,#[x],#[t]⟩) ty st nid=((st.raw x).sb=true/\(Aef P t (st.raw x).sv st.o).c):=by simp[Ht,Qy,Nw,Op.operands,Call.operands]
theorem Ayn:I0 P (.call ⟨.builtin .len,#[x],#[t]⟩) ty st nid=((Aef P t (st.raw x).sv st.o).v,(Aef P t (st.raw x).sv st.o).up):=rfl
theorem Apq:Ht P (.call ⟨.builtin .append,#[x,y],#[t,t]⟩) ty st nid=(((st.raw x).sb=true/\(st.raw y).sb=true)/\(Acj P t (st.raw x).sv (st.raw y).sv st.o nid).c):=by simp[Ht,Qy,Nw,Op.operands,Call.operands]
theorem Apo:I0 P (.call ⟨.builtin .append,#[x,y],#[t,t]⟩) ty st nid=((Acj P t (st.raw x).sv (st.raw y).sv st.o nid).v,(Acj P t (st.raw x).sv (st.raw y).sv st.o nid).up):=rfl
theorem Arv:Ht P (.call ⟨.builtin .clear,#[x],#[t]⟩) ty st nid=((st.raw x).sb=true/\(Qk P t (st.raw x).sv st.o).c):=by simp[Ht,Qy,Nw,Op.operands,Call.operands]
theorem Arq:I0 P (.call ⟨.builtin .clear,#[x],#[t]⟩) ty st nid=((Qk P t (st.raw x).sv st.o).v,(Qk P t (st.raw x).sv st.o).up):=rfl
theorem Avc:Ht P (.call ⟨.builtin .copy,#[x,y],#[t,u]⟩) ty st nid=(((st.raw x).sb=true/\(st.raw y).sb=true)/\(V9 P t (st.raw x).sv (st.raw y).sv st.o).c):=by simp[Ht,Qy,Nw,Op.operands,Call.operands]
theorem Au6:I0 P (.call ⟨.builtin .copy,#[x,y],#[t,u]⟩) ty st nid=((V9 P t (st.raw x).sv (st.raw y).sv st.o).v,(V9 P t (st.raw x).sv (st.raw y).sv st.o).up):=rfl
theorem Ayp:Ht P (.call ⟨.builtin .min,#[x,y],ts⟩) ty st nid=(((st.raw x).sb=true/\(st.raw y).sb=true)/\(Hl false (st.raw x).sv (st.raw y).sv).c):=by simp[Ht,Qy,Nw,Op.operands,Call.operands]
theorem Ayl:I0 P (.call ⟨.builtin .min,#[x,y],ts⟩) ty st nid=((Hl false (st.raw x).sv (st.raw y).sv).v,(Hl false (st.raw x).sv (st.raw y).sv).up):=rfl
theorem Ava:Ht P (.call ⟨.builtin .min,#[x,y,z],ts⟩) ty st nid=(((st.raw x).sb=true/\(st.raw y).sb=true/\(st.raw z).sb=true)/\(Hl false (st.raw x).sv (st.raw y).sv).c/\(Hl false (Hl false (st.raw x).sv (st.raw y).sv).v (st.raw z).sv).c):=by simp[Ht,Qy,Nw,Avu,Op.operands,Call.operands]
theorem Au4:I0 P (.call ⟨.builtin .min,#[x,y,z],ts⟩) ty st nid=((Hl false (Hl false (st.raw x).sv (st.raw y).sv).v (st.raw z).sv).v,[]):=rfl
theorem Ayq:Ht P (.call ⟨.builtin .max,#[x,y],ts⟩) ty st nid=(((st.raw x).sb=true/\(st.raw y).sb=true)/\(Hl true (st.raw x).sv (st.raw y).sv).c):=by simp[Ht,Qy,Nw,Op.operands,Call.operands]
theorem Aym:I0 P (.call ⟨.builtin .max,#[x,y],ts⟩) ty st nid=((Hl true (st.raw x).sv (st.raw y).sv).v,(Hl true (st.raw x).sv (st.raw y).sv).up):=rfl
theorem Axk:Ff (.move x)=false:=rfl
theorem Aq9:Ff (.assign x)=false:=rfl
theorem Auk:Ff (.alloc t)=false:=rfl
theorem A0e:Ff (.box t x)=false:=rfl
theorem Axl:Ff (.load t x)=false:=rfl
theorem Auf:Ff (.store t x y)=false:=rfl
theorem Al7:Ff (.nilCheck x)=false:=rfl
theorem Auj:Ff (.binOp op t x y u)=false:=rfl
theorem Axi {op:UnOp}:Ff (.unOp op t x)=false:=rfl
theorem Ao4:Ff (.convert t u x)=false:=rfl
theorem Ai6:Ff (.fieldAddr t x f)=false:=rfl
theorem Ai5:Ff (.indexAddr t x y)=false:=rfl
theorem Ao3:Ff (.extract x f)=false:=rfl
theorem Axj:Ff (.pick c a b)=false:=rfl
theorem Aui {ps:Array (Nat×Operand)}:Ff (.build t ps)=false:=rfl
theorem Ahf {ps:Array (Nat×Operand)}:Ff (.buildSlice t f ps)=false:=rfl
theorem Al8 {f:Fn} {fi cs:Array Operand}:Ff (.makeFunc f fi cs)=false:=rfl
theorem Ai4:Ff (.makeSlice t x y)=false:=rfl
theorem Aug {l1 l2 l3:Option Operand}:Ff (.slice t x l1 l2 l3)=false:=rfl
theorem Auh {f:Builtin} {fi:Array Operand}:Ff (.call ⟨.builtin f,fi,ts⟩)=false:=rfl
theorem Axm {fo:Operand} {fi:Array Operand}:Ff (.call ⟨.value fo,fi,ts⟩)=true:=rfl
end
theorem Az0:st.raw (.tmp t)=E9 st.sl t:=rfl
theorem Az2 {k:IntKind} {n:Int}:st.raw (.const (.int k n))=.lit (.int k n):=rfl
theorem Aw2 {b:Bool}:st.raw (.const (.bool b))=.lit (.bool b):=rfl
theorem Aq0 {b:ByteArray}:st.raw (.const (.string b))=.lit (.string b):=rfl
theorem Az1:st.raw (.const (.slice none 0 0))=.nil 0:=rfl
theorem Aw1 {f:FuncId}:st.raw (.func f)=.fn f []:=rfl
theorem Aue {p:Nat×AV} {l:List (Nat×AV)} {t:Nat}:E9 (p::l) t=bif p.1 == t then p.2 else E9 l t:=rfl
variable {up:List (Nat×Ob)} {ob:List Ob}
theorem Arn {v:AV} {sl:List (Nat×AV)}:(St.mk sl ob).after (some t) v up=(St.mk ((t,v)::sl) ob).sets up:=rfl
theorem Aro {v:AV}:st.after none v up=st.sets up:=rfl
theorem Awe:st.sets []=st:=rfl
theorem Ats {id:Nat} {o:Ob} {l:List (Nat×Ob)} {sl:List (Nat×AV)}:(St.mk sl ob).sets ((id,o)::l)=(St.mk sl (P3 ob id o)).sets l:=rfl
theorem A7q {sl:List (Nat×AV)} {id:Nat}:(St.mk sl ob).o id=ob.getD id .gone:=rfl
theorem Awg {x:Ob}:P3 [] 0 x=[x]:=rfl
variable {l:List Ob}
theorem Atu {y x:Ob}:P3 (y::l) 0 x=x::l:=rfl
theorem Atv {y x:Ob}:P3 (y::l) (n+1) x=y::P3 l n x:=rfl
variable {α:Type}
theorem Awh (cs:List α) (n:Nat):K4 cs n []=cs:=rfl
theorem Atx (cs:List α) (n:Nat) (v:α) (vs:List α):K4 cs n (v::vs)=K4 (cs.set n v) (n+1) vs:=rfl
attribute [go_sem] Awk Azs Azt Awn Axk Aq9 Auk A0e Axl Auf Al7 Auj Axi Ao4 Ai6 Ai5 Ao3 Axj Aui Ahf Al8 Ai4 Aug Auh Axm Gh Oi St.gb St.gc Au9 Au3 App Apn Ary Art Ays Ayo Avb Au5 Aru Arp Aja Ai8 Arx Ars Au7 Au1 Amx Amr Ahz Ahv Ahy Ahu Amw Amq Au8 Au2 Arw Arr Afa Ae9 Ajb Ai9 Ahx Aht Amv Amp Amt Amn Amu Amo Ams Amm Ayr Ayn Apq Apo Arv Arq Avc Au6 Ayp Ayl Ayq Aym Az0 Az2 Aw2 Aq0 Az1 Aw1 Aue Arn Aro Awe Ats A7q Awg Atu Atv Awh Atx Ava Au4
attribute [go_sem] AV.sv AV.sb AV.cl AV.one AV.toT AV.laid AV.fresh Ai7 Fy Ow Fh Ik J9 It Aik Ak7 Aul Al9 A2r Aqd vun Ss Qj Qi Ak5 Aau Aci Adk V8 Iu Aef Nx Acj Rw Qk Mf V9 Ps Hl ldv ldc Mp.bad T.av Gw Q4 Ae1 Lu At2 T4 F8 R9 Ub Ad5 As5 E9 Ic
theorem A7d {rs:List ResultVar} {res:AV} (hc:Wp P st rs) (h:Le ((Lg P st rs).ren fun _=>none) res):Sg P 0 rs [] res .ret st :=
 ⟨.inr rfl,hc,[],⟨.cons h .nil,fun j hj=>by simp at hj,rfl,List.nodup_nil⟩,fun id hid=>by omega⟩
attribute [go_sem] Wp Aah Lg AV.ren Om
attribute [go_sem] List.map_cons List.map_nil List.getElem?_toArray Bb List.getElem?_cons_zero Option.bind_some true_and and_true eq_self Bl if_false if_true cond_true cond_false List.getD_cons_zero List.getD_cons_succ A6 List.length_nil List.all_cons List.all_nil
abbrev AV.li (x:Int):AV:=.lit (.int .i64 x)
abbrev T.li (x:Int):T:=.lit (.int .i64 x)
abbrev AV.lb (x:Bool):AV:=.lit (.bool x)
abbrev T.lb (x:Bool):T:=.lit (.bool x)
attribute [go_sem] AV.li T.li AV.lb T.lb
end
section
variable {P:Program}
theorem Ahi {cs:List AV} {c:AV} (h:c∈cs) {x:Nat} (hx:x∈c.ids):x∈Ha cs:=by
 induction cs with
 | nil=>cases h
 | cons d ds ih =>
  cases h with
  | head=>simp[Ha,hx]
  | tail _ h=>simp[Ha,ih h]
theorem Ao8 (a b:List AV):Ha (a++b)=Ha a++Ha b:=by
 induction a with
 | nil=>rfl
 | cons c cs ih=>simp[Ha,ih]
theorem Alp:∀(v:AV) {x:Nat},x∈v.sv.ids->x∈v.ids
 | .gd t v,x,h=>by simp only[AV.ids];exact Alp v h
 | .any,x,h=>h
 | .lit _,x,h=>h
 | .nil _,x,h=>h
 | .imm _ _ _,x,h=>h
 | .own _ _,x,h=>h
 | .sub _ _ _ _,x,h=>h
 | .ptr _ _,x,h=>h
 | .rptr _ _ _ _,x,h=>h
 | .bsl _ _,x,h=>h
 | .iptr _ _ _,x,h=>h
 | .agg _,x,h=>h
 | .tup _,x,h=>h
 | .fn _ _,x,h=>h
mutual
theorem Aq3 {o o':Nat->Ob}:∀(c:AV),(∀id∈c.ids,o id=o' id)->c.pass o=c.pass o'/\c.passC o=c.passC o'
 | .own id n,h=>by have:=h id (by simp[AV.ids]);simp[AV.pass,AV.passC,this]
 | .sub id n lo m,h=>by have:=h id (by simp[AV.ids]);simp[AV.pass,AV.passC,this]
 | .agg cs,h=>by have:=Lj cs (by simpa only[AV.ids] using h);simp[AV.pass,AV.passC,this]
 | .tup cs,h=>by have:=Lj cs (by simpa only[AV.ids] using h);simp[AV.pass,AV.passC,this]
 | .fn f cs,h=>by have:=Lj cs (by simpa only[AV.ids] using h);simp[AV.pass,AV.passC,this]
 | .any,h=>by simp[AV.pass,AV.passC]
 | .lit _,h=>by simp[AV.pass,AV.passC]
 | .nil _,h=>by simp[AV.pass,AV.passC]
 | .imm _ _ _,h=>by simp[AV.pass,AV.passC]
 | .ptr _ _,h=>by simp[AV.pass,AV.passC]
 | .rptr _ _ _ _,h=>by simp[AV.pass,AV.passC]
 | .bsl _ _,h=>by simp[AV.pass,AV.passC]
 | .iptr _ _ _,h=>by simp[AV.pass,AV.passC]
 | .gd _ _,h=>by simp[AV.pass,AV.passC]
theorem Lj {o o':Nat->Ob}:∀(cs:List AV),(∀id∈Ha cs,o id=o' id)->Kd o cs=Kd o' cs/\J4 o cs=J4 o' cs
 | [],h=>by simp[Kd,J4]
 | c::cs,h=>by
  have h1:=Aq3 c fun id hid=>h id (by simp[Ha,hid])
  have h2:=Lj cs fun id hid=>h id (by simp[Ha,hid])
  simp[Kd,J4,h1,h2]
end
variable {o o':Nat->Ob} {x:AV}
theorem Yj (h:∀id∈x.ids,o id=o' id):Gw o x=Gw o' x/\Q4 o x=Q4 o' x/\∀k,Ae1 o k x=Ae1 o' k x:=by
 cases x<;>simp[Gw,Q4,Ae1]<;>simp[AV.ids] at h<;>simp[h]
variable {t:TypeId}
theorem Anh (h:∀id∈x.ids,o id=o' id):J9 P t x o=J9 P t x o':=by
 cases x<;>simp only[J9]<;>simp[AV.ids] at h<;>simp[h]
theorem Ak0 {x v:AV} (h:∀id∈x.ids,o id=o' id):It P t x v o=It P t x v o':=by
 cases x<;>simp only[It]<;>simp[AV.ids] at h<;>simp[h]
theorem Ak4 {f:Nat} (h:∀id∈x.ids,o id=o' id):Qj P t x f o=Qj P t x f o':=by
 cases x<;>simp only[Qj]<;>simp[AV.ids] at h<;>simp[h]
theorem Ak3 {x i:AV} (h:∀id∈x.ids,o id=o' id):Qi P t x i o=Qi P t x i o':=by
 cases x<;>simp only[Qi]<;>simp[AV.ids] at h<;>simp[h]
theorem Ak1 {lo hi:Option AV} (h:∀id∈x.ids,o id=o' id):Iu P t x lo hi o=Iu P t x lo hi o':=by
 cases x<;>simp only[Iu]<;>simp[AV.ids] at h<;>simp[h]
theorem Aqe (h:∀id∈x.ids,o id=o' id):Aef P t x o=Aef P t x o':=by
 cases x<;>simp only[Aef]<;>simp[AV.ids] at h<;>simp[h]
theorem Ann {t u:TypeId} (h:∀id∈x.ids,o id=o' id):Ss P t u x o=Ss P t u x o':=by
 obtain⟨h1,h2,h3⟩:=Yj h
 unfold Ss
 split
 ·rfl
 simp only[h1,h3]
variable {nid:Nat}
section
variable {d x:AV} (hd:∀id∈d.ids,o id=o' id) (h:∀id∈x.ids,o id=o' id)
include hd h
theorem Ail:Nx P t d x o nid=Nx P t d x o' nid:=by
 obtain⟨h1,h2,h3⟩:=Yj h
 cases d<;>simp only[Nx,h1,h2,h3]<;>simp[AV.ids] at hd<;>simp[hd]
theorem Aqf:Acj P t d x o nid=Acj P t d x o' nid:=by
 unfold Acj
 split
 ·obtain⟨h1,h2,h3⟩:=Yj h
  simp[AV.ids] at hd
  simp only[Rw,h1,h2,h3,hd]
 exact Ail hd h
end
theorem Ak6 {d:AV} (hd:∀id∈d.ids,o id=o' id):Qk P t d o=Qk P t d o':=by
 cases d<;>simp only[Qk,Mf]<;>simp[AV.ids] at hd<;>simp[hd]
theorem Anm {d x:AV} (hd:∀id∈d.ids,o id=o' id) (h:∀id∈x.ids,o id=o' id):V9 P t d x o=V9 P t d x o':=by
 obtain⟨h1,h2,h3⟩:=Yj h
 cases d<;>simp only[V9,Ps,h1,h2,h3]<;>simp[AV.ids] at hd<;>simp[hd]
theorem Atk {op:Op} {ty:TypeId} {raw:Operand->AV} (h:∀x∈op.operands,∀id∈(raw x).ids,o id=o' id):Nw P op ty raw o nid=Nw P op ty raw o' nid:=by
 have hs:∀x∈op.operands,∀id∈(raw x).sv.ids,o id=o' id:=fun x hx id hid=>h x hx id (Alp _ hid)
 cases op with
 | load t x=>exact Anh (hs x (by simp[Op.operands]))
 | store t x y=>exact Ak0 (hs x (by simp[Op.operands]))
 | fieldAddr s x f=>exact Ak4 (hs x (by simp[Op.operands]))
 | indexAddr t x i=>exact Ak3 (hs x (by simp[Op.operands]))
 | convert s d x=>exact Ann (hs x (by simp[Op.operands]))
 | slice t x lo hi mx=>cases mx with
  | none=>exact Ak1 (hs x (by simp[Op.operands]))
  | some m=>rfl
 | call c =>
  obtain⟨callee,args,ts⟩:=c
  cases callee with
  | value f=>rfl
  | invoke r m=>rfl
  | builtin b =>
   have hs':∀x∈args.toList,∀id∈(raw x).sv.ids,o id=o' id:=fun x hx=>hs x (by simp[Op.operands,Call.operands];simpa using hx)
   simp only[Nw]
   split
   ·rename_i x t e1 _
    exact Aqe (hs' x (by rw[e1];simp))
   ·rename_i d x t t' e1 _
    rw[Aqf (hs' d (by rw[e1];simp)) (hs' x (by rw[e1];simp))]
   ·rename_i d x t t' e1 _
    exact Anm (hs' d (by rw[e1];simp)) (hs' x (by rw[e1];simp))
   ·rename_i x t e1 _
    exact Ak6 (hs' x (by rw[e1];simp))
   ·rfl
   ·rfl
   ·rfl
   rfl
 | makeFunc f fi cs=>cases f<;>rfl
 | _=>rfl
def Add (acc:List Nat) (o:Oper):Nat:=o.after.toList.foldl (fun s e=>if Region.binds .any e then s ||| 2 ^ e.on ||| acc.getD e.on 0 else s) 0
def Ae8:List Oper->List Nat->List Nat
 | [],acc=>acc
 | o::os,acc=>Ae8 os (acc++[Add acc o])
theorem Apk:∀(os:List Oper) (acc:List Nat),∃l,Ae8 os acc=acc++l/\l.length=os.length
 | [],acc=>⟨[],by simp[Ae8],rfl⟩
 | o::os,acc=>by
  obtain⟨l,h,hl⟩:=Apk os (acc++[Add acc o])
  exact⟨Add acc o::l,by rw[Ae8,h];simp,by simp[hl]⟩
theorem Apl:∀(os:List Oper) (acc:List Nat) (j:Nat) (o:Oper),os[j]? = some o->(Ae8 os acc).getD (acc.length+j) 0=Add ((Ae8 os acc).take (acc.length+j)) o
 | [],acc,j,o,h=>by simp at h
 | p::os,acc,0,o,h=>by
  simp at h
  subst h
  obtain⟨l,h,hl⟩:=Apk os (acc++[Add acc p])
  rw[Ae8,h]
  simp
 | p::os,acc,j+1,o,h=>by
  simp at h
  have:=Apl os (acc++[Add acc p]) j o h
  rw[Ae8]
  simpa[Af,Ba 1 j] using this
theorem Akg (acc:List Nat) (i:Nat):∀(es:List Edge) (s:Nat),(es.foldl (fun s e=>if Region.binds .any e then s ||| 2 ^ e.on ||| acc.getD e.on 0 else s) s).testBit i=true->s.testBit i=true\/∃e∈es,Region.binds .any e=true/\(e.on=i\/(acc.getD e.on 0).testBit i=true)
 | [],s,h=>.inl h
 | e::es,s,h=>by
  rw[List.foldl_cons] at h
  rcases Akg acc i es _ h with h | ⟨e',h1,h2,h3⟩
  ·by_cases hb:Region.binds .any e=true
   ·rw[if_pos hb] at h
    simp only[Nat.testBit_or,Bool.or_eq_true] at h
    rcases h with (h | h) | h
    ·exact .inl h
    ·rw[Nat.testBit_two_pow] at h
     exact .inr ⟨e,by simp,hb,.inl (by simpa using h)⟩
    exact .inr ⟨e,by simp,hb,.inr h⟩
   rw[if_neg hb] at h
   exact .inl h
  exact .inr ⟨e',by simp[h1],h2,h3⟩
theorem Arm {l:List Oper} {D:Nat->Bool} (hD:∀(j:Nat) (o:Oper),l[j]? = some o->D j=true->∀e∈o.after,Region.binds .any e=true->D e.on=true) :
 ∀(j:Nat) (o:Oper),l[j]? = some o->(∀e∈o.after,Region.binds .any e=true->D e.on=true)->∀i,((Ae8 l []).getD j 0).testBit i=true->D i=true:=by
 intro j
 induction j using Nat.strongRecOn with
 | _ j ih =>
  intro o ho hready i hbit
  have hg:=Apl l [] j o ho
  simp only[List.length_nil,Bm] at hg
  rw[hg] at hbit
  rcases Akg _ i _ _ hbit with h | ⟨e,h1,h2,h3⟩
  ·simp at h
  have he:=hready e (by simpa using h1) h2
  rcases h3 with rfl | h3
  ·exact he
  by_cases hlt:e.on<j
  ·rw[Ad,Ag hlt,<- Ad] at h3
   have hjl:j<l.length:=(Ab.1 ho).1
   have hoe:=Aa (show e.on<l.length by omega)
   exact ih e.on hlt _ hoe (hD e.on _ hoe he) i h3
  rw[Ad,Ar (by rw[A5];omega)] at h3
  simp at h3
end
end Go.Proofs.YtkkimgjinbaemaaGreat
