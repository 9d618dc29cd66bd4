/- The walk. -/
import Derived.Test.YtkkimgjinbaemaaGreatKad
noncomputable section
namespace Go.Proofs.YtkkimgjinbaemaaGreat
open Go.RowKit
set_option linter.unusedVariables false
set_option linter.unusedSimpArgs false
set_option linter.defProp false
set_option linter.unusedSectionVars false
set_option maxRecDepth 100000
set_option maxHeartbeats 4000000
section
variable {P:Program}
mutual
theorem bk_id:∀(c:AV),c.bk (fun x=>x)=c
 | .own id n=>rfl
 | .sub id n lo m=>rfl
 | .ptr id off=>rfl
 | .rptr id n i off=>rfl
 | .bsl id n=>rfl
 | .agg cs=>by simp only[AV.bk];rw[Ahp cs]
 | .tup cs=>by simp only[AV.bk];rw[Ahp cs]
 | .fn f cs=>by simp only[AV.bk];rw[Ahp cs]
 | .gd t v=>by simp only[AV.bk];rw[bk_id v]
 | .any=>rfl
 | .lit v=>rfl
 | .nil k=>rfl
 | .imm fr k es=>rfl
 | .iptr fr cs off=>rfl
theorem Ahp:∀(cs:List AV),bkL (fun x=>x) cs=cs
 | []=>rfl
 | c::cs=>by simp only[bkL];rw[bk_id c,Ahp cs]
end
theorem Ob.bk_id (o:Ob):o.bk (fun x=>x)=o:=by cases o<;>simp[Ob.bk,Ahp]
variable {C C':VC}
theorem Ec.same (hh:C'.h=C.h) (ho:C'.ob=C.ob) (hβ:C'.β=C.β) (hS:∀fr b,C.S fr b->C'.S fr b) {c:AV} {u:Value} (h:Ec C c u):Ec C' c u:=by
 have:=Ec.bk (C1:=C) (C2:=C') (B:=fun x=>x) hh (fun j _=>⟨by rw[ho,Ob.bk_id],by rw[hβ]⟩) false (fun fr b _ hb=>hS fr b hb) h (fun e=>by cases e)
 rwa[Go.Proofs.YtkkimgjinbaemaaGreat.bk_id] at this
theorem Kx.same (hh:C'.h=C.h) (ho:C'.ob=C.ob) (hβ:C'.β=C.β) (hS:∀fr b,C.S fr b->C'.S fr b) {id:Nat} (h:Kx C id (C.ob id)):Kx C' id (C.ob id):=by
 have:=Kx.bk (C1:=C) (C2:=C') (B:=fun x=>x) hh (fun j _=>⟨by rw[ho,Ob.bk_id],by rw[hβ]⟩) false (fun fr b _ hb=>hS fr b hb) rfl h (fun e=>by cases e)
 rwa[Ob.bk_id] at this
variable {β:Nat->Option Nat} {st:St} {a:Act}
theorem Eu.grow {E:Gs} {w w':World} (r:Eu E β st a w) (k:Kp (fun _=>False) w w'):Eu E β st a w':=by
 have hk:∀b,b<w.heap.size->w'.heap[b]? = w.heap[b]?:=fun b hb=>k.block b hb fun h=>h
 have s:Ot (E.C β st w) (E.C β st w'):=⟨rfl,fun _ h=>h,fun _ h=>h,fun _ h=>h,k.size,fun b _ h=>h,fun b hb _=>hk b hb,fun id ty cs h=>⟨⟨cs,h⟩,rfl⟩,fun id ty k' fr fz es h=>⟨fr,fz,es,h,Aj _,fun _=>⟨rfl,fun b cur hb hc=>⟨cur,(hk b (r.rng id b (by have h:st.o id=_:=h;rw[h];simp) hb).1).trans hc,rfl⟩⟩⟩⟩
 refine r.move s rfl (fun id=>?_) r.inj (fun i b hi hb=>?_) ?_
 ·by_cases hg:st.o id=.gone
  ·rw[hg];trivial
  exact (r.ob id).step s rfl fun b hb=>hk b (r.rng id b hg hb).1
 ·have:=r.rng i b hi hb
  have:=k.size
  exact⟨by omega,by have h2:=r.rng i b hi hb;exact h2.2⟩
 have h1:=r.kp
 have h2:=h1.size
 exact⟨k.os.trans h1.os,k.tape.trans h1.tape,k.output.trans h1.output,Ak h1.size k.size,fun b hb hm=>(hk b (by omega)).trans (h1.block b hb hm)⟩
variable {w:World}
theorem Eu.putK {E:Gs} (r:Eu E β st a w) {l:Nat} {o o':Obj} (hl:E.kb l=some o) (ho':Ac0 o'=false) (hld:l∉E.ds) (hge:E.w0.heap.size<=l) :
 Eu { E with kb:=fun b=>if b=l then some o' else E.kb b } β st a (w.putObj l o'):=by
 obtain⟨hlw,hlo⟩:=r.kb l o hl
 have hlt:l<w.heap.size:=(Aw.1 hlw).1
 have hsz:(w.putObj l o').heap.size=w.heap.size:=by simp[World.putObj]
 have hfar:∀b,b≠l->(w.putObj l o').heap[b]? = w.heap[b]?:=fun b hb=>World.putObj_heap_other hb
 have hcell:∀b cur ty fz,w.heap[b]? = some (.cells cur ty fz)->b≠l:=fun b cur ty fz h e=>by
  subst e
  rw[h] at hlw
  rw[show o=.cells cur ty fz from (Option.some.inj hlw).symm] at hlo
  cases hlo
 have s:Yb (E.C β st w) (E.C β st (w.putObj l o')) :=
  ⟨rfl,fun _ h=>h,fun _ h=>h,fun _ h=>h,Nat.le_of_eq hsz.symm,fun b _ h=>h,fun b cur ty fz _ _ h=>(hfar b (hcell b _ _ _ h)).trans h,fun id ty cs h=>⟨⟨cs,h⟩,rfl⟩,fun id ty k fr fz es h=>⟨fr,fz,es,h,Aj _,fun _=>⟨rfl,fun b cur hb hc=>⟨cur,(hfar b (hcell b _ _ _ hc)).trans hc,rfl⟩⟩⟩⟩
 refine⟨r.sz,fun t=>(r.sl t).stepW s,r.df,fun id=>?_,r.inj,fun i b hi hb=>?_,?_,r.ct.stepW s,fun b o h=>?_,r.dk.1,fun D hD=>?_⟩
 ·have hr:=r.ob id
  cases hq:st.o id with
  | gone=>trivial
  | box ty cs =>
   rw[hq] at hr
   refine hr.stepW s rfl fun b hb=>?_
   obtain⟨b',cur,q1,q2,_⟩:=hr
   have q1:β id=some b':=q1
   have hb:β id=some b:=hb
   rw[hb] at q1
   injection q1 with q1
   subst q1
   exact hfar b (hcell b _ _ _ q2)
  | row ty k fr fz es =>
   rw[hq] at hr
   refine hr.stepW s rfl fun b hb=>?_
   have h2:=hr.2
   rw[hb] at h2
   obtain⟨cur,c,q2,_⟩:=h2
   exact hfar b (hcell b _ _ _ q2)
 ·have:=r.rng i b hi hb
  exact⟨by rw[hsz];exact this.1,this.2⟩
 ·have h:=r.kp
  exact⟨h.os,h.tape,h.output,by have h3:=h.size;show E.w0.heap.size<=(w.putObj l o').heap.size;rw[hsz];exact h3,fun b hb hm=>(hfar b (by have hb:b<E.w0.heap.size:=hb;omega)).trans (h.block b hb hm)⟩
 ·have h:(if b=l then some o' else E.kb b)=some o:=h
  by_cases e:b=l
  ·rw[if_pos e] at h
   injection h with h
   subst h
   rw[e]
   exact⟨World.putObj_heap_same hlt,ho'⟩
  rw[if_neg e] at h
  exact⟨(hfar b e).trans (r.kb b o h).1,(r.kb b o h).2⟩
 have:=r.dk.2 D hD
 refine⟨?_,this.2⟩
 show (if D=l then some o' else E.kb D)=_
 rw[if_neg fun e=>hld (by rw[<- e];exact hD)]
 exact this.1
def Gs.under (E:Gs) (β:Nat->Option Nat) (st:St) (W:World):Gs:=⟨W,st.o,β,fun b=>(E.C β st W).S false b,fun b=>(E.C β st W).S true b,E.n,[],E.kb⟩
variable {W:World} {sl:List (Nat×AV)}
theorem Eu.inner {E:Gs} (r:Eu E β st a W) {tmps:Array Value} (hsz:tmps.size=E.n) (hsl:∀t,Ec (E.C β st W) (E9 sl t) (tmps.getD t undef)):Eu (E.under β st W) β ⟨sl,st.ob⟩ ⟨tmps,[]⟩ W:=by
 have hS:∀sl' fr b,(E.C β st W).S fr b->((E.under β st W).C β ⟨sl',st.ob⟩ W).S fr b:=fun sl' fr b h=>⟨h.1,h.2.1,.inr (.inr ⟨VC.S_weak h,fun e=>by rw[e] at h;exact h⟩)⟩
 refine⟨hsz,fun t=>Ec.same (C:=E.C β st W) (C':=(E.under β st W).C β ⟨sl,st.ob⟩ W) rfl rfl rfl (hS _) (hsl t),rfl,fun id=>Kx.same (C:=E.C β st W) (C':=(E.under β st W).C β ⟨sl,st.ob⟩ W) rfl rfl rfl (hS _) (r.ob id),r.inj,fun i b hi hb=>⟨(r.rng i b hi hb).1,.inr ⟨i,hi,hb⟩⟩,Kp.refl _ _,⟨fun id ty cs h=>⟨⟨cs,h⟩,rfl⟩,fun id ty k fr fz es h=>⟨fr,fz,es,h,Aj _,fun _=>⟨rfl,fun b cur hb hc=>⟨cur,hc,rfl⟩⟩⟩⟩,r.kb,List.nodup_nil,fun D h=>by cases h⟩
theorem Eu.outer {E:Gs} (r:Eu E β st a W) (hlive:∀id,st.o id≠.gone->(st.o id).live) {E3:Gs} (hle:Hs (E.under β st W) E3) {β3:Nat->Option Nat} {sl3:List (Nat×AV)} {ob3:List Ob} {a3:Act} {W3:World} (r3:Eu E3 β3 ⟨sl3,ob3⟩ a3 W3) :
 Eu E β3 ⟨st.sl,ob3⟩ a W3/\(∀b,b<W.heap.size->¬(E.C β st W).lives b->W3.heap[b]? = W.heap[b]? /\ ¬(E.C β3 ⟨st.sl,ob3⟩ W3).lives b)/\W.heap.size<=W3.heap.size:=by
 obtain⟨⟨ds3,kb3,rfl⟩,hkb⟩:=hle
 have hMl:∀b,(E.under β st W).M b->(E.C β st W).lives b:=fun b ⟨id,h1,h2⟩=>⟨id,h2,hlive id h1⟩
 have hkeep:∀b,b<W.heap.size->¬(E.under β st W).M b->W3.heap[b]? = W.heap[b]?:=fun b hb hm=>r3.kp.block b hb hm
 have hsz:W.heap.size<=W3.heap.size:=r3.kp.size
 have hlv:∀b,b<W.heap.size->(E.C β3 ⟨st.sl,ob3⟩ W3).lives b->(E.C β st W).lives b:=fun b hb ⟨i,h1,h2⟩=>by
  have h2:((St.mk sl3 ob3).o i).live:=h2
  rcases (r3.rng i b (fun e=>by rw[e] at h2;exact h2) h1).2 with h3 | h3
  ·have h3:W.heap.size<=b:=h3
   omega
  exact hMl b h3
 have s:Ot (E.C β st W) (E.C β3 ⟨st.sl,ob3⟩ W3):=by
  refine⟨rfl,fun _ h=>h,fun _ h=>h,fun _ h=>h,hsz,hlv,fun b hb hn=>hkeep b hb fun hm=>hn (hMl b hm),fun id ty cs h=>r3.ct.box id ty cs h,fun id ty k fr fz es h=>r3.ct.row id ty k fr fz es h⟩
 have hS:∀fr b,(({ E.under β st W with ds:=ds3,kb:=kb3 }:Gs).C β3 ⟨sl3,ob3⟩ W3).S fr b->(E.C β3 ⟨st.sl,ob3⟩ W3).S fr b:=fun fr b h=>by
  refine⟨h.1,h.2.1,?_⟩
  have h3:W.heap.size<=b\/(E.under β st W).M b\/((E.C β st W).S false b/\(fr=true->(E.C β st W).S true b)):=h.2.2
  show E.w0.heap.size<=b\/E.M b\/_
  rcases h3 with h3 | ⟨id,h3,h4⟩ | ⟨h3,h4⟩
  ·have:=r.kp.size
   exact .inl (by omega)
  ·rcases (r.rng id b h3 h4).2 with h5 | h5
   ·exact .inl h5
   exact .inr (.inl h5)
  cases fr with
  | true=>exact (h4 rfl).2.2
  | false=>exact h3.2.2
 refine⟨⟨r.sz,fun t=>(r.sl t).step s,r.df,fun id=>Kx.same (C:=({ E.under β st W with ds:=ds3,kb:=kb3 }:Gs).C β3 ⟨sl3,ob3⟩ W3) (C':=E.C β3 ⟨st.sl,ob3⟩ W3) rfl rfl rfl hS (r3.ob id),r3.inj,fun i b hi hb=>?_,?_,r.ct.step s,fun b o h=>?_,r.dk⟩,fun b hb hn=>⟨hkeep b hb fun hm=>hn (hMl b hm),fun h=>hn (hlv b hb h)⟩,hsz⟩
 ·have h1:=r3.rng i b hi hb
  refine⟨h1.1,?_⟩
  have h2:W.heap.size<=b\/(E.under β st W).M b:=h1.2
  rcases h2 with h2 | ⟨id,h3,h4⟩
  ·have:=r.kp.size
   exact .inl (by omega)
  exact (r.rng id b h3 h4).2
 ·have h:=r.kp
  refine⟨r3.kp.os.trans h.os,r3.kp.tape.trans h.tape,r3.kp.output.trans h.output,Ak h.size hsz,fun b hb hm=>?_⟩
  have:=h.size
  refine (hkeep b (by omega) fun⟨id,h3,h4⟩=>?_).trans (h.block b hb hm)
  rcases (r.rng id b h3 h4).2 with h5 | h5
  ·omega
  exact hm h5
 exact r3.kb b o (hkb b o h)
def VCZ (W0:Nat) (Z L:Nat->Prop) (W:World):VC:=⟨W.heap,fun id=>(open Classical in if L id then .box 0 [] else .gone),some,W0,fun _=>False,Z,fun _=>False⟩
theorem Ako {W0:Nat} {Z L:Nat->Prop} {b:Nat}:(VCZ W0 Z L W).lives b<->L b:=by
 constructor
 ·rintro⟨id,h1,h2⟩
  have h1:some id=some b:=h1
  injection h1 with h1
  subst h1
  have h2:(open Classical in if L id then Ob.box 0 [] else Ob.gone).live:=h2
  apply Classical.byContradiction
  intro h
  rw[if_neg h] at h2
  exact h2
 intro h
 refine⟨b,rfl,?_⟩
 show (open Classical in if L b then Ob.box 0 [] else Ob.gone).live
 rw[if_pos h];trivial
def Am1 (J:Nat->Bool->(Nat->Prop)->World->Prop) (i:Nat) (L:Nat->Prop) (W1:World):Ending->World->Prop:=fun e W'=>∃s L',e=.returned (.bool (!s))/\J (i+1) s L' W'/\(∀b,L' b->b<W'.heap.size)/\W1.heap.size<=W'.heap.size /\
 (∀b cur ty fz,¬L b->W1.heap[b]? = some (.cells cur ty fz)->W'.heap[b]? = some (.cells cur ty fz))/\∀b,b<W1.heap.size->¬L b->¬L' b
def Zu (P:Program) (gf:FuncId) (caps:List AV) (items:List (List AV)):Prop :=
 Ah5 P gf/\∀(C:VC) (lb:Array Value) (W:World),C.h.size<=W.heap.size->(∀b,C.S false b->W.heap[b]? = C.h[b]?)->Ec C (.fn gf caps) (.func (.func gf) #[] lb) ->
  ∀(l:Nat) (L0:Nat->Prop) (J:Nat->Bool->(Nat->Prop)->World->Prop),(∀b,L0 b->b<W.heap.size)->(∀b,C.S false b->¬L0 b)->(∀i s L W1 W2,J i s L W1->Kp (fun _=>False) W1 W2->J i s L W2) ->
  (∀i L W1 vs us,J i false L W1->(∀b,L b->b<W1.heap.size)->items[i]? = some vs->us.size=vs.length->(∀(j:Nat) (v:AV) (u:Value),vs[j]? = some v->us[j]? = some u->Ec (VCZ W.heap.size (C.S false) L W1) v u) ->
   YieldAt Fence.wide 0 P l us W1 (Am1 J i L W1)) ->
  J 0 false L0 W->Calls P gf (#[.func (.yield l) #[] #[]]++lb) W fun e W'=>(∃v,e=.returned v)/\∃i s L',J i s L' W'/\(s=false->i=items.length)
def A0t (n:Nat) (l:List Oper):Bool:=l.all fun o=>match o with
 | ⟨some d,.assign (.tmp s),_,_,_,none⟩=>decide (d<n)
 | _=>false
def Ahq:List Oper->St->St
 | [],st=>st
 | ⟨some d,.assign (.tmp s),_,_,_,none⟩::l,st=>Ahq l (st.put (some d) (E9 st.sl s))
 | _::l,st=>Ahq l st
theorem Ayh {E:Gs} {F:Fence} (hF:FOk E F) {β:Nat->Option Nat} {ops:Array Oper} {Q:Exit->Act->World->Prop}:∀(l:List Oper),A0t E.n l=true->∀(st:St) (a:Act) (w:World),Eu E β st a w->(∀a',Eu E β (Ahq l st) a' w->Q .normal a' w)->wpListIn F 0 P ops Q l a w
 | [],_,st,a,w,r,h=>h a r
 | o::l,hb,st,a,w,r,h=>by
  simp only[A0t,List.all_cons,Ah] at hb
  obtain⟨h1,h2⟩:=hb
  split at h1
  ·rename_i d s ty p af
   refine wpListIn_plain rfl fun K hK=>Ru hF (by intro c h;cases h) ?_
   have e1:(execOp a.eval ⟨some d,.assign (.tmp s),ty,p,af,none⟩).run P w=.ok (.value (a.tmps.getD s undef)) w:=rfl
   unfold Oper.wp
   rw[e1]
   refine hK _ _ (Ayh hF l h2 (st.put (some d) (E9 st.sl s)) _ w (r.put (r.sl s) (some d) fun x hx=>?_) h)
   injection hx with hx
   subst hx
   simpa using h1
  cases h1
def T9:List Tmp->List AV->List (Nat×AV)->List (Nat×AV)
 | p::ps,v::vs,sl=>T9 ps vs ((p,v)::sl)
 | _,_,sl=>sl
theorem Aw8 {C:VC} {n:Nat}:∀(ps:List Tmp) (vs:List AV) (us:List Value) (sl:List (Nat×AV)) (tmps:Array Value),tmps.size=n->(∀p∈ps,p<n)->ps.length=vs.length->us.length=vs.length->(∀(j:Nat) (v:AV) (u:Value),vs[j]? = some v->us[j]? = some u->Ec C v u)->(∀t,Ec C (E9 sl t) (tmps.getD t undef)) ->
 ((ps.zip us).foldl (fun t (p,v)=>t.setIfInBounds p v) tmps).size=n/\∀t,Ec C (E9 (T9 ps vs sl) t) (((ps.zip us).foldl (fun t (p,v)=>t.setIfInBounds p v) tmps).getD t undef)
 | [],vs,us,sl,tmps,hn,_,_,_,_,hsl=>⟨hn,hsl⟩
 | p::ps,v::vs,u::us,sl,tmps,hn,hp,h1,h2,hv,hsl=>by
  simp only[List.zip_cons_cons,List.foldl_cons,T9]
  refine Aw8 ps vs us ((p,v)::sl) _ (by simp[hn]) (fun q hq=>hp q (by simp[hq])) (by simpa using h1) (by simpa using h2) (fun j v' u' h3 h4=>hv (j+1) v' u' (by simpa using h3) (by simpa using h4)) fun t=>?_
  have hlt:p<tmps.size:=by rw[hn];exact hp p (by simp)
  simp only[E9]
  by_cases e:p=t
  ·subst e
   rw[show (p == p)=true by simp]
   simp only[cond_true]
   rw[Av,Array.getElem?_setIfInBounds_self_of_lt hlt]
   exact hv 0 v u rfl rfl
  rw[show (p == t)=false by simp[e]]
  simp only[cond_false]
  rw[Av,Array.getElem?_setIfInBounds_ne e,<- Av]
  exact hsl t
 | p::ps,[],us,sl,tmps,hn,hp,h1,h2,hv,hsl=>by cases h1
 | p::ps,v::vs,[],sl,tmps,hn,hp,h1,h2,hv,hsl=>by cases h2
theorem Eu.lay {E:Gs} (r:Eu E β st a w) {o:Obj} (ho:Ac0 o=false) :
 Eu { E with kb:=fun b=>if b=w.heap.size then some o else E.kb b } β st a (w.alloc o)/\Hs E { E with kb:=fun b=>if b=w.heap.size then some o else E.kb b }:=by
 have hk:Kp (fun _=>False) w (w.alloc o):=⟨rfl,rfl,rfl,by simp,fun b hb _=>Below.heap_alloc _ _ _ hb⟩
 have r2:=r.grow hk
 have hn:∀b o',E.kb b=some o'->b≠w.heap.size:=fun b o' h=>by
  have:=(Aw.1 (r.kb b o' h).1).1
  omega
 refine⟨⟨r2.sz,r2.sl,r2.df,r2.ob,r2.inj,r2.rng,r2.kp,r2.ct,fun b o' h=>?_,r2.dk.1,fun D hD=>?_⟩,⟨⟨_,_,rfl⟩,fun b o' h=>?_⟩⟩
 ·have h:(if b=w.heap.size then some o else E.kb b)=some o':=h
  by_cases e:b=w.heap.size
  ·rw[if_pos e] at h
   injection h with h
   subst h
   rw[e]
   exact⟨World.alloc_heap_new w _,ho⟩
  rw[if_neg e] at h
  exact r2.kb b o' h
 ·have:=r2.dk.2 D hD
  exact⟨by show (if D=w.heap.size then some o else E.kb D)=_;rw[if_neg (hn D _ this.1)];exact this.1,this.2⟩
 show (if b=w.heap.size then some o else E.kb b)=_
 rw[if_neg (hn b o' h)]
 exact h
theorem Eu.mark {E:Gs} (r:Eu E β st a w) {D:Nat} (hD:E.kb D=some (.deferred (some []))) (hn:D∉E.ds) (hge:E.w0.heap.size<=D) :
 Eu { E with ds:=D::E.ds } β st { a with defers:=[dmk D]++a.defers } w :=
 ⟨r.sz,r.sl,by show [dmk D]++a.defers=dmk D::E.ds.map dmk;rw[r.df];rfl,r.ob,r.inj,r.rng,r.kp,r.ct,r.kb,List.nodup_cons.2 ⟨hn,r.dk.1⟩,fun D' h=>by
  cases h with
  | head=>exact⟨hD,hge⟩
  | tail _ h=>exact r.dk.2 D' h⟩
def A23 (c:Code) (e:Exit):Prop:=(c=.ret/\e=.ret)\/(∃id,c=.exit id/\e=.exit id)\/∃t,c=.goto t/\e=.goto t
def J7 (k:Nat) (sl:List (Nat×AV)) (o:List Ob) (I:Prop) (K:Exit->St->Prop):Exit->St->Prop
 | .normal,s=>Zq k s ⟨[],o⟩/\I
 | .ret,s=>∃ob',Zq k s ⟨[],ob'⟩/\K .ret ⟨sl,ob'⟩
 | .exit id,s=>∃ob',Zq k s ⟨[],ob'⟩/\K (.exit id) ⟨sl,ob'⟩
 | .goto t,s=>∃ob',Zq k s ⟨[],ob'⟩/\K (.goto t) ⟨sl,ob'⟩
 | _,_=>False
def Ob.liveB:Ob->Bool
 | .gone=>true
 | .box _ _=>true
 | .row _ _ _ fz _=>!fz
theorem Tc:∀{l:List Ob},l.all Ob.liveB=true->∀id,(St.mk sl l).o id≠.gone->((St.mk sl l).o id).live:=by
 intro l h id hid
 have hq:(St.mk sl l).o id=l.getD id .gone:=rfl
 rw[hq] at hid ⊢
 cases hx:l[id]? with
 | none=>rw[Ad,hx] at hid;exact absurd rfl hid
 | some o =>
  rw[Ad,hx] at hid ⊢
  have:=Am.1 h o (Ac hx)
  simp only[Bh] at hid ⊢
  cases o with
  | gone=>exact absurd rfl hid
  | box ty cs=>trivial
  | row ty k fr fz es =>
   simp only[Ob.liveB] at this
   show fz=false
   simpa using this
theorem F7 {k:Nat} {sel:List Nat} (h:sel.take k=List.range k):∀id,id<k->sel[id]? = some id:=fun id hid=>by
 have:(sel.take k)[id]? = some id:=by rw[h,List.getElem?_range hid]
 rwa[Ag hid] at this
theorem Ei {α β:Type} {g:α->β} {l:List α} {i:Nat} {y:β} (h:(l.map g)[i]? = some y):∃a,l[i]? = some a/\g a=y:=by
 rw[Ap] at h
 cases hq:l[i]? with
 | none=>rw[hq] at h;cases h
 | some a=>rw[hq] at h;exact⟨a,rfl,by simpa using h⟩
attribute [go_sem] Ahq T9
end
section
variable {c:Operand}
section
variable {P:Program} {n m:Nat} {st s':St} {K:Exit->St->Prop} {id:Nat} {l:List Oper} {y:Code}
theorem VW.R (h:VW P n m y s' K) (hr:∀K1:St->Prop,K1 s'->runs P (Gh l) st K1:=by intro K k;simp[go_sem];exact k) (hd:Ft n l=true:=by rfl):VW P n m (.seq (.region id l.toArray false) y) st K:=.region_seq hd fun K1 h1=>hr K1 (h1 _ h)
abbrev Bw:=@VW.R
theorem VW.R1 (h:K .normal s') (hr:∀K1:St->Prop,K1 s'->runs P (Gh l) st K1:=by intro K k;simp[go_sem];exact k) (hd:Ft n l=true:=by rfl):VW P n m (.region id l.toArray false) st K:=.region1 hd fun K1 h1=>hr K1 (h1 _ h)
abbrev Cm:=@VW.R1
theorem VW.S (hr:∀K1:St->Prop,K1 s'->runs P (Gh l) st K1) (h:VW P n m y s' K) (hd:Ft n l=true:=by rfl):VW P n m (.seq (.region id l.toArray false) y) st K:=.region_seq hd fun K1 h1=>hr K1 (h1 _ h)
abbrev Ce:=@VW.S
theorem VW.S1 (hr:∀K1:St->Prop,K1 s'->runs P (Gh l) st K1) (h:K .normal s') (hd:Ft n l=true:=by rfl):VW P n m (.region id l.toArray false) st K:=.region1 hd fun K1 h1=>hr K1 (h1 _ h)
theorem VW.C {x:Code} (ht:Fh (st.raw c).sv=true->VW P n m x st K) (hf:Fh (st.raw c).sv=false->VW P n m y st K) (hb:Ik (st.raw c).sv=true:=by simp[go_sem]) (hs:(st.raw c).sb=true:=by simp[go_sem]):VW P n m (.cond c x y) st K:=.cond hb hs ht hf
abbrev Da:=@VW.C
theorem VW.Q {x:Code} {p q:Prop} (ht:p->VW P n m x st K) (hf:q->VW P n m y st K) (hp:(Fh (st.raw c).sv=true)=p:=by simp[go_sem];exact Iff.rfl) (hq:(Fh (st.raw c).sv=false)=q:=by simp[go_sem];exact Iff.rfl) (hb:Ik (st.raw c).sv=true:=by simp[go_sem]) (hs:(st.raw c).sb=true:=by simp[go_sem]):VW P n m (.cond c x y) st K:=.cond hb hs (fun h=>ht (hp▸h)) fun h=>hf (hq▸h)
abbrev B6:=@VW.Q
end
section
variable {P:Program} {d:Option Tmp} {ty:TypeId} {os:List VO} {st:St} {K:St->Prop} {KT:Tr->St->Prop} {tr:Tr} {f:FuncId} {args args' G4:List AV} {bor g:Bool} {σa σr:List Ob} {res:AV} {rd:List Nat}
theorem Va.l (hp:E7 P f [] args' σr res) (h:runs P os (st.after d (res.shift st.ob.length) (Mc st.ob.length 0 σr)) K) (ha:Kq args=args':=by rfl) (hl:bor=true->res.cln=true/\σr.all Ob.cln=true:=by simp[AV.cln,Fu]):Va P f args bor G4 d os st K:=.lo hp ha hl h
theorem Ye.l (hp:E7 P f [] args' σr res) (h:Gx P os (st.after d (res.shift st.ob.length) (Mc st.ob.length 0 σr)) ((rd,(Mc st.ob.length 0 σr).map (·.1))::tr) KT) (ha:Kq args=args':=by rfl) (hl:bor=true->res.cln=true/\σr.all Ob.cln=true:=by simp[AV.cln,Fu]):Ye P f args bor G4 d os st rd tr KT:=.lo hp ha hl h
theorem Ad7.l (hp:E7 P f [] args' σr res) (h:runs P os (st.after d (.gd g (res.shift st.ob.length)) (bif g then Mc st.ob.length 0 σr else [])) K) (ha:Kq args=args':=by rfl) (hl:bor=true->res.cln=true/\σr.all Ob.cln=true:=by simp[AV.cln,Fu]):Ad7 P g f args bor d os st K:=.lo hp ha hl h
theorem Aar.l (hp:E7 P f [] args' σr res) (h:Gx P os (st.after d (.gd g (res.shift st.ob.length)) (bif g then Mc st.ob.length 0 σr else [])) ((rd,(Mc st.ob.length 0 σr).map (·.1))::tr) KT) (ha:Kq args=args':=by rfl) (hl:bor=true->res.cln=true/\σr.all Ob.cln=true:=by simp[AV.cln,Fu]):Aar P g f args bor d os st rd tr KT:=.lo hp ha hl h
theorem Va.o (sel:List Nat) (hp:E7 P f σa args' σr res) (h:runs P os (st.after d (Pp sel st.ob.length σr res).1 (Pp sel st.ob.length σr res).2) K) (hσ:(sel.map fun id=>((st.o id).passR st.o fun id=>Nq id sel 0).low)=σa:=by simp[go_sem]) (ha:Kq (G9 st.o (fun id=>Nq id sel 0) G4)=args':=by simp[go_sem]) (hc:Ad8 G4 st sel σr res:=by constructor<;>simp[go_sem]):Va P f args bor G4 d os st K:=.ob sel hp hσ ha hc h
theorem Ye.o (sel:List Nat) (hp:E7 P f σa args' σr res) (h:Gx P os (st.after d (Pp sel st.ob.length σr res).1 (Pp sel st.ob.length σr res).2) ((rd,(Pp sel st.ob.length σr res).2.map (·.1))::tr) KT) (hσ:(sel.map fun id=>((st.o id).passR st.o fun id=>Nq id sel 0).low)=σa:=by simp[go_sem]) (ha:Kq (G9 st.o (fun id=>Nq id sel 0) G4)=args':=by simp[go_sem]) (hc:Ad8 G4 st sel σr res:=by constructor<;>simp[go_sem]):Ye P f args bor G4 d os st rd tr KT:=.ob sel hp hσ ha hc h
end
variable {a b:Prop}
theorem aK (hb:b) (ha:a:=by intros;(repeat' refine Ax ?_ ?_)<;>omega):a/\b:=⟨ha,hb⟩
theorem gx {α:Type} (l:List α) (i:Nat) (h:i<l.length:=by first | omega | (simp;omega)):∃e,l[i]? = some e:=⟨_,Aa h⟩
variable {ρ:Nat->Option Nat}
theorem Ay6 {l l':List (Nat×AV)} {t:Nat} {c':AV}:LeS ρ l ((t,c')::l')=(Le ((E9 l t).ren ρ) c'/\LeS ρ l l'):=propext ⟨fun h=>by cases h with | cons h1 h2=>exact⟨h1,h2⟩,fun h=>.cons h.1 h.2⟩
theorem A02 {l:List (Nat×AV)}:LeS ρ l []=True:=eq_true .nil
theorem A00 {o:Nat->Ob} {id:Nat} {ids:List Nat} {x:Ob} {xs:List Ob}:OL o ρ (id::ids) (x::xs)=(Wq ((o id).ren ρ) x/\OL o ρ ids xs):=propext ⟨fun h=>by cases h with | cons h1 h2=>exact⟨h1,h2⟩,fun h=>.cons h.1 h.2⟩
theorem A22 {o:Nat->Ob}:OL o ρ [] []=True:=eq_true .nil
attribute [go_sem] Ay6 A02 A00 A22
variable {p:Prop} {f:FuncId} {args:List AV} {σr:List Ob} {res:AV} {sl sl':List (Nat×AV)} {ob ob':List Ob}
section
variable {P:Program} {n m:Nat} {st s':St} {K:Exit->St->Prop} {id:Nat} {l:List Oper} {y:Code}
theorem VW.H (e:p) (h:VW P n m y s' K) (hr:∀K1:St->Prop,p->K1 s'->runs P (Gh l) st K1:=by intro K e k;simp[go_sem,e];(repeat first | exact k | refine aK ?_)) (hd:Ft n l=true:=by rfl):VW P n m (.seq (.region id l.toArray false) y) st K:=.region_seq hd fun K1 h1=>hr K1 e (h1 _ h)
theorem VW.L (e:p) (c:E7 P f [] args σr res) (h:VW P n m y s' K) (hr:∀K1:St->Prop,p->E7 P f [] args σr res->K1 s'->runs P (Gh l) st K1:=by intro K e c k;simp[go_sem,e];(repeat refine aK ?_);refine .l c ?_;simp[go_sem,e];(repeat first | exact k | refine aK ?_)) (hd:Ft n l=true:=by rfl):VW P n m (.seq (.region id l.toArray false) y) st K:=.region_seq hd fun K1 h1=>hr K1 e c (h1 _ h)
abbrev Di:=@VW.L
theorem VW.H1 (e:p) (h:K .normal s') (hr:∀K1:St->Prop,p->K1 s'->runs P (Gh l) st K1:=by intro K e k;simp[go_sem,e];(repeat first | exact k | refine aK ?_)) (hd:Ft n l=true:=by rfl):VW P n m (.region id l.toArray false) st K:=.region1 hd fun K1 h1=>hr K1 e (h1 _ h)
theorem VW.L1 (e:p) (c:E7 P f [] args σr res) (h:K .normal s') (hr:∀K1:St->Prop,p->E7 P f [] args σr res->K1 s'->runs P (Gh l) st K1:=by intro K e c k;simp[go_sem,e];(repeat refine aK ?_);refine .l c ?_;simp[go_sem,e];(repeat first | exact k | refine aK ?_)) (hd:Ft n l=true:=by rfl):VW P n m (.region id l.toArray false) st K:=.region1 hd fun K1 h1=>hr K1 e c (h1 _ h)
theorem wk (e:p) (sel:List Nat) (h1:p->LeS (fun id=>Nq id sel 0) sl sl':=by intro e;simp[go_sem,e]) (h2:p->OL (fun i=>ob.getD i .gone) (fun id=>Nq id sel 0) sel ob':=by intro e;simp[go_sem,e]) (hnd:sel.Nodup:=by decide) (hs:∀id,id<m->sel[id]? = some id:=by first | exact F7 rfl | simp):Zq m ⟨sl,ob⟩ ⟨sl',ob'⟩:=⟨sel,Es hnd (h1 e) (h2 e),hs⟩
theorem wQ (sel:List Nat) (h1:LeS (fun id=>Nq id sel 0) sl sl') (h2:OL (fun i=>ob.getD i .gone) (fun id=>Nq id sel 0) sel ob') (hnd:sel.Nodup:=by decide) (hs:∀id,id<m->sel[id]? = some id:=by first | exact F7 rfl | simp):Zq m ⟨sl,ob⟩ ⟨sl',ob'⟩:=wk trivial sel (fun _=>h1) (fun _=>h2) hnd hs
end
theorem Dz:True:=trivial
theorem Fa (ha:a) (hb:b):a/\b:=⟨ha,hb⟩
theorem Hq {a b c:Prop} (ha:a) (hb:b) (hc:c):a/\b/\c:=⟨ha,hb,hc⟩
theorem Tf {a b c d:Prop} (ha:a) (hb:b) (hc:c) (hd:d):a/\b/\c/\d:=⟨ha,hb,hc,hd⟩
theorem X9 {a b c d e:Prop} (ha:a) (hb:b) (hc:c) (hd:d) (he:e):a/\b/\c/\d/\e:=⟨ha,hb,hc,hd,he⟩
theorem cj6 {a b c d e f:Prop} (ha:a) (hb:b) (hc:c) (hd:d) (he:e) (hf:f):a/\b/\c/\d/\e/\f:=⟨ha,hb,hc,hd,he,hf⟩
variable {rs:List ResultVar}
section
variable {P:Program} {n m:Nat} {st s':St} {K:Exit->St->Prop} {y:Code}
theorem rL (e:p) (h:p->((Lg P st rs).ren fun _=>none).low=res:=by intro e;simp[go_sem,e]) (hc:Wp P st rs:=by simp[go_sem]):Sg P 0 rs [] res .ret st:=Asq hc (h e)
theorem rW {sl:List (Nat×AV)} {ob:List Ob} (e:p) (sel:List Nat) (hc:Wp P ⟨sl,ob⟩ rs:=by simp[go_sem]) (hnd:sel.Nodup:=by decide) (hm:∀id,id<m->sel[id]? = some id:=by first | exact F7 rfl | simp) (h:p->((Lg P ⟨sl,ob⟩ rs).ren fun id=>Nq id sel 0).low=res:=by intro e;simp[go_sem,e]) (ho:p->OL (fun i=>ob.getD i .gone) (fun id=>Nq id sel 0) sel σr:=by intro e;simp[go_sem,e]):Sg P m rs σr res .ret ⟨sl,ob⟩:=Acv sel hc hnd hm (h e) (ho e)
end
theorem Em {P:Program} {fn:Func} {c:Code} {σa σr:List Ob} (hf:P.funcs[f]? = some fn) (h:VW P fn.ntmps σa.length c ⟨Ic 0 args,σa⟩ (Sg P σa.length rs σr res)) (hb:fn.body=some c:=by rfl) (hn:(fn.name == "runtime.NumGoroutine")=false:=by rfl) (hrs:fn.results=rs.toArray:=by rfl) (hk:args.length<=fn.ntmps:=by exact Nat.le_of_ble_eq_true rfl):E7 P f σa args σr res:=Afo hf hb hn hrs hk h
variable {tr:Tr}
section
variable {P:Program} {n m:Nat} {st s':St} {K:Exit->St->Prop} {id:Nat} {l:List Oper} {y:Code}
theorem VW.D (h:VW P n m y s' K) (hr:∀K1:Tr->St->Prop,K1 tr s'->Gx P (Gh l) st [] K1:=by intro K k;simp[go_sem];exact k) (hm:P.follows .mixedOrders=true:=by kernel_rfl) (hd:Ft n l=true:=by rfl) (hs:Jn l=true:=by kernel_rfl) (hi:Sp l tr=true:=by kernel_rfl):VW P n m (.seq (.region id l.toArray true) y) st K:=.draw_seq hm hd hs fun K1 h1=>hr K1 (h1 _ _ hi h)
theorem VW.E (hr:∀K1:Tr->St->Prop,K1 tr s'->Gx P (Gh l) st [] K1) (h:VW P n m y s' K) (hm:P.follows .mixedOrders=true:=by kernel_rfl) (hd:Ft n l=true:=by rfl) (hs:Jn l=true:=by kernel_rfl) (hi:Sp l tr=true:=by kernel_rfl):VW P n m (.seq (.region id l.toArray true) y) st K:=.draw_seq hm hd hs fun K1 h1=>hr K1 (h1 _ _ hi h)
theorem VW.E1 (hr:∀K1:Tr->St->Prop,K1 tr s'->Gx P (Gh l) st [] K1) (h:K .normal s') (hm:P.follows .mixedOrders=true:=by kernel_rfl) (hd:Ft n l=true:=by rfl) (hs:Jn l=true:=by kernel_rfl) (hi:Sp l tr=true:=by kernel_rfl):VW P n m (.region id l.toArray true) st K:=.draw1 hm hd hs fun K1 h1=>hr K1 (h1 _ _ hi h)
theorem VW.G (e:p) (h:VW P n m y s' K) (hr:∀K1:Tr->St->Prop,p->K1 tr s'->Gx P (Gh l) st [] K1:=by intro K e k;simp[go_sem,e];(repeat first | exact k | refine aK ?_)) (hm:P.follows .mixedOrders=true:=by kernel_rfl) (hd:Ft n l=true:=by rfl) (hs:Jn l=true:=by kernel_rfl) (hi:Sp l tr=true:=by kernel_rfl):VW P n m (.seq (.region id l.toArray true) y) st K:=.draw_seq hm hd hs fun K1 h1=>hr K1 e (h1 _ _ hi h)
theorem VW.G1 (e:p) (h:K .normal s') (hr:∀K1:Tr->St->Prop,p->K1 tr s'->Gx P (Gh l) st [] K1:=by intro K e k;simp[go_sem,e];(repeat first | exact k | refine aK ?_)) (hm:P.follows .mixedOrders=true:=by kernel_rfl) (hd:Ft n l=true:=by rfl) (hs:Jn l=true:=by kernel_rfl) (hi:Sp l tr=true:=by kernel_rfl):VW P n m (.region id l.toArray true) st K:=.draw1 hm hd hs fun K1 h1=>hr K1 e (h1 _ _ hi h)
theorem VW.M (e:p) (c:E7 P f [] args σr res) (h:VW P n m y s' K) (hr:∀K1:Tr->St->Prop,p->E7 P f [] args σr res->K1 tr s'->Gx P (Gh l) st [] K1:=by intro K e c k;simp[go_sem,e];(repeat refine aK ?_);refine .l c ?_;simp[go_sem,e];(repeat first | exact k | refine aK ?_)) (hm:P.follows .mixedOrders=true:=by kernel_rfl) (hd:Ft n l=true:=by rfl) (hs:Jn l=true:=by kernel_rfl) (hi:Sp l tr=true:=by kernel_rfl):VW P n m (.seq (.region id l.toArray true) y) st K:=.draw_seq hm hd hs fun K1 h1=>hr K1 e c (h1 _ _ hi h)
theorem VW.M1 (e:p) (c:E7 P f [] args σr res) (h:K .normal s') (hr:∀K1:Tr->St->Prop,p->E7 P f [] args σr res->K1 tr s'->Gx P (Gh l) st [] K1:=by intro K e c k;simp[go_sem,e];(repeat refine aK ?_);refine .l c ?_;simp[go_sem,e];(repeat first | exact k | refine aK ?_)) (hm:P.follows .mixedOrders=true:=by kernel_rfl) (hd:Ft n l=true:=by rfl) (hs:Jn l=true:=by kernel_rfl) (hi:Sp l tr=true:=by kernel_rfl):VW P n m (.region id l.toArray true) st K:=.draw1 hm hd hs fun K1 h1=>hr K1 e c (h1 _ _ hi h)
end
end
section
variable {P:Program}
mutual
def AV.out:AV->AV
 | .imm _ k es=>.imm false k es
 | .nil k=>.imm false k []
 | .iptr _ cs off=>.iptr false cs off
 | .agg cs=>.agg (Abp cs)
 | .tup cs=>.tup (Abp cs)
 | .fn f cs=>.fn f (Abp cs)
 | .lit v=>.lit v
 | .gd t v=>.gd t v.out
 | _=>.any
def Abp:List AV->List AV
 | []=>[]
 | c::cs=>c.out::Abp cs
end
theorem Abo:∀(cs:List AV) (i:Nat),(Abp cs)[i]? = (cs[i]?).map AV.out
 | [],i=>by simp[Abp]
 | c::cs,0=>by simp[Abp]
 | c::cs,i+1=>by simp[Abp,Abo cs i]
theorem P7:∀(cs:List AV),(Abp cs).length=cs.length
 | []=>rfl
 | c::cs=>by simp[Abp,P7 cs]
variable {u:Value}
theorem Ec.out {C C':VC} (hk:∀b cur ty fz,C.S false b->C.h[b]? = some (.cells cur ty fz)->C'.h[b]? = some (.cells cur ty fz)) (hS:∀b,C.S false b->C'.S false b) {c:AV} (h:Ec C c u):Ec C' c.out u:=by
 have hT:∀fr t u,Gq C.h (C.S fr) t u->Gq C'.h (C'.S false) t u:=fun fr t u h=>(VC.T_weak (g:=false) h fun e=>by cases e).keepC (fun b cur ty fz h1 h2=>hk b cur ty fz h1 h2) hS
 have hL:∀(cs:List AV) (us:Array Value),(∀(i:Nat) (c:AV) (u:Value),cs[i]? = some c->us[i]? = some u->Ec C' c.out u)->∀(i:Nat) (c:AV) (u:Value),(Abp cs)[i]? = some c->us[i]? = some u->Ec C' c u:=fun cs us ih i c u hc hu=>by
  rw[Abo] at hc
  cases hx:cs[i]? with
  | none=>rw[hx] at hc;cases hc
  | some x =>
   rw[hx] at hc
   simp only[Ai,Option.some.injEq] at hc
   subst hc
   exact ih i x u hx hu
 induction h with
 | any u=>exact .any u
 | lit v=>exact .lit v
 | nil k A=>exact .imm _ _ _ _ (.nil _ _ _)
 | imm fr k es u h=>exact .imm _ _ _ _ (hT fr _ _ h)
 | own id n u h=>exact .any u
 | sub id n lo m u h=>exact .any u
 | ptr id off u h=>exact .any u
 | rptr id n i off u h=>exact .any u
 | bsl id n u h=>exact .any u
 | iptr fr cs off b o cur ty fz us h1 h2 h3=>exact .iptr false cs off b o cur ty fz us (hk b cur ty fz (VC.S_weak h2) h1) (hS b (VC.S_weak h2)) fun j x hx=>⟨(h3 j x hx).1,hT fr _ _ (h3 j x hx).2⟩
 | agg cs us h1 h2 ih=>exact .agg _ _ (by rw[P7];exact h1) (hL cs us ih)
 | tup cs us h1 h2 ih=>exact .tup _ _ (by rw[P7];exact h1) (hL cs us ih)
 | fn f cs us h1 h2 ih=>exact .fn f _ _ (by rw[P7];exact h1) (hL cs us ih)
 | gd t v u h1 h2 ih=>exact .gd t _ u (fun e=>ih e) h2
def Aq4:List (Nat×AV)->List (Nat×AV)
 | []=>[]
 | p::l=>(p.1,p.2.out)::Aq4 l
theorem Aka:∀(l:List (Nat×AV)) (t:Nat),E9 (Aq4 l) t=(E9 l t).out
 | [],t=>rfl
 | p::l,t=>by
  simp only[Aq4,E9]
  cases p.1 == t
  ·exact Aka l t
  rfl
structure YC (P:Program) (items:List (List AV)) (l:Nat) where
  W0:Nat
  Z:Nat->Prop
  J:Nat->Bool->(Nat->Prop)->World->Prop
  ab:∀i s L W1 W2,J i s L W1->Kp (fun _=>False) W1 W2->J i s L W2
  rd:∀i L W1 vs us,J i false L W1->(∀b,L b->b<W1.heap.size)->items[i]? = some vs->us.size=vs.length->(∀(j:Nat) (v:AV) (u:Value),vs[j]? = some v->us[j]? = some u->Ec (VCZ W0 Z L W1) v u) ->
    YieldAt Fence.wide 0 P l us W1 (Am1 J i L W1)
def RI {items:List (List AV)} {l:Nat} (c:YC P items l) (n i:Nat) (s:Bool) (st:St) (a:Act) (w:World):Prop :=
 ∃E β L,E.n=n/\(∀id,E.o0 id=.gone)/\E.ds=[]/\Eu E β st a w/\c.J i s L E.w0/\(∀b,L b->b<E.w0.heap.size)/\(∀b,E.im b->¬L b/\(c.Z b\/c.W0<=b))/\c.W0<=E.w0.heap.size
def A1m {items:List (List AV)} {l:Nat} (c:YC P items l) (n:Nat) (K:Exit->Nat->Bool->St->Prop):Exit->Act->World->Prop:=fun e a w=>∃i s st,K e i s st/\RI c n i s st a w
def VI (P:Program) (n:Nat) (items:List (List AV)) (l:Nat) (code:Code) (i:Nat) (s:Bool) (st:St) (K:Exit->Nat->Bool->St->Prop):Prop :=
 ∀(c:YC P items l) (a:Act) (w:World),RI c n i s st a w->code.wpIn Fence.wide 0 P (A1m c n K) a w
def V1 (P:Program) (n:Nat) (items:List (List AV)) (l:Nat) (ops:Array Oper) (os:List Oper) (i:Nat) (s:Bool) (st:St) (K:Exit->Nat->Bool->St->Prop):Prop :=
 ∀(c:YC P items l) (a:Act) (w:World),RI c n i s st a w->wpListIn Fence.wide 0 P ops (A1m c n K) os a w
variable {id:Nat} {y z:Code} {x:Code} {w:World} {ops:Array Oper} {os:List Oper} {l2:List Oper}
section
variable {n:Nat} {items:List (List AV)} {l i:Nat} {s:Bool} {st:St} {K K':Exit->Nat->Bool->St->Prop}
@[reducible] def Exit.ithen (next:Nat->Bool->St->Prop) (K:Exit->Nat->Bool->St->Prop):Exit->Nat->Bool->St->Prop
 | .normal,i,s,st=>next i s st
 | e,i,s,st=>K e i s st
theorem VI.seq {x y:Code} (h:VI P n items l x i s st (Exit.ithen (fun i s st=>VI P n items l y i s st K) K)):VI P n items l (.seq x y) i s st K:=fun c a w r=>by
 refine wpIn_seq (wpIn_mono (h c a w r) fun e a w ⟨i,s,st,h1,h2⟩=>?_)
 cases e with
 | normal=>exact h1 c a w h2
 | exit id=>exact⟨i,s,st,h1,h2⟩
 | goto l=>exact⟨i,s,st,h1,h2⟩
 | ret=>exact⟨i,s,st,h1,h2⟩
 | panic ch=>exact⟨i,s,st,h1,h2⟩
 | outgrown=>exact⟨i,s,st,h1,h2⟩
abbrev C4:=@VI.seq
theorem VI.skip (h:K .normal i s st):VI P n items l .skip i s st K:=fun c a w r=>wpIn_skip ⟨i,s,st,h,r⟩
abbrev Dd:=@VI.skip
theorem VI.exit (h:K (.exit id) i s st):VI P n items l (.exit id) i s st K:=fun c a w r=>wpIn_exit ⟨i,s,st,h,r⟩
theorem VI.ret (h:K .ret i s st):VI P n items l .ret i s st K:=fun c a w r=>wpIn_ret ⟨i,s,st,h,r⟩
theorem VI.cond {x:Operand} (hb:Ik (st.raw x).sv=true) (hs:(st.raw x).sb=true) (ht:Fh (st.raw x).sv=true->VI P n items l y i s st K) (hf:Fh (st.raw x).sv=false->VI P n items l z i s st K):VI P n items l (.cond x y z) i s st K:=fun c a w r=>by
 have r':=r
 obtain⟨E,β,L,_,_,_,r1,_⟩:=r'
 obtain⟨_,e2⟩:=Nb hb ((M9 r1 x).sv.1 hs)
 exact wpIn_cond_split e2 (fun e=>ht e c a w r) fun e=>hf e c a w r
abbrev C7:=@VI.cond
theorem VI.Q {x:Operand} {p q:Prop} (ht:p->VI P n items l y i s st K) (hf:q->VI P n items l z i s st K) (hp:(Fh (st.raw x).sv=true)=p:=by simp[go_sem];exact Iff.rfl) (hq:(Fh (st.raw x).sv=false)=q:=by simp[go_sem];exact Iff.rfl) (hb:Ik (st.raw x).sv=true:=by simp[go_sem]) (hs:(st.raw x).sb=true:=by simp[go_sem]):VI P n items l (.cond x y z) i s st K:=.cond hb hs (fun h=>ht (hp▸h)) fun h=>hf (hq▸h)
@[reducible] def Exit.iblock (id:Nat) (K:Exit->Nat->Bool->St->Prop):Exit->Nat->Bool->St->Prop
 | .exit id',i,s,st=>if id'=id then K .normal i s st else K (.exit id') i s st
 | e,i,s,st=>K e i s st
theorem VI.block (h:VI P n items l x i s st (Exit.iblock id K)):VI P n items l (.block id x) i s st K:=fun c a w r=>by
 refine wpIn_block (wpIn_mono (h c a w r) fun e a w ⟨i,s,st,h1,h2⟩=>?_)
 cases e with
 | exit id' =>
  unfold Exit.inBlock
  unfold Exit.iblock at h1
  simp only at h1 ⊢
  split
  ·rename_i e;rw[if_pos e] at h1;exact⟨i,s,st,h1,h2⟩
  rename_i e;rw[if_neg e] at h1;exact⟨i,s,st,h1,h2⟩
 | normal=>exact⟨i,s,st,h1,h2⟩
 | goto l=>exact⟨i,s,st,h1,h2⟩
 | ret=>exact⟨i,s,st,h1,h2⟩
 | panic ch=>exact⟨i,s,st,h1,h2⟩
 | outgrown=>exact⟨i,s,st,h1,h2⟩
abbrev Cz:=@VI.block
theorem RI.weak {c:YC P items l} {a:Act} (r:RI c n i s st a w) {sel:List Nat} {st':St} (h:Ajc st sel st'):RI c n i s st' a w:=by
 obtain⟨E,β,L,h1,h2,h3,r,h4⟩:=r
 obtain⟨β',r'⟩:=r.weak h fun id hid=>absurd (h2 id) hid
 exact⟨E,β',L,h1,h2,h3,r',h4⟩
theorem VI.wkE {st':St} (h:Zq 0 st st') (hv:VI P n items l x i s st' K):VI P n items l x i s st K:=fun c a w r=>by
 obtain⟨sel,h1,_⟩:=h
 exact hv c a w (r.weak h1)
theorem VI.loop (I:Nat->Nat->Bool->St->Prop) (z:Nat) (h0:I z i s st) (round:∀z i s st,I z i s st->VI P n items l x i s st (Exit.ithen (fun i' s' st'=>∃z' st2,z'<z/\Zq 0 st' st2/\I z' i' s' st2) K)):VI P n items l (.loop x) i s st K:=fun c a w r=>by
 refine wpIn_loop (fun a w=>∃z i s st,I z i s st/\RI c n i s st a w) (fun a w=>Classical.epsilon fun z=>(∃i s st,I z i s st/\RI c n i s st a w)/\∀z' i s st,I z' i s st->RI c n i s st a w->z<=z') ⟨z,i,s,st,h0,r⟩ ?_
 rintro a w ⟨z1,i1,s1,st1,hI,r1⟩
 have hleast:∀a w,(∃z i s st,I z i s st/\RI c n i s st a w)->∃z,(∃i s st,I z i s st/\RI c n i s st a w)/\∀z' i s st,I z' i s st->RI c n i s st a w->z<=z':=by
  rintro a w ⟨z,h⟩
  induction z using Nat.strongRecOn with
  | _ z ih =>
   by_cases hm:∃z',z'<z/\∃i s st,I z' i s st/\RI c n i s st a w
   ·obtain⟨z',hlt,h'⟩:=hm
    exact ih z' hlt h'
   exact⟨z,h,fun z' i s st h1 h2=>Nat.le_of_not_lt fun hlt=>hm ⟨z',hlt,i,s,st,h1,h2⟩⟩
 obtain⟨⟨i0,s0,st0,hI0,r0⟩,hmin⟩:=Classical.epsilon_spec (hleast a w ⟨z1,i1,s1,st1,hI,r1⟩)
 refine wpIn_mono (round _ i0 s0 st0 hI0 c a w r0) fun e a' w' ⟨i2,s2,st2,h1,h2⟩=>?_
 cases e with
 | normal =>
  obtain⟨z',st3,hlt,⟨sel,hw,_⟩,hI'⟩:=h1
  have h3:=h2.weak hw
  refine⟨⟨z',i2,s2,st3,hI',h3⟩,?_⟩
  have:=Classical.epsilon_spec (hleast a' w' ⟨z',i2,s2,st3,hI',h3⟩)
  exact Nat.lt_of_le_of_lt (this.2 z' i2 s2 st3 hI' h3) hlt
 | exit id=>exact⟨i2,s2,st2,h1,h2⟩
 | goto l=>exact⟨i2,s2,st2,h1,h2⟩
 | ret=>exact⟨i2,s2,st2,h1,h2⟩
 | panic ch=>exact⟨i2,s2,st2,h1,h2⟩
 | outgrown=>exact⟨i2,s2,st2,h1,h2⟩
theorem Agt {E:Gs} {F:Fence} (hF:FOk E F) {ops:Array Oper} {K:St->Prop} {Q:Exit->Act->World->Prop} {l2:List Oper} (hQ:∀st β a w,K st->Eu E β st a w->wpListIn F 0 P ops Q l2 a w):∀(l:List Oper) (hd:∀o∈l,∀x,o.dst=some x->x<E.n) (st:St) (β:Nat->Option Nat) (a:Act) (w:World),
 runs P (l.map fun o=>⟨o.dst,o.op,o.type,Oi ops o⟩) st K->Eu E β st a w->wpListIn F 0 P ops Q (l++l2) a w
 | [],_,st,β,a,w,h,r=>hQ st β a w h r
 | o::l,hd,st,β,a,w,h,r=>by
  obtain⟨hg,h⟩:=h
  rw[List.cons_append]
  unfold wpListIn
  simp only at h hg
  cases hc:Ff o.op with
  | true =>
   rw[hc,if_pos rfl] at h
   obtain⟨e,h1,h2⟩:=h
   exact Vs r (hd o (by simp)) hg (fun _ p _ hp=>Hf st p.1 hp) h1 hF fun β' a' w' r'=>Agt hF hQ l (fun x hx=>hd x (by simp[hx])) _ β' a' w' h2 r'
  | false =>
   rw[hc,if_neg (by simp)] at h
   obtain⟨h1,h2⟩:=h
   exact Vs r (hd o (by simp)) hg (fun _ p _ hp=>Hf st p.1 hp) (fun hb=>Afy hc (h1 hb)) hF fun β' a' w' r'=>Agt hF hQ l (fun x hx=>hd x (by simp[hx])) _ β' a' w' h2 r'
theorem V1.nil (h:K .normal i s st):V1 P n items l ops [] i s st K:=fun c a w r=>⟨i,s,st,h,r⟩
theorem V1.runs {l1 l2:List Oper} (hd:Ft n l1=true) (h:∀K1:St->Prop,(∀st,V1 P n items l ops l2 i s st K->K1 st)->runs P (l1.map fun o=>⟨o.dst,o.op,o.type,Oi ops o⟩) st K1):V1 P n items l ops (l1++l2) i s st K:=fun c a w ⟨E,β,L,h1,h2,h3,r,h4⟩ =>
 Agt (E:=E) (.inl rfl) (fun st β a w hK r=>hK c a w ⟨E,β,L,h1,h2,h3,r,h4⟩) l1 (fun o ho x hx=>by rw[h1];exact Pq hd o ho x hx) st β a w (h _ fun _ h=>h) r
theorem VI.region (h:V1 P n items l os.toArray os i s st K):VI P n items l (.region id os.toArray false) i s st K:=fun c a w r=>wpIn_region_lit (h c a w r)
abbrev Du:=@VI.region
theorem VI.region_seq {y:Code} (hd:Ft n os=true) (h:∀K1:St->Prop,(∀st,VI P n items l y i s st K->K1 st)->Go.Proofs.YtkkimgjinbaemaaGreat.runs P (Gh os) st K1):VI P n items l (.seq (.region id os.toArray false) y) i s st K:=by
 refine .seq (.region ?_)
 have:=V1.runs (P:=P) (n:=n) (items:=items) (l:=l) (i:=i) (s:=s) (st:=st) (K:=Exit.ithen (fun i s st=>VI P n items l y i s st K) K) (ops:=os.toArray) (l1:=os) (l2:=[]) hd fun K1 hK1=>h K1 fun st h=>hK1 st (.nil h)
 rwa[List.append_nil] at this
abbrev B9:=@VI.region_seq
theorem VI.region1 (hd:Ft n os=true) (h:∀K1:St->Prop,(∀st,K .normal i s st->K1 st)->Go.Proofs.YtkkimgjinbaemaaGreat.runs P (Gh os) st K1):VI P n items l (.region id os.toArray false) i s st K:=by
 refine .region ?_
 have:=V1.runs (P:=P) (n:=n) (items:=items) (l:=l) (i:=i) (s:=s) (st:=st) (K:=K) (ops:=os.toArray) (l1:=os) (l2:=[]) hd fun K1 hK1=>h K1 fun st h=>hK1 st (.nil h)
 rwa[List.append_nil] at this
abbrev Cu:=@VI.region1
theorem V1.yield {d:Tmp} {t:Tmp} {xs:List Operand} {ts:Array TypeId} {ty:TypeId} {p:String} {af:Array Edge} {gd:Option (Nat×Bool)} {vs:List AV} (hg:st.gc (Oi ops ⟨some d,.call ⟨.value (.tmp t),xs.toArray,ts⟩,ty,p,af,gd⟩)) (hb:st.gb (Oi ops ⟨some d,.call ⟨.value (.tmp t),xs.toArray,ts⟩,ty,p,af,gd⟩)=true) (hd:d<n) (hf:(E9 st.sl t).sv=.lit (.func (.yield l) #[] #[])) (hfb:(E9 st.sl t).sb=true) (hxb:(xs.all fun x=>(st.raw x).sb)=true) (hvs:items[i]? = some vs) (hx:Abp (xs.map fun x=>(st.raw x).sv)=vs) (hs:s=false) (h:∀b,V1 P n items l ops l2 (i+1) b ⟨(d,.lit (.bool (!b)))::Aq4 st.sl,[]⟩ K):V1 P n items l ops (⟨some d,.call ⟨.value (.tmp t),xs.toArray,ts⟩,ty,p,af,gd⟩::l2) i s st K:=fun c a w ⟨E,β,L,h1,h2,h3,r,h4,h5,h6,h7⟩=>by
 subst hs
 unfold wpListIn
 rw[if_pos (by rw[Yg r ops _ hg];exact hb)]
 have hEM:∀b,¬E.M b:=fun b ⟨id,q1,_⟩=>q1 (h2 id)
 have hkp:Kp (fun _=>False) E.w0 w:=⟨r.kp.os,r.kp.tape,r.kp.output,r.kp.size,fun b hb _=>r.kp.block b hb (hEM b)⟩
 have hsz:=r.kp.size
 have hJ:=c.ab i false L E.w0 w h4 hkp
 have hSL:∀b,(E.C β st w).S false b->¬L b/\(c.Z b\/c.W0<=b):=fun b ⟨q1,q2,q3⟩=>by
  have q3:E.w0.heap.size<=b\/E.M b\/(E.im b/\(false=true->E.fr b)):=q3
  rcases q3 with q3 | q3 | ⟨q3,_⟩
  ·exact⟨fun hl=>by have:=h5 b hl;omega,.inr (by omega)⟩
  ·exact absurd q3 (hEM b)
  exact h6 b q3
 have hxv:∀x∈xs,Ec (E.C β st w) (st.raw x).sv (a.eval x):=fun x hx=>(M9 r x).sv.1 (Am.1 hxb x hx)
 have hufo:a.eval (.tmp t)=.func (.yield l) #[] #[]:=by
  have:=(r.sl t).sv.1 hfb
  rw[hf] at this
  generalize hu:a.tmps.getD t undef=u at this
  cases this with
  | lit v=>exact hu
 obtain⟨fn,tmps,asg,body,hy,hR⟩:=c.rd i L w vs (xs.map a.eval).toArray hJ (fun b hb=>by have:=h5 b hb;omega) hvs (by rw[<- hx,P7];simp) fun j v u hv hu=>by
  rw[<- hx,Abo,Ap] at hv
  have hu:(xs.map a.eval)[j]? = some u:=by simpa using hu
  rw[Ap] at hu
  cases hq:xs[j]? with
  | none=>rw[hq] at hv;cases hv
  | some x =>
   rw[hq] at hv hu
   simp only[Ai,Option.some.injEq] at hv hu
   subst hv hu
   refine Ec.out (C:=E.C β st w) (C':=VCZ c.W0 c.Z L w) (fun b cur ty fz _ h=>h) (fun b hb=>?_) (hxv x (Ac hq))
   obtain⟨q1,q2⟩:=hSL b hb
   exact⟨hb.1,fun h=>q1 (Ako.1 h),q2.elim (fun q2=>.inr (.inr ⟨q2,fun e=>(by cases e)⟩)) fun q2=>.inl q2⟩
 refine⟨fun f _=>trivial,?_⟩
 have hrun:((Oper.semAt Fence.wide.round a.eval ⟨some d,.call ⟨.value (.tmp t),xs.toArray,ts⟩,ty,p,af,gd⟩)).run P w=.ok (.round l fn tmps asg body) w:=by
  rw[Oper.semAt_eq _ _ _ (fun c h=>by cases h)]
  have e1:xs.toArray.map a.eval=(xs.map a.eval).toArray:=by simp
  simp only[execOp,resolve,hufo,Deferred.ofValue,Sem.run_bind,Sem.run_pure,Result.andThen_ok,invoke,Array.empty_append,Array.append_empty,e1]
  exact hy
 rw[hrun]
 refine⟨fun h=>(by cases h),hR.mono ?_⟩
 rintro e W' ⟨b,L',rfl,q1,q2,q3,q4,q5⟩
 refine h b c _ W' ⟨⟨W',fun _=>.gone,fun _=>none,fun b=>(E.C β st w).S false b,fun _=>False,n,[],fun _=>none⟩,fun _=>none,L',rfl,fun _=>rfl,rfl,?_,q1,q2,fun b hb=>⟨q5 b hb.1 (hSL b hb).1,(hSL b hb).2⟩,by show c.W0<=W'.heap.size;omega⟩
 have r0:Eu ⟨W',fun _=>.gone,fun _=>none,fun b=>(E.C β st w).S false b,fun _=>False,n,[],fun _=>none⟩ (fun _=>none) ⟨Aq4 st.sl,[]⟩ a W':=by
  refine⟨r.sz.trans h1,fun t=>?_,by rw[r.df,h3],fun id=>trivial,fun i j b hi=>absurd rfl hi,fun i b hi=>absurd rfl hi,Kp.refl _ _,⟨fun id ty cs h=>(by cases h),fun id ty k fr fz es h=>(by cases h)⟩,fun b o h=>(by cases h),List.nodup_nil,fun D h=>by cases h⟩
  show Ec _ (E9 (Aq4 st.sl) t) _
  rw[Aka]
  refine (r.sl t).out (fun b cur ty fz hb hc=>q4 b cur ty fz (hSL b hb).1 hc) fun b hb=>⟨?_,fun⟨id,q6,_⟩=>(by cases q6),.inr (.inr ⟨hb,fun e=>(by cases e)⟩)⟩
  have:=hb.1
  show b<W'.heap.size
  have:b<w.heap.size:=this
  omega
 exact r0.put (.lit (.bool (!b))) (some d) fun x hx=>by injection hx with hx;subst hx;exact hd
theorem V1.noyield {d:Tmp} {o:Oper} (hod:o.dst=some d) (hg:st.gc (Oi ops o)) (hb:st.gb (Oi ops o)=false) (hd:d<n) (h:V1 P n items l ops l2 i s ⟨(d,.gd false .any)::st.sl,st.ob⟩ K):V1 P n items l ops (o::l2) i s st K:=fun c a w ⟨E,β,L,h1,h2,h3,r,h4⟩=>by
 unfold wpListIn
 rw[if_neg (by rw[Yg r ops _ hg,hb];simp)]
 refine⟨fun f _=>trivial,h c _ w ⟨E,β,L,h1,h2,h3,?_,h4⟩⟩
 rw[hod]
 exact r.put (.gd false _ _ (fun e=>by cases e) fun _=>rfl) (some d) fun x hx=>by injection hx with hx;subst hx;rw[h1];exact hd
end
section
variable {n:Nat} {items:List (List AV)} {l i:Nat} {s:Bool} {st:St} {K:Exit->Nat->Bool->St->Prop}
theorem VI.range {c:Code} (N:Nat) (f:Nat->St) (ix:Nat->Nat) (Inv:Nat->Prop) (h0:Zq 0 st (f 0)) (hi0:i=ix 0/\s=false/\Inv 0) (round:∀k,k<=N->Inv k->VI P n items l c (ix k) false (f k) (Exit.ithen (fun i' s' st'=>k<N/\i'=ix (k+1)/\s'=false/\Inv (k+1)/\Zq 0 st' (f (k+1))) K)):VI P n items l (.loop c) i s st K:=by
 refine .wkE h0 ?_
 obtain⟨rfl,rfl,hI⟩:=hi0
 refine .loop (fun z i s st=>∃k,k+z=N/\Inv k/\i=ix k/\s=false/\st=f k) N ⟨0,by omega,hI,rfl,rfl,rfl⟩ ?_
 rintro z i s st ⟨k,hk,hI,rfl,rfl,rfl⟩
 intro c a w r
 refine wpIn_mono (round k (by omega) hI c a w r) fun e a w ⟨i,s,st,h1,h2⟩=>⟨i,s,st,?_,h2⟩
 cases e with
 | normal =>
  obtain⟨h3,h4,h5,h6,h7⟩:=h1
  exact⟨z - 1,_,by omega,h7,k+1,by omega,h6,h4,h5,rfl⟩
 | _=>exact h1
abbrev Dq:=@VI.range
theorem V1.first (k:Nat) (hd:Ft n (os.take k)=true) (h:∀K1:St->Prop,(∀st,V1 P n items l ops (os.drop k) i s st K->K1 st)->Go.Proofs.YtkkimgjinbaemaaGreat.runs P ((os.take k).map fun o=>⟨o.dst,o.op,o.type,Oi ops o⟩) st K1):V1 P n items l ops os i s st K:=by
 have:=V1.runs (P:=P) (n:=n) (items:=items) (l:=l) (i:=i) (s:=s) (st:=st) (K:=K) (ops:=ops) (l1:=os.take k) (l2:=os.drop k) hd h
 rwa[List.take_append_drop] at this
theorem V1.rest (hd:Ft n os=true) (h:∀K1:St->Prop,(∀st,K .normal i s st->K1 st)->Go.Proofs.YtkkimgjinbaemaaGreat.runs P (os.map fun o=>⟨o.dst,o.op,o.type,Oi ops o⟩) st K1):V1 P n items l ops os i s st K:=by
 have:=V1.runs (P:=P) (n:=n) (items:=items) (l:=l) (i:=i) (s:=s) (st:=st) (K:=K) (ops:=ops) (l1:=os) (l2:=[]) hd fun K1 hK1=>h K1 fun st h=>hK1 st (.nil h)
 rwa[List.append_nil] at this
end
theorem Afr {gf:FuncId} {fn:Func} {code:Code} {caps:List AV} {items:List (List AV)} (hf:P.funcs[gf]? = some fn) (hb:fn.body=some code) (hn:(fn.name == "runtime.NumGoroutine")=false) (hrs:fn.results = #[]) (hk:caps.length+1<=fn.ntmps) (hc:Abp caps=caps)
 (h:∀l,VI P fn.ntmps items l code 0 false ⟨Ic 0 (.lit (.func (.yield l) #[] #[])::caps),[]⟩ fun e i s st=>(e=.normal\/e=.ret)/\(s=false->i=items.length)):Zu P gf caps items:=by
 have hcal:Ah5 P gf:=⟨fn,hf,by rw[hb];rfl,hn⟩
 refine⟨hcal,fun C lb W hsz hS hv l L0 J hL0 hL1 hab hrd h0=>?_⟩
 have hlb:lb.size=caps.length:=by cases hv with | fn f cs us h1 h2=>exact h1.symm
 have hcr:∀(j:Nat) (c:AV) (u:Value),caps[j]? = some c->lb[j]? = some u->Ec C c u:=by cases hv with | fn f cs us h1 h2=>exact h2
 refine (callsIn_wide (n:=0)).1 (callsIn_of_wp_marks hf hb trivial ?_)
 let c:YC P items l:=⟨W.heap.size,C.S false,J,hab,hrd⟩
 have hr:Eu ⟨W,fun _=>.gone,fun _=>none,fun b=>C.S false b,fun _=>False,fn.ntmps,[],fun _=>none⟩ (fun _=>none) ⟨Ic 0 (.lit (.func (.yield l) #[] #[])::caps),[]⟩ ⟨(#[.func (.yield l) #[] #[]]++lb)++Array.replicate (fn.ntmps - (#[Value.func (.yield l) #[] #[]]++lb).size) undef,[]⟩ W:=by
  refine⟨by simp[hlb];omega,fun t=>?_,rfl,fun id=>trivial,fun i j b hi=>absurd rfl hi,fun i b hi=>absurd rfl hi,Kp.refl _ _,⟨fun id ty cs h=>(by cases h),fun id ty k fr fz es h=>(by cases h)⟩,fun b o h=>(by cases h),List.nodup_nil,fun D h=>by cases h⟩
  show Ec _ (E9 (Ic 0 _) t) _
  rw[Lx,if_pos (Ae _),Nat.sub_zero,Ad]
  cases t with
  | zero =>
   have:((#[Value.func (.yield l) #[] #[]]++lb)++Array.replicate (fn.ntmps - (#[Value.func (.yield l) #[] #[]]++lb).size) undef).getD 0 undef=.func (.yield l) #[] #[]:=by
    rw[Av,Bk (by simp;omega),Bk (by simp)];rfl
   show Ec _ _ (((#[Value.func (.yield l) #[] #[]]++lb)++Array.replicate (fn.ntmps - (#[Value.func (.yield l) #[] #[]]++lb).size) undef).getD 0 undef)
   rw[this]
   exact .lit _
  | succ t =>
   rw[Bb]
   cases hq:caps[t]? with
   | none=>exact .any _
   | some x =>
    have ht:t<lb.size:=by rw[hlb];exact (Ab.1 hq).1
    have h3:=hcr t x _ hq (Al ht)
    have h4:=h3.out (C':=(⟨W,fun _=>.gone,fun _=>none,fun b=>C.S false b,fun _=>False,fn.ntmps,[],fun _=>none⟩:Gs).C (fun _=>none) ⟨Ic 0 (.lit (.func (.yield l) #[] #[])::caps),[]⟩ W) (fun b cur ty fz hb hc=>(hS b hb).trans hc) fun b hb=>⟨by have:=hb.1;show b<W.heap.size;omega,fun⟨id,q,_⟩=>(by cases q),.inr (.inr ⟨hb,fun e=>(by cases e)⟩)⟩
    have h5:x.out=x:=by
     have:=Abo caps t
     rw[hc,hq] at this
     simpa using this.symm
    rw[h5] at h4
    rw[Av,Bk (by simp;omega),Array.getElem?_append_right (by simp)]
    simp only[List.size_toArray,A6,List.length_nil,Bm,Nat.add_sub_cancel]
    rw[Al ht]
    exact h4
 refine wpIn_mono (h l c _ W ⟨_,_,L0,rfl,fun _=>rfl,rfl,hr,h0,hL0,fun b hb=>⟨hL1 b hb,.inl hb⟩,Aj _⟩) fun e a w ⟨i,s,st,⟨he,hi⟩,E,β,L,h1,h2,h3,r,h4,h5,h6,h7⟩=>?_
 have hEM:∀b,¬E.M b:=fun b ⟨id,q1,_⟩=>q1 (h2 id)
 have hJ:=hab i s L E.w0 w h4 ⟨r.kp.os,r.kp.tape,r.kp.output,r.kp.size,fun b hb _=>r.kp.block b hb (hEM b)⟩
 have key:LeavesInM Fence.wide 0 P fn a.tmps (fun e W'=>(∃v,e=.returned v)/\∃i s L',J i s L' W'/\(s=false->i=items.length)) a.defers .returning w:=by
  rw[r.df,h3]
  obtain⟨v,g1,_⟩:=Ajz (P:=P) r (fn:=fn) (rs:=[]) hrs trivial
  exact⟨v,g1,⟨v,rfl⟩,i,s,L,hJ,hi⟩
 rcases he with rfl | rfl<;>exact key
def Z8:AV->Option T
 | .lit v=>some (.lit v)
 | .imm _ k es=>some (.sl k es)
 | .nil k=>some (.sl k [])
 | .fn f [.iptr _ cs off]=>some (.fn f cs off)
 | _=>none
variable {f:FuncId}
theorem Alj {cs:List AV} {x:T} (h:Z8 (.fn f cs)=some x):∃fr ts off,cs=[.iptr fr ts off]/\x=.fn f ts off:=by
 unfold Z8 at h
 split at h<;>rename_i hx
 all_goals first | cases hx | skip
 all_goals first | (injection h with h;exact⟨_,_,_,rfl,h.symm⟩) | cases h
def ttL:List AV->Option (List T)
 | []=>some []
 | c::cs=>match Z8 c with
  | none=>none
  | some t=>match ttL cs with
   | none=>none
   | some ts=>some (t::ts)
theorem Afh:∀{cs:List AV} {ts:List T},ttL cs=some ts->∀(j:Nat) (x:T),ts[j]? = some x->∃c,cs[j]? = some c/\Z8 c=some x
 | [],ts,h,j,x,hx=>by
  simp only[ttL,Option.some.injEq] at h
  subst h
  simp at hx
 | c::cs,ts,h,j,x,hx=>by
  unfold ttL at h
  split at h
  ·cases h
  rename_i t ht
  split at h
  ·cases h
  rename_i ts' hts
  simp only[Option.some.injEq] at h
  subst h
  cases j with
  | zero=>simp at hx;subst hx;exact⟨c,rfl,ht⟩
  | succ j=>simp at hx;exact Afh hts j x hx
mutual
def AV.bx (o:Nat->Ob):AV->AV
 | .ptr id off=>match o id with
  | .box _ cs=>(match ttL cs with | some ts=>.iptr false ts off | none=>.any)
  | _=>.any
 | .imm _ k es=>.imm false k es
 | .nil k=>.imm false k []
 | .iptr _ cs off=>.iptr false cs off
 | .agg cs=>.agg (bxL o cs)
 | .tup cs=>.tup (bxL o cs)
 | .fn f cs=>.fn f (bxL o cs)
 | .lit v=>.lit v
 | .gd t v=>.gd t (v.bx o)
 | _=>.any
def bxL (o:Nat->Ob):List AV->List AV
 | []=>[]
 | c::cs=>c.bx o::bxL o cs
end
theorem Atb (o:Nat->Ob):∀(cs:List AV) (i:Nat),(bxL o cs)[i]? = (cs[i]?).map (AV.bx o)
 | [],i=>by simp[bxL]
 | c::cs,0=>by simp[bxL]
 | c::cs,i+1=>by simp[bxL,Atb o cs i]
theorem V0 (o:Nat->Ob):∀(cs:List AV),(bxL o cs).length=cs.length
 | []=>rfl
 | c::cs=>by simp[bxL,V0 o cs]
theorem Ec.bx {E:Gs} {β:Nat->Option Nat} {st:St} {a:Act} (r:Eu E β st a w) {C':VC} (hh:C'.h=w.heap) (hS:∀b,(E.C β st w).S false b->C'.S false b) (hB:∀id ty cs b,st.o id=.box ty cs->β id=some b->C'.S false b) {c:AV} (h:Ec (E.C β st w) c u):Ec C' (c.bx st.o) u:=by
 have hT:∀fr t u,Gq w.heap ((E.C β st w).S fr) t u->Gq C'.h (C'.S false) t u:=fun fr t u h=>by
  rw[hh]
  exact (VC.T_weak (C:=E.C β st w) (g:=false) h fun e=>by cases e).keep (fun _ _=>rfl) hS
 have hL:∀(cs:List AV) (us:Array Value),(∀(i:Nat) (c:AV) (u:Value),cs[i]? = some c->us[i]? = some u->Ec C' (c.bx st.o) u)->∀(i:Nat) (c:AV) (u:Value),(bxL st.o cs)[i]? = some c->us[i]? = some u->Ec C' c u:=fun cs us ih i c u hc hu=>by
  rw[Atb] at hc
  cases hx:cs[i]? with
  | none=>rw[hx] at hc;cases hc
  | some x =>
   rw[hx] at hc
   simp only[Ai,Option.some.injEq] at hc
   subst hc
   exact ih i x u hx hu
 induction h with
 | any u=>exact .any u
 | lit v=>exact .lit v
 | nil k A=>exact .imm _ _ _ _ (.nil _ _ _)
 | imm fr k es u h=>exact .imm _ _ _ _ (hT fr _ _ h)
 | own id n u h=>exact .any u
 | sub id n lo m u h=>exact .any u
 | rptr id n i off u h=>exact .any u
 | bsl id n u h=>exact .any u
 | ptr id off u h =>
  obtain⟨ty,cs,b,ho,hb,rfl⟩:=h
  have ho:st.o id=_:=ho
  have hb:β id=some b:=hb
  simp only[AV.bx,ho]
  cases hq:ttL cs with
  | none=>exact .any _
  | some ts =>
   have hr:=r.ob id
   rw[ho] at hr
   obtain⟨b',cur,q1,q2,q3,q4⟩:=hr
   have q1:β id=some b':=q1
   rw[hb] at q1
   injection q1 with q1
   subst q1
   have hcell:∀(j:Nat) (x:T),ts[j]? = some x->cur[0+j]? = some ((cur[j]?).getD undef)/\Gq C'.h (C'.S false) x ((cur[j]?).getD undef):=fun j x hx=>by
    obtain⟨c,h1,h2⟩:=Afh hq j x hx
    have hj:j<cur.size:=Nat.lt_of_lt_of_le (Ab.1 h1).1 q3
    have h3:cur[j]? = some cur[j]:=Al hj
    obtain⟨h4,h5⟩:=q4 j c _ h1 h3
    rw[Bm,h3]
    refine⟨rfl,?_⟩
    simp only[Bh]
    generalize cur[j]=u at h4 h5
    cases h4 with
    | lit v=>simp only[Z8,Option.some.injEq] at h2;subst h2;exact .lit _ h5
    | nil k A=>simp only[Z8,Option.some.injEq] at h2;subst h2;exact .nil _ _ _
    | imm fr k es u h=>simp only[Z8,Option.some.injEq] at h2;subst h2;exact hT fr _ _ h
    | fn f cs us g1 g2 =>
     obtain⟨fr,ts',off',rfl,rfl⟩:=Alj h2
     exact hT fr _ _ (Ec.fn1 (.fn f _ us g1 g2))
    | _=>cases h2
   have:=Ec.iptr (C:=C') false ts off b 0 cur ty (0,0) (fun j=>(cur[j]?).getD undef) (by rw[hh];exact q2) (hB id ty cs b ho hb) hcell
   rwa[Bm] at this
 | iptr fr cs off b o cur ty fz us h1 h2 h3=>exact .iptr false cs off b o cur ty fz us (by rw[hh];exact h1) (hS b (VC.S_weak h2)) fun j x hx=>⟨(h3 j x hx).1,hT fr _ _ (h3 j x hx).2⟩
 | agg cs us h1 h2 ih=>exact .agg _ _ (by rw[V0];exact h1) (hL cs us ih)
 | tup cs us h1 h2 ih=>exact .tup _ _ (by rw[V0];exact h1) (hL cs us ih)
 | fn f cs us h1 h2 ih=>exact .fn f _ _ (by rw[V0];exact h1) (hL cs us ih)
 | gd t v u h1 h2 ih=>exact .gd t _ u (fun e=>ih e) h2
theorem E7.boxes {args:List AV} {σr:List Ob} {res res':AV} (h:E7 P f [] args σr res) (hr:res.bx (St.mk [] σr).o=res'):E7 P f [] args [] res':=by
 refine⟨h.1,fun E β us hn ho hβ r=>(h.2 E β us hn ho hβ r).mono ?_⟩
 rintro e w' ⟨v,β',rfl,r1⟩
 refine⟨v,fun _=>none,rfl,r1.sz,fun t=>?_,r1.df,fun id=>trivial,fun i j b hi=>absurd rfl hi,fun i b hi=>absurd rfl hi,r1.kp,⟨fun id ty cs hc=>?_,fun id ty k fr fz es hc=>?_⟩,r1.kb,r1.dk⟩
 ·cases t with
  | zero =>
   have h1:=r1.sl 0
   have h2:=Ec.bx (C':=({ E with n:=1 }:Gs).C (fun _=>none) ⟨[(0,res')],[]⟩ w') r1 rfl (fun b hb=>⟨hb.1,fun⟨id,q,_⟩=>(by cases q),hb.2.2⟩) (fun id ty cs b h3 h4=>by
    have:=r1.rng id b (by rw[h3];simp) h4
    exact⟨this.1,fun⟨id,q,_⟩=>(by cases q),this.2.elim .inl fun h=>.inr (.inl h)⟩) h1
   show Ec _ res' _
   rw[<- hr]
   exact h2
  | succ t=>exact .any _
 ·have hc:E.o0 id=_:=hc
  rw[ho] at hc
  simp[St.o] at hc
 have hc:E.o0 id=_:=hc
 rw[ho] at hc
 simp[St.o] at hc
theorem A15 {st:St}:st.raw (.const .nilFunc)=.lit .nilFunc:=rfl
attribute [go_sem] A15 AV.out Abp Aq4 Z8 ttL AV.bx bxL
end
theorem Gk (es:List (List T)) (h:es.length<=1000000) (hp:es.all (fun e=>e.all T.plain)=true):PP 63 [] [.imm false 1 es] [.row 5 1 true false es] (.own 0 es.length):=by
 refine Em Tryz.func63 ?_
 refine Bw<|.seq ?_
 refine Co (fr:=false) (k:=1) (es:=es) (by simp[go_sem]) (by decide) (by decide) (by simp[go_sem]) (fun he=>?_) ?_
 ·subst he
  refine Da (fun h=>?_) (fun h=>?_)
  ·refine Bx (by rfl) fun K1 hK1=>?_
   simp[go_sem]
   refine hK1 _ ?_
   refine Cn 2 5 1 (by decide) (by simp[go_sem];rfl) ?_
   refine Cr 0 (by simp[go_sem,F8]) (by simp[go_sem,hp]) ?_
   refine Cq ?_
   simp[go_sem]
   skip
  simp[go_sem] at h
 refine Da (fun h=>?_) (fun h=>?_)
 ·simp[go_sem] at h
 refine Bv ?_
 refine Bx (by rfl) fun K1 hK1=>?_
 simp[go_sem]
 refine⟨by omega,hK1 _ ?_⟩
 refine Cr 0 (by simp[go_sem,F8]) (by simp[go_sem,hp]) ?_
 refine Cq ?_
 simp[go_sem]
 skip
section
variable (es:List (List T)) (h:es.length<=1000000)
include h
theorem Aa3:PP 85 [] [.imm false 17 es] [.row 70 17 false false es] (.own 0 es.length):=by
 refine Em Tryz.func85 ?_
 refine Bw<|.seq ?_
 refine Co (fr:=false) (k:=17) (es:=es) (by simp[go_sem]) (by decide) (by decide) (by simp[go_sem]) (fun he=>?_) ?_
 ·subst he
  refine Da (fun h=>?_) (fun h=>?_)
  ·refine Bx (by rfl) fun K1 hK1=>?_
   simp[go_sem]
   refine hK1 _ ?_
   refine Cn 2 70 17 (by decide) (by simp[go_sem];rfl) ?_
   refine Cq ?_
   simp[go_sem]
   skip
  simp[go_sem] at h
 refine Da (fun h=>?_) (fun h=>?_)
 ·simp[go_sem] at h
 refine Bv ?_
 refine Bx (by rfl) fun K1 hK1=>?_
 simp[go_sem]
 refine⟨by omega,hK1 _ ?_⟩
 refine Cq ?_
 simp[go_sem]
 skip
theorem Xh:PP 87 [] [.imm false 5 es] [.row 135 5 false false es] (.own 0 es.length):=by
 refine Em Tryz.func87 ?_
 refine Bw<|.seq ?_
 refine Co (fr:=false) (k:=5) (es:=es) (by simp[go_sem]) (by decide) (by decide) (by simp[go_sem]) (fun he=>?_) ?_
 ·subst he
  refine Da (fun h=>?_) (fun h=>?_)
  ·refine Bx (by rfl) fun K1 hK1=>?_
   simp[go_sem]
   refine hK1 _ ?_
   refine Cn 2 135 5 (by decide) (by simp[go_sem];rfl) ?_
   refine Cq ?_
   simp[go_sem]
   skip
  simp[go_sem] at h
 refine Da (fun h=>?_) (fun h=>?_)
 ·simp[go_sem] at h
 refine Bv ?_
 refine Bx (by rfl) fun K1 hK1=>?_
 simp[go_sem]
 refine⟨by omega,hK1 _ ?_⟩
 refine Cq ?_
 simp[go_sem]
 skip
theorem Wf:PP 89 [] [.imm false 3 es] [.row 138 3 false false es] (.own 0 es.length):=by
 refine Em Tryz.func89 ?_
 refine Bw<|.seq ?_
 refine Co (fr:=false) (k:=3) (es:=es) (by simp[go_sem]) (by decide) (by decide) (by simp[go_sem]) (fun he=>?_) ?_
 ·subst he
  refine Da (fun h=>?_) (fun h=>?_)
  ·refine Bx (by rfl) fun K1 hK1=>?_
   simp[go_sem]
   refine hK1 _ ?_
   refine Cn 2 138 3 (by decide) (by simp[go_sem];rfl) ?_
   refine Cq ?_
   simp[go_sem]
   skip
  simp[go_sem] at h
 refine Da (fun h=>?_) (fun h=>?_)
 ·simp[go_sem] at h
 refine Bv ?_
 refine Bx (by rfl) fun K1 hK1=>?_
 simp[go_sem]
 refine⟨by omega,hK1 _ ?_⟩
 refine Cq ?_
 simp[go_sem]
 skip
end
theorem Hm (es:List (List T)) (h:es.length<=1000000) (hp:es.all (fun e=>e.all T.plain)=true):PP 91 [] [.imm false 1 es] [.row 3 1 true false es] (.own 0 es.length):=by
 refine Em Tryz.func91 ?_
 refine Bw<|.seq ?_
 refine Co (fr:=false) (k:=1) (es:=es) (by simp[go_sem]) (by decide) (by decide) (by simp[go_sem]) (fun he=>?_) ?_
 ·subst he
  refine Da (fun h=>?_) (fun h=>?_)
  ·refine Bx (by rfl) fun K1 hK1=>?_
   simp[go_sem]
   refine hK1 _ ?_
   refine Cn 2 3 1 (by decide) (by simp[go_sem];rfl) ?_
   refine Cr 0 (by simp[go_sem,F8]) (by simp[go_sem,hp]) ?_
   refine Cq ?_
   simp[go_sem]
   skip
  simp[go_sem] at h
 refine Da (fun h=>?_) (fun h=>?_)
 ·simp[go_sem] at h
 refine Bv ?_
 refine Bx (by rfl) fun K1 hK1=>?_
 simp[go_sem]
 refine⟨by omega,hK1 _ ?_⟩
 refine Cr 0 (by simp[go_sem,F8]) (by simp[go_sem,hp]) ?_
 refine Cq ?_
 simp[go_sem]
 skip
theorem Wg (es:List (List T)) (h:es.length<=1000000):PP 116 [] [.imm false 5 es] [.row 164 5 false false es] (.own 0 es.length):=by
 refine Em Tryz.func116 ?_
 refine Bw<|.seq ?_
 refine Co (fr:=false) (k:=5) (es:=es) (by simp[go_sem]) (by decide) (by decide) (by simp[go_sem]) (fun he=>?_) ?_
 ·subst he
  refine Da (fun h=>?_) (fun h=>?_)
  ·refine Bx (by rfl) fun K1 hK1=>?_
   simp[go_sem]
   refine hK1 _ ?_
   refine Cn 2 164 5 (by decide) (by simp[go_sem];rfl) ?_
   refine Cq ?_
   simp[go_sem]
   skip
  simp[go_sem] at h
 refine Da (fun h=>?_) (fun h=>?_)
 ·simp[go_sem] at h
 refine Bv ?_
 refine Bx (by rfl) fun K1 hK1=>?_
 simp[go_sem]
 refine⟨by omega,hK1 _ ?_⟩
 refine Cq ?_
 simp[go_sem]
 skip
theorem Ng (es:List (List T)) (h:es.length<=1000000) (hp:es.all (fun e=>e.all T.plain)=true):PP 117 [] [.imm false 5 es] [.row 166 5 true false es] (.own 0 es.length):=by
 refine Em Tryz.func117 ?_
 refine Bw<|.seq ?_
 refine Co (fr:=false) (k:=5) (es:=es) (by simp[go_sem]) (by decide) (by decide) (by simp[go_sem]) (fun he=>?_) ?_
 ·subst he
  refine Da (fun h=>?_) (fun h=>?_)
  ·refine Bx (by rfl) fun K1 hK1=>?_
   simp[go_sem]
   refine hK1 _ ?_
   refine Cn 2 166 5 (by decide) (by simp[go_sem];rfl) ?_
   refine Cr 0 (by simp[go_sem,F8]) (by simp[go_sem,hp]) ?_
   refine Cq ?_
   simp[go_sem]
   skip
  simp[go_sem] at h
 refine Da (fun h=>?_) (fun h=>?_)
 ·simp[go_sem] at h
 refine Bv ?_
 refine Bx (by rfl) fun K1 hK1=>?_
 simp[go_sem]
 refine⟨by omega,hK1 _ ?_⟩
 refine Cr 0 (by simp[go_sem,F8]) (by simp[go_sem,hp]) ?_
 refine Cq ?_
 simp[go_sem]
 skip
theorem Xg (es:List (List T)) (h:es.length<=1000000):PP 118 [] [.imm false 1 es] [.row 44 1 false false es] (.own 0 es.length):=by
 refine Em Tryz.func118 ?_
 refine Bw<|.seq ?_
 refine Co (fr:=false) (k:=1) (es:=es) (by simp[go_sem]) (by decide) (by decide) (by simp[go_sem]) (fun he=>?_) ?_
 ·subst he
  refine Da (fun h=>?_) (fun h=>?_)
  ·refine Bx (by rfl) fun K1 hK1=>?_
   simp[go_sem]
   refine hK1 _ ?_
   refine Cn 2 44 1 (by decide) (by simp[go_sem];rfl) ?_
   refine Cq ?_
   simp[go_sem]
   skip
  simp[go_sem] at h
 refine Da (fun h=>?_) (fun h=>?_)
 ·simp[go_sem] at h
 refine Bv ?_
 refine Bx (by rfl) fun K1 hK1=>?_
 simp[go_sem]
 refine⟨by omega,hK1 _ ?_⟩
 refine Cq ?_
 simp[go_sem]
 skip
section
variable (es:List (List T)) (h:es.length<=1000000) (hp:es.all (fun e=>e.all T.plain)=true)
include h hp
theorem Zh:PP 119 [] [.imm false 1 es] [.row 4 1 true false es] (.own 0 es.length):=by
 refine Em Tryz.func119 ?_
 refine Bw<|.seq ?_
 refine Co (fr:=false) (k:=1) (es:=es) (by simp[go_sem]) (by decide) (by decide) (by simp[go_sem]) (fun he=>?_) ?_
 ·subst he
  refine Da (fun h=>?_) (fun h=>?_)
  ·refine Bx (by rfl) fun K1 hK1=>?_
   simp[go_sem]
   refine hK1 _ ?_
   refine Cn 2 4 1 (by decide) (by simp[go_sem];rfl) ?_
   refine Cr 0 (by simp[go_sem,F8]) (by simp[go_sem,hp]) ?_
   refine Cq ?_
   simp[go_sem]
   skip
  simp[go_sem] at h
 refine Da (fun h=>?_) (fun h=>?_)
 ·simp[go_sem] at h
 refine Bv ?_
 refine Bx (by rfl) fun K1 hK1=>?_
 simp[go_sem]
 refine⟨by omega,hK1 _ ?_⟩
 refine Cr 0 (by simp[go_sem,F8]) (by simp[go_sem,hp]) ?_
 refine Cq ?_
 simp[go_sem]
 skip
theorem T2:PP 120 [] [.imm false 2 es] [.row 185 2 true false es] (.own 0 es.length):=by
 refine Em Tryz.func120 ?_
 refine Bw<|.seq ?_
 refine Co (fr:=false) (k:=2) (es:=es) (by simp[go_sem]) (by decide) (by decide) (by simp[go_sem]) (fun he=>?_) ?_
 ·subst he
  refine Da (fun h=>?_) (fun h=>?_)
  ·refine Bx (by rfl) fun K1 hK1=>?_
   simp[go_sem]
   refine hK1 _ ?_
   refine Cn 2 185 2 (by decide) (by simp[go_sem];rfl) ?_
   refine Cr 0 (by simp[go_sem,F8]) (by simp[go_sem,hp]) ?_
   refine Cq ?_
   simp[go_sem]
   skip
  simp[go_sem] at h
 refine Da (fun h=>?_) (fun h=>?_)
 ·simp[go_sem] at h
 refine Bv ?_
 refine Bx (by rfl) fun K1 hK1=>?_
 simp[go_sem]
 refine⟨by omega,hK1 _ ?_⟩
 refine Cr 0 (by simp[go_sem,F8]) (by simp[go_sem,hp]) ?_
 refine Cq ?_
 simp[go_sem]
 skip
end
section
variable (es:List (List T)) (h:es.length<=1000000)
include h
theorem Alh:PP 121 [] [.imm false 4 es] [.row 128 4 false false es] (.own 0 es.length):=by
 refine Em Tryz.func121 ?_
 refine Bw<|.seq ?_
 refine Co (fr:=false) (k:=4) (es:=es) (by simp[go_sem]) (by decide) (by decide) (by simp[go_sem]) (fun he=>?_) ?_
 ·subst he
  refine Da (fun h=>?_) (fun h=>?_)
  ·refine Bx (by rfl) fun K1 hK1=>?_
   simp[go_sem]
   refine hK1 _ ?_
   refine Cn 2 128 4 (by decide) (by simp[go_sem];rfl) ?_
   refine Cq ?_
   simp[go_sem]
   skip
  simp[go_sem] at h
 refine Da (fun h=>?_) (fun h=>?_)
 ·simp[go_sem] at h
 refine Bv ?_
 refine Bx (by rfl) fun K1 hK1=>?_
 simp[go_sem]
 refine⟨by omega,hK1 _ ?_⟩
 refine Cq ?_
 simp[go_sem]
 skip
theorem T1:PP 145 [] [.imm false 6 es] [.row 73 6 false false es] (.own 0 es.length):=by
 refine Em Tryz.func145 ?_
 refine Bw<|.seq ?_
 refine Co (fr:=false) (k:=6) (es:=es) (by simp[go_sem]) (by decide) (by decide) (by simp[go_sem]) (fun he=>?_) ?_
 ·subst he
  refine Da (fun h=>?_) (fun h=>?_)
  ·refine Bx (by rfl) fun K1 hK1=>?_
   simp[go_sem]
   refine hK1 _ ?_
   refine Cn 2 73 6 (by decide) (by simp[go_sem];rfl) ?_
   refine Cq ?_
   simp[go_sem]
   skip
  simp[go_sem] at h
 refine Da (fun h=>?_) (fun h=>?_)
 ·simp[go_sem] at h
 refine Bv ?_
 refine Bx (by rfl) fun K1 hK1=>?_
 simp[go_sem]
 refine⟨by omega,hK1 _ ?_⟩
 refine Cq ?_
 simp[go_sem]
 skip
end
theorem We (es:List (List T)) (h:es.length<=1000000) (hp:es.all (fun e=>e.all T.plain)=true):PP 146 [] [.imm false 2 es] [.row 216 2 true false es] (.own 0 es.length):=by
 refine Em Tryz.func146 ?_
 refine Bw<|.seq ?_
 refine Co (fr:=false) (k:=2) (es:=es) (by simp[go_sem]) (by decide) (by decide) (by simp[go_sem]) (fun he=>?_) ?_
 ·subst he
  refine Da (fun h=>?_) (fun h=>?_)
  ·refine Bx (by rfl) fun K1 hK1=>?_
   simp[go_sem]
   refine hK1 _ ?_
   refine Cn 2 216 2 (by decide) (by simp[go_sem];rfl) ?_
   refine Cr 0 (by simp[go_sem,F8]) (by simp[go_sem,hp]) ?_
   refine Cq ?_
   simp[go_sem]
   skip
  simp[go_sem] at h
 refine Da (fun h=>?_) (fun h=>?_)
 ·simp[go_sem] at h
 refine Bv ?_
 refine Bx (by rfl) fun K1 hK1=>?_
 simp[go_sem]
 refine⟨by omega,hK1 _ ?_⟩
 refine Cr 0 (by simp[go_sem,F8]) (by simp[go_sem,hp]) ?_
 refine Cq ?_
 simp[go_sem]
 skip
abbrev tI (l:List Int):List (List T):=l.map fun x=>[.lit (.int .i64 x)]
abbrev tY (l:List Int):List (List T):=l.map fun x=>[.lit (.int .u8 x)]
abbrev tB (l:List Bool):List (List T):=l.map fun x=>[.lit (.bool x)]
abbrev tYs (l:List (List Int)):List (List T):=l.map fun x=>[.sl 1 (tY x)]
structure F6 where
  ring:Int
  grp:Int
  mi:Int
  ma:Int
  ye:Int
  re:Int
  wa:Int
  cl:Int
def F6.t (x:F6):List T:=[.lit (.int .i64 x.ring),.lit (.int .i64 x.grp),.lit (.int .i64 x.mi),.lit (.int .i64 x.ma),.lit (.int .i64 x.ye),.lit (.int .i64 x.re),.lit (.int .i64 x.wa),.lit (.int .i64 x.cl)]
def F6.a (fr:Bool) (x:F6):List AV:=[.lit (.int .i64 x.ring),.lit (.int .i64 x.grp),.lit (.int .i64 x.mi),.lit (.int .i64 x.ma),.lit (.int .i64 x.ye),.lit (.int .i64 x.re),.lit (.int .i64 x.wa),.lit (.int .i64 x.cl)]
abbrev R2 (l:List F6):List (List T):=l.map F6.t
attribute [go_sem] F6.t F6.a
structure F9 where
  phs:List F6
  con:List Int
  start:Int
def F9.t (x:F9):List T:=[.sl 8 (R2 x.phs),.sl 1 (tI x.con),.lit (.int .i64 x.start)]
def F9.a (fr:Bool) (x:F9):List AV:=[.imm fr 8 (R2 x.phs),.imm fr 1 (tI x.con),.lit (.int .i64 x.start)]
abbrev Aab (l:List F9):List (List T):=l.map F9.t
attribute [go_sem] F9.t F9.a
structure G2 where
  sec:List Int
  ri:Int
  cls:Int
  lims:List Int
  rq:Int
  se:Int
  ra:Int
  bu:Int
def G2.t (x:G2):List T:=[.sl 1 (tY x.sec),.lit (.int .i64 x.ri),.lit (.int .i64 x.cls),.sl 1 (tI x.lims),.lit (.int .i64 x.rq),.lit (.int .i64 x.se),.lit (.int .i64 x.ra),.lit (.int .i64 x.bu)]
def G2.a (fr:Bool) (x:G2):List AV:=[.imm fr 1 (tY x.sec),.lit (.int .i64 x.ri),.lit (.int .i64 x.cls),.imm fr 1 (tI x.lims),.lit (.int .i64 x.rq),.lit (.int .i64 x.se),.lit (.int .i64 x.ra),.lit (.int .i64 x.bu)]
abbrev tAg (l:List G2):List (List T):=l.map G2.t
attribute [go_sem] G2.t G2.a
structure E5 where
  juns:List F9
  ags:List G2
  per:Int
  cap:Int
  hold:Int
  lock:Int
def E5.t (x:E5):List T:=[.sl 3 (Aab x.juns),.sl 8 (tAg x.ags),.lit (.int .i64 x.per),.lit (.int .i64 x.cap),.lit (.int .i64 x.hold),.lit (.int .i64 x.lock)]
def E5.a (fr:Bool) (x:E5):List AV:=[.imm fr 3 (Aab x.juns),.imm fr 8 (tAg x.ags),.lit (.int .i64 x.per),.lit (.int .i64 x.cap),.lit (.int .i64 x.hold),.lit (.int .i64 x.lock)]
attribute [go_sem] E5.t E5.a
structure F0 where
  l:Int
  n:Int
def F0.t (x:F0):List T:=[.lit (.int .i64 x.l),.lit (.int .i64 x.n)]
def F0.a (fr:Bool) (x:F0):List AV:=[.lit (.int .i64 x.l),.lit (.int .i64 x.n)]
abbrev Iv (l:List F0):List (List T):=l.map F0.t
attribute [go_sem] F0.t F0.a
structure Ok where
  lights:List F0
  grp:Int
  nxt:List Int
  wt:Int
def Ok.t (x:Ok):List T:=[.sl 2 (Iv x.lights),.lit (.int .i64 x.grp),.sl 1 (tI x.nxt),.lit (.int .i64 x.wt)]
def Ok.a (fr:Bool) (x:Ok):List AV:=[.imm fr 2 (Iv x.lights),.lit (.int .i64 x.grp),.imm fr 1 (tI x.nxt),.lit (.int .i64 x.wt)]
attribute [go_sem] Ok.t Ok.a
structure Ib where
  ctl:Ok
  lat:Bool
def Ib.t (x:Ib):List T:=[.sl 2 (Iv x.ctl.lights),.lit (.int .i64 x.ctl.grp),.sl 1 (tI x.ctl.nxt),.lit (.int .i64 x.ctl.wt),.lit (.bool x.lat)]
def Ib.a (fr:Bool) (x:Ib):List AV:=[.imm fr 2 (Iv x.ctl.lights),.lit (.int .i64 x.ctl.grp),.imm fr 1 (tI x.ctl.nxt),.lit (.int .i64 x.ctl.wt),.lit (.bool x.lat)]
abbrev P2 (l:List Ib):List (List T):=l.map Ib.t
attribute [go_sem] Ib.t Ib.a
structure Fq where
  used:Bool
  sec:List Int
  par:Int
  ri:Int
  cls:Int
  unt:Int
def Fq.t (x:Fq):List T:=[.lit (.bool x.used),.sl 1 (tY x.sec),.lit (.int .i64 x.par),.lit (.int .i64 x.ri),.lit (.int .i64 x.cls),.lit (.int .i64 x.unt)]
def Fq.a (fr:Bool) (x:Fq):List AV:=[.lit (.bool x.used),.imm fr 1 (tY x.sec),.lit (.int .i64 x.par),.lit (.int .i64 x.ri),.lit (.int .i64 x.cls),.lit (.int .i64 x.unt)]
abbrev P1 (l:List Fq):List (List T):=l.map Fq.t
attribute [go_sem] Fq.t Fq.a
structure G6 where
  id:Int
  cls:Int
def G6.t (x:G6):List T:=[.lit (.int .i64 x.id),.lit (.int .i64 x.cls)]
def G6.a (fr:Bool) (x:G6):List AV:=[.lit (.int .i64 x.id),.lit (.int .i64 x.cls)]
abbrev Aaa (l:List G6):List (List T):=l.map G6.t
attribute [go_sem] G6.t G6.a
structure Jh where
  lv:Int
  ra:Int
  bu:Int
def Jh.t (x:Jh):List T:=[.lit (.int .i64 x.lv),.lit (.int .i64 x.ra),.lit (.int .i64 x.bu)]
def Jh.a (fr:Bool) (x:Jh):List AV:=[.lit (.int .i64 x.lv),.lit (.int .i64 x.ra),.lit (.int .i64 x.bu)]
attribute [go_sem] Jh.t Jh.a
structure Jg where
  num:Int
  ag:G2
  toks:List Fq
  vehs:List G6
  bk:Jh
def Jg.t (x:Jg):List T:=[.lit (.int .i64 x.num),.sl 1 (tY x.ag.sec),.lit (.int .i64 x.ag.ri),.lit (.int .i64 x.ag.cls),.sl 1 (tI x.ag.lims),.lit (.int .i64 x.ag.rq),.lit (.int .i64 x.ag.se),.lit (.int .i64 x.ag.ra),.lit (.int .i64 x.ag.bu),.sl 6 (P1 x.toks),.sl 2 (Aaa x.vehs),.lit (.int .i64 x.bk.lv),.lit (.int .i64 x.bk.ra),.lit (.int .i64 x.bk.bu)]
def Jg.a (fr:Bool) (x:Jg):List AV:=[.lit (.int .i64 x.num),.imm fr 1 (tY x.ag.sec),.lit (.int .i64 x.ag.ri),.lit (.int .i64 x.ag.cls),.imm fr 1 (tI x.ag.lims),.lit (.int .i64 x.ag.rq),.lit (.int .i64 x.ag.se),.lit (.int .i64 x.ag.ra),.lit (.int .i64 x.ag.bu),.imm fr 6 (P1 x.toks),.imm fr 2 (Aaa x.vehs),.lit (.int .i64 x.bk.lv),.lit (.int .i64 x.bk.ra),.lit (.int .i64 x.bk.bu)]
attribute [go_sem] Jg.t Jg.a
structure G3 where
  j:Int
  p:Int
  fr:Int
  to:Int
  si:Int
def G3.t (x:G3):List T:=[.lit (.int .i64 x.j),.lit (.int .i64 x.p),.lit (.int .i64 x.fr),.lit (.int .i64 x.to),.lit (.int .i64 x.si)]
def G3.a (fr:Bool) (x:G3):List AV:=[.lit (.int .i64 x.j),.lit (.int .i64 x.p),.lit (.int .i64 x.fr),.lit (.int .i64 x.to),.lit (.int .i64 x.si)]
abbrev Ie (l:List G3):List (List T):=l.map G3.t
attribute [go_sem] G3.t G3.a
structure Ew where
  id:Int
  veh:Int
  cls:Int
  unt:Int
  legs:List G3
def Ew.t (x:Ew):List T:=[.lit (.int .i64 x.id),.lit (.int .i64 x.veh),.lit (.int .i64 x.cls),.lit (.int .i64 x.unt),.sl 5 (Ie x.legs)]
def Ew.a (fr:Bool) (x:Ew):List AV:=[.lit (.int .i64 x.id),.lit (.int .i64 x.veh),.lit (.int .i64 x.cls),.lit (.int .i64 x.unt),.imm fr 5 (Ie x.legs)]
abbrev Hn (l:List Ew):List (List T):=l.map Ew.t
attribute [go_sem] Ew.t Ew.a
structure Fe where
  ag:Int
  id:Int
  ph:Int
  cls:Int
  si:Int
def Fe.t (x:Fe):List T:=[.lit (.int .i64 x.ag),.lit (.int .i64 x.id),.lit (.int .i64 x.ph),.lit (.int .i64 x.cls),.lit (.int .i64 x.si)]
def Fe.a (fr:Bool) (x:Fe):List AV:=[.lit (.int .i64 x.ag),.lit (.int .i64 x.id),.lit (.int .i64 x.ph),.lit (.int .i64 x.cls),.lit (.int .i64 x.si)]
abbrev Xk (l:List Fe):List (List T):=l.map Fe.t
attribute [go_sem] Fe.t Fe.a
structure Fx where
  ph:Int
  gr:Int
  ended:List Int
def Fx.t (x:Fx):List T:=[.lit (.int .i64 x.ph),.lit (.int .i64 x.gr),.sl 1 (tI x.ended)]
def Fx.a (fr:Bool) (x:Fx):List AV:=[.lit (.int .i64 x.ph),.lit (.int .i64 x.gr),.imm fr 1 (tI x.ended)]
abbrev Qr (l:List Fx):List (List T):=l.map Fx.t
attribute [go_sem] Fx.t Fx.a
structure Gp where
  fl:Bool
  ov:Bool
  col:List Int
  cnt:List Int
def Gp.t (x:Gp):List T:=[.lit (.bool x.fl),.lit (.bool x.ov),.sl 1 (tI x.col),.sl 1 (tI x.cnt)]
def Gp.a (fr:Bool) (x:Gp):List AV:=[.lit (.bool x.fl),.lit (.bool x.ov),.imm fr 1 (tI x.col),.imm fr 1 (tI x.cnt)]
abbrev S2 (l:List Gp):List (List T):=l.map Gp.t
attribute [go_sem] Gp.t Gp.a
structure F3 where
  ag:Int
  kind:Int
  code:Int
def F3.t (x:F3):List T:=[.lit (.int .i64 x.ag),.lit (.int .i64 x.kind),.lit (.int .i64 x.code)]
def F3.a (fr:Bool) (x:F3):List AV:=[.lit (.int .i64 x.ag),.lit (.int .i64 x.kind),.lit (.int .i64 x.code)]
abbrev Aiw (l:List F3):List (List T):=l.map F3.t
attribute [go_sem] F3.t F3.a
structure Nd where
  buf:List Int
  gar:Bool
def Nd.t (x:Nd):List T:=[.sl 1 (tY x.buf),.lit (.bool x.gar)]
def Nd.a (fr:Bool) (x:Nd):List AV:=[.imm fr 1 (tY x.buf),.lit (.bool x.gar)]
attribute [go_sem] Nd.t Nd.a
structure Er where
  op:Bool
  dr:Bool
  st:Nd
def Er.t (x:Er):List T:=[.lit (.bool x.op),.lit (.bool x.dr),.sl 1 (tY x.st.buf),.lit (.bool x.st.gar)]
def Er.a (fr:Bool) (x:Er):List AV:=[.lit (.bool x.op),.lit (.bool x.dr),.imm fr 1 (tY x.st.buf),.lit (.bool x.st.gar)]
abbrev Adt (l:List Er):List (List T):=l.map Er.t
attribute [go_sem] Er.t Er.a
structure Dy where
  reg:Jg
  reqs:List Ew
  draws:List (List Int)
  aud:List Bool
def Dy.t (x:Dy):List T:=[.lit (.int .i64 x.reg.num),.sl 1 (tY x.reg.ag.sec),.lit (.int .i64 x.reg.ag.ri),.lit (.int .i64 x.reg.ag.cls),.sl 1 (tI x.reg.ag.lims),.lit (.int .i64 x.reg.ag.rq),.lit (.int .i64 x.reg.ag.se),.lit (.int .i64 x.reg.ag.ra),.lit (.int .i64 x.reg.ag.bu),.sl 6 (P1 x.reg.toks),.sl 2 (Aaa x.reg.vehs),.lit (.int .i64 x.reg.bk.lv),.lit (.int .i64 x.reg.bk.ra),.lit (.int .i64 x.reg.bk.bu),.sl 5 (Hn x.reqs),.sl 1 (tYs x.draws),.sl 1 (tB x.aud)]
def Dy.a (fr:Bool) (x:Dy):List AV:=[.lit (.int .i64 x.reg.num),.imm fr 1 (tY x.reg.ag.sec),.lit (.int .i64 x.reg.ag.ri),.lit (.int .i64 x.reg.ag.cls),.imm fr 1 (tI x.reg.ag.lims),.lit (.int .i64 x.reg.ag.rq),.lit (.int .i64 x.reg.ag.se),.lit (.int .i64 x.reg.ag.ra),.lit (.int .i64 x.reg.ag.bu),.imm fr 6 (P1 x.reg.toks),.imm fr 2 (Aaa x.reg.vehs),.lit (.int .i64 x.reg.bk.lv),.lit (.int .i64 x.reg.bk.ra),.lit (.int .i64 x.reg.bk.bu),.imm fr 5 (Hn x.reqs),.imm fr 1 (tYs x.draws),.imm fr 1 (tB x.aud)]
abbrev Jc (l:List Dy):List (List T):=l.map Dy.t
attribute [go_sem] Dy.t Dy.a
structure E8 where
  code:Int
  kind:Int
  pay:List Int
def E8.t (x:E8):List T:=[.lit (.int .i64 x.code),.lit (.int .i64 x.kind),.sl 1 (tY x.pay)]
def E8.a (fr:Bool) (x:E8):List AV:=[.lit (.int .i64 x.code),.lit (.int .i64 x.kind),.imm fr 1 (tY x.pay)]
abbrev Adu (l:List E8):List (List T):=l.map E8.t
attribute [go_sem] E8.t E8.a
structure Fs where
  op:Bool
  items:List E8
def Fs.t (x:Fs):List T:=[.lit (.bool x.op),.sl 3 (Adu x.items)]
def Fs.a (fr:Bool) (x:Fs):List AV:=[.lit (.bool x.op),.imm fr 3 (Adu x.items)]
abbrev Azl (l:List Fs):List (List T):=l.map Fs.t
attribute [go_sem] Fs.t Fs.a
structure Ea where
  kind:Int
  tok:List Int
  args:List Int
  data:List Int
def Ea.t (x:Ea):List T:=[.lit (.int .i64 x.kind),.sl 1 (tY x.tok),.sl 1 (tI x.args),.sl 1 (tY x.data)]
def Ea.a (fr:Bool) (x:Ea):List AV:=[.lit (.int .i64 x.kind),.imm fr 1 (tY x.tok),.imm fr 1 (tI x.args),.imm fr 1 (tY x.data)]
abbrev T3 (l:List Ea):List (List T):=l.map Ea.t
attribute [go_sem] Ea.t Ea.a
structure I5 where
  kind:Int
  se:Int
  x:Int
  y:Int
  bytes:List Int
def I5.t (x:I5):List T:=[.lit (.int .i64 x.kind),.lit (.int .i64 x.se),.lit (.int .i64 x.x),.lit (.int .i64 x.y),.sl 1 (tY x.bytes)]
def I5.a (fr:Bool) (x:I5):List AV:=[.lit (.int .i64 x.kind),.lit (.int .i64 x.se),.lit (.int .i64 x.x),.lit (.int .i64 x.y),.imm fr 1 (tY x.bytes)]
abbrev tEv (l:List I5):List (List T):=l.map I5.t
attribute [go_sem] I5.t I5.a
structure P9 where
  ses:List (List Int)
  feed:List Int
def P9.t (x:P9):List T:=[.sl 1 (tYs x.ses),.sl 1 (tY x.feed)]
def P9.a (fr:Bool) (x:P9):List AV:=[.imm fr 1 (tYs x.ses),.imm fr 1 (tY x.feed)]
abbrev A4l (l:List P9):List (List T):=l.map P9.t
attribute [go_sem] P9.t P9.a
structure Fm where
  cfg:E5
  ref:Bool
  now:Int
  desks:List Dy
  sigs:List Ib
  svcs:List Fx
  stuck:List Int
  views:List Gp
def Fm.t (x:Fm):List T:=[.sl 3 (Aab x.cfg.juns),.sl 8 (tAg x.cfg.ags),.lit (.int .i64 x.cfg.per),.lit (.int .i64 x.cfg.cap),.lit (.int .i64 x.cfg.hold),.lit (.int .i64 x.cfg.lock),.lit (.bool x.ref),.lit (.int .i64 x.now),.sl 17 (Jc x.desks),.sl 5 (P2 x.sigs),.sl 3 (Qr x.svcs),.sl 1 (tI x.stuck),.sl 4 (S2 x.views)]
def Fm.a (fr:Bool) (x:Fm):List AV:=[.imm fr 3 (Aab x.cfg.juns),.imm fr 8 (tAg x.cfg.ags),.lit (.int .i64 x.cfg.per),.lit (.int .i64 x.cfg.cap),.lit (.int .i64 x.cfg.hold),.lit (.int .i64 x.cfg.lock),.lit (.bool x.ref),.lit (.int .i64 x.now),.imm fr 17 (Jc x.desks),.imm fr 5 (P2 x.sigs),.imm fr 3 (Qr x.svcs),.imm fr 1 (tI x.stuck),.imm fr 4 (S2 x.views)]
attribute [go_sem] Fm.t Fm.a
structure Gt where
  city:Fm
  sess:List Er
def Gt.t (x:Gt):List T:=[.sl 3 (Aab x.city.cfg.juns),.sl 8 (tAg x.city.cfg.ags),.lit (.int .i64 x.city.cfg.per),.lit (.int .i64 x.city.cfg.cap),.lit (.int .i64 x.city.cfg.hold),.lit (.int .i64 x.city.cfg.lock),.lit (.bool x.city.ref),.lit (.int .i64 x.city.now),.sl 17 (Jc x.city.desks),.sl 5 (P2 x.city.sigs),.sl 3 (Qr x.city.svcs),.sl 1 (tI x.city.stuck),.sl 4 (S2 x.city.views),.sl 4 (Adt x.sess)]
def Gt.a (fr:Bool) (x:Gt):List AV:=[.imm fr 3 (Aab x.city.cfg.juns),.imm fr 8 (tAg x.city.cfg.ags),.lit (.int .i64 x.city.cfg.per),.lit (.int .i64 x.city.cfg.cap),.lit (.int .i64 x.city.cfg.hold),.lit (.int .i64 x.city.cfg.lock),.lit (.bool x.city.ref),.lit (.int .i64 x.city.now),.imm fr 17 (Jc x.city.desks),.imm fr 5 (P2 x.city.sigs),.imm fr 3 (Qr x.city.svcs),.imm fr 1 (tI x.city.stuck),.imm fr 4 (S2 x.city.views),.imm fr 4 (Adt x.sess)]
attribute [go_sem] Gt.t Gt.a
theorem Dx (n:Int) (h1:-9223372036854775808<=n:=by omega) (h2:n<=9223372036854775807:=by omega):IntKind.i64.wrap n=n:=by rw[IntKind.wrap_i64];omega
theorem Gy {α β:Type} {f:α->β} {l:List α} {i:Nat} {x:α} (h:l[i]? = some x):(l.map f).set i (f x)=l.map f:=by
 apply List.ext_getElem?
 intro j
 rw[List.getElem?_set]
 split
 ·rename_i e
  subst e
  have hi:=(Ab.1 h).1
  rw[if_pos (by simpa using hi),Ap,h];rfl
 rfl
def Wk {α β:Type} (f:α->β) (z:β) (l:List α) (i:Nat):List β:=(l.take i).map f++List.replicate (l.length - i) z
section
variable {α β:Type} {f:α->β} {z:β} {l:List α} {i:Nat} {x:α}
theorem Akj:Wk f z l 0=List.replicate l.length z:=by simp[Wk]
theorem Ax0:Wk f z l l.length=l.map f:=by simp[Wk]
theorem Axy (h:i<=l.length):(Wk f z l i).length=l.length:=by simp[Wk];omega
theorem Axz (h:i<l.length):(Wk f z l i)[i]? = some z:=by
 unfold Wk
 rw[Ao (by simp;omega),List.getElem?_replicate,if_pos (by simp;omega)]
theorem Axx (h:l[i]? = some x):(Wk f z l i).set i (f x)=Wk f z l (i+1):=by
 have hi:=(Ab.1 h).1
 unfold Wk
 rw[List.set_append_right _ _ (by simp;omega)]
 have e:l.length - i=(l.length - (i+1))+1:=by omega
 rw[e,List.replicate_succ]
 have e2:i - ((l.take i).map f).length=0:=by simp;omega
 rw[e2,List.set_cons_zero,List.take_add_one,h]
 simp
end
abbrev AV.mAg (x:List G2):AV:=.imm false 8 (tAg x)
abbrev AV.mB (x:List Bool):AV:=.imm false 1 (tB x)
abbrev AV.mClaim (x:List Fe):AV:=.imm false 5 (Xk x)
abbrev AV.mDesk (x:List Dy):AV:=.imm false 17 (Jc x)
abbrev AV.mEnt (x:List F3):AV:=.imm false 3 (Aiw x)
abbrev AV.mEv (x:List I5):AV:=.imm false 5 (tEv x)
abbrev AV.mI (x:List Int):AV:=.imm false 1 (tI x)
abbrev AV.mInp (x:List Fs):AV:=.imm false 2 (Azl x)
abbrev AV.mItem (x:List E8):AV:=.imm false 3 (Adu x)
abbrev AV.mJun (x:List F9):AV:=.imm false 3 (Aab x)
abbrev AV.mLeg (x:List G3):AV:=.imm false 5 (Ie x)
abbrev AV.mLight (x:List F0):AV:=.imm false 2 (Iv x)
abbrev AV.mMsg (x:List Ea):AV:=.imm false 4 (T3 x)
abbrev AV.mOut (x:List P9):AV:=.imm false 2 (A4l x)
abbrev AV.mPhase (x:List F6):AV:=.imm false 8 (R2 x)
abbrev AV.mReq (x:List Ew):AV:=.imm false 5 (Hn x)
abbrev AV.mSess (x:List Er):AV:=.imm false 4 (Adt x)
abbrev AV.mSig (x:List Ib):AV:=.imm false 5 (P2 x)
abbrev AV.mSvc (x:List Fx):AV:=.imm false 3 (Qr x)
abbrev AV.mTok (x:List Fq):AV:=.imm false 6 (P1 x)
abbrev AV.mVeh (x:List G6):AV:=.imm false 2 (Aaa x)
abbrev AV.mView (x:List Gp):AV:=.imm false 4 (S2 x)
abbrev AV.mY (x:List Int):AV:=.imm false 1 (tY x)
abbrev AV.mYs (x:List (List Int)):AV:=.imm false 1 (tYs x)
attribute [go_sem] AV.mAg AV.mB AV.mClaim AV.mDesk AV.mEnt AV.mEv AV.mI AV.mInp AV.mItem AV.mJun AV.mLeg AV.mLight AV.mMsg AV.mOut AV.mPhase AV.mReq AV.mSess AV.mSig AV.mSvc AV.mTok AV.mVeh AV.mView AV.mY AV.mYs
abbrev F6.g (x:F6):AV:=.agg (x.a false)
abbrev F9.g (x:F9):AV:=.agg (x.a false)
abbrev G2.g (x:G2):AV:=.agg (x.a false)
abbrev E5.g (x:E5):AV:=.agg (x.a false)
abbrev F0.g (x:F0):AV:=.agg (x.a false)
abbrev Ok.g (x:Ok):AV:=.agg (x.a false)
abbrev Ib.g (x:Ib):AV:=.agg (x.a false)
abbrev Fq.g (x:Fq):AV:=.agg (x.a false)
abbrev G6.g (x:G6):AV:=.agg (x.a false)
abbrev Jh.g (x:Jh):AV:=.agg (x.a false)
abbrev Jg.g (x:Jg):AV:=.agg (x.a false)
abbrev G3.g (x:G3):AV:=.agg (x.a false)
abbrev Ew.g (x:Ew):AV:=.agg (x.a false)
abbrev Fe.g (x:Fe):AV:=.agg (x.a false)
abbrev Fx.g (x:Fx):AV:=.agg (x.a false)
abbrev Gp.g (x:Gp):AV:=.agg (x.a false)
abbrev F3.g (x:F3):AV:=.agg (x.a false)
abbrev Nd.g (x:Nd):AV:=.agg (x.a false)
abbrev Er.g (x:Er):AV:=.agg (x.a false)
abbrev Dy.g (x:Dy):AV:=.agg (x.a false)
abbrev E8.g (x:E8):AV:=.agg (x.a false)
abbrev Fs.g (x:Fs):AV:=.agg (x.a false)
abbrev Ea.g (x:Ea):AV:=.agg (x.a false)
abbrev I5.g (x:I5):AV:=.agg (x.a false)
abbrev P9.g (x:P9):AV:=.agg (x.a false)
abbrev Fm.g (x:Fm):AV:=.agg (x.a false)
abbrev Gt.g (x:Gt):AV:=.agg (x.a false)
attribute [go_sem] F6.g F9.g G2.g E5.g F0.g Ok.g Ib.g Fq.g G6.g Jh.g Jg.g G3.g Ew.g Fe.g Fx.g Gp.g F3.g Nd.g Er.g Dy.g E8.g Fs.g Ea.g I5.g P9.g Fm.g Gt.g
theorem Lr (x:Er) (h1:x.st.buf.length<=1000000):PP 60 [] [x.g] [] (x.g):=by
 refine Em Tryz.func60 ?_
 refine Bw ?_
 refine Ce (fun K kk=>by simp[go_sem];refine .lo (E7.froz (Gk _ (by simpa using h1) (by simp[T.plain]))) rfl (by simp) ?_;simp[go_sem];exact kk) ?_
 refine Bw ?_
 exact .ret (rL Dz)
theorem Qp (x:Ib) (h1:x.ctl.lights.length<=1000000) (h2:x.ctl.nxt.length<=1000000):PP 88 [] [x.g] [] (x.g):=by
 refine Em Tryz.func88 ?_
 refine Bw ?_
 refine Ce (fun K kk=>by simp[go_sem];refine .lo (E7.froz (T2 _ (by simpa using h1) (by simp[T.plain,F0.t]))) rfl (by simp) ?_;simp[go_sem];exact kk) ?_
 refine Ce (fun K kk=>by simp[go_sem];refine .lo (E7.froz (Hm _ (by simpa using h2) (by simp[T.plain]))) rfl (by simp) ?_;simp[go_sem];exact kk) ?_
 refine Bw ?_
 exact .ret (rL Dz)
theorem Ls (x:Fx) (h1:x.ended.length<=1000000):PP 90 [] [x.g] [] (x.g):=by
 refine Em Tryz.func90 ?_
 refine Bw ?_
 refine Ce (fun K kk=>by simp[go_sem];refine .lo (E7.froz (Hm _ (by simpa using h1) (by simp[T.plain]))) rfl (by simp) ?_;simp[go_sem];exact kk) ?_
 refine Bw ?_
 exact .ret (rL Dz)
theorem Xe (l:List Gp) (h0:l.length<=1000000) (hc:∀x∈l,x.col.length<=1000000/\x.cnt.length<=1000000):PP 92 [] [.mView l] [] (.mView l):=by
 refine Em Tryz.func92 ?_
 refine Bw ?_
 refine Ce (fun K kk=>by simp[go_sem];refine .lo (Alh _ (by simpa using h0)) rfl (by simp) ?_;simp[go_sem];exact kk)<|.seq ?_
 refine Bw<|.block ?_
 refine Cc l.length (fun i1=>⟨[(0,.own 0 l.length),(7,.li l.length),(8,.li i1)],[.row 128 4 false false (S2 l)]⟩) (wk Dz [0]) fun i1 hi1=>?_
 refine Bw<|.seq ?_
 refine B6 ?_ ?_<;>intro h9
 ·have hx:l[i1]? = some l[i1]:=Aa h9
  generalize l[i1]=x at hx
  have hs:=Gy (f:=Gp.t) hx
  simp only[Gp.t] at hs
  refine Bv<|.seq<|.block<|.R ?_
  refine Ce (fun K kk=>by simp[go_sem,hx,hs];(repeat refine aK ?_);refine .lo (E7.froz (Hm _ (by simpa using (hc x (Ac hx)).1) (by simp[T.plain]))) rfl (by simp) ?_;simp[go_sem,hx,hs];(repeat first | exact kk | refine aK ?_)) ?_
  refine VW.S1 (fun K kk=>by simp[go_sem,hx,hs];(repeat refine aK ?_);refine .lo (E7.froz (Hm _ (by simpa using (hc x (Ac hx)).2) (by simp[T.plain]))) rfl (by simp) ?_;simp[go_sem,hx,hs];(repeat first | exact kk | refine aK ?_)) ?_
  refine Cm ?_
  refine⟨by omega,wQ [0] ?_ ?_⟩
  ·simp[go_sem,Dx ((i1:Int)+1)]
  simp[go_sem]
 refine B4 ?_
 refine Ch 0 (by simp[go_sem,F8]) ?_
 simp[go_sem]
 refine Bw ?_
 exact .ret (rL h9)
structure Uc (x:Jg):Prop where
  sec:x.ag.sec.length<=1000000
  lims:x.ag.lims.length<=1000000
  toks:x.toks.length<=1000000
  tsec:∀t∈x.toks,t.sec.length<=1000000
  vehs:x.vehs.length<=1000000
theorem Sy (x:Jg) (hb:Uc x):PP 115 [] [x.g] [] (x.g):=by
 refine Em Tryz.func115 ?_
 have hb1:=hb.toks
 refine Bw ?_
 refine Ce (fun K kk=>by simp[go_sem];refine .lo (E7.froz (Gk _ (by simpa using hb.sec) (by simp[T.plain]))) rfl (by simp) ?_;simp[go_sem];exact kk) ?_
 refine Ce (fun K kk=>by simp[go_sem];refine .lo (E7.froz (Hm _ (by simpa using hb.lims) (by simp[T.plain]))) rfl (by simp) ?_;simp[go_sem];exact kk) ?_
 refine Ce (fun K kk=>by simp[go_sem];refine .lo (T1 _ (by simpa using hb.toks)) rfl (by simp) ?_;simp[go_sem];exact kk)<|.seq ?_
 refine Bw<|.block ?_
 refine Cc x.toks.length (fun i1=>⟨[(1,.ptr 0 0),(2,.ptr 1 0),(22,.li x.toks.length),(23,.li i1)],[.box 66 [.li x.num,.imm true 1 (tY x.ag.sec),.li x.ag.ri,.li x.ag.cls,.imm true 1 (tI x.ag.lims),.li x.ag.rq,.li x.ag.se,.li x.ag.ra,.li x.ag.bu,.own 2 x.toks.length,.mVeh x.vehs,.li x.bk.lv,.li x.bk.ra,.li x.bk.bu],.box 66 [.li 0,.nil 1,.li 0,.li 0,.nil 1,.li 0,.li 0,.li 0,.li 0,.nil 6,.nil 2,.li 0,.li 0,.li 0],.row 73 6 false false (P1 x.toks)]⟩) (wk Dz [0,1,2]) fun i1 hi1=>?_
 refine Bw<|.seq ?_
 refine B6 ?_ ?_<;>intro h24
 ·have hx:x.toks[i1]? = some x.toks[i1]:=Aa h24
  generalize x.toks[i1]=t at hx
  have hs:=Gy (f:=Fq.t) hx
  simp only[Fq.t] at hs
  refine Bv<|.seq<|.block<|.R ?_
  refine VW.E1 (fun K kk=>by simp[go_sem,hx,hs];(repeat refine aK ?_);refine .lo (E7.froz (Gk _ (by simpa using hb.tsec t (Ac hx)) (by simp[T.plain]))) rfl (by simp) ?_;simp[go_sem,hx,hs];(repeat first | exact kk | refine aK ?_)) ?_
  refine Cm ?_
  refine⟨by omega,wQ [0,1,2] ?_ ?_⟩
  ·simp[go_sem,Dx ((i1:Int)+1)]
  simp[go_sem]
 refine B4 ?_
 refine Ch 2 (by simp[go_sem,F8]) ?_
 simp[go_sem]
 refine Ce (fun K kk=>by simp[go_sem];refine .lo (E7.froz (We _ (by simpa using hb.vehs) (by simp[T.plain,G6.t]))) rfl (by simp) ?_;simp[go_sem];exact kk) ?_
 refine Bw ?_
 exact .ret (rL h24)
def NB (a:Int):Prop:=0<=a/\a<=4294967295
def Zs (r:Ew):Prop:=NB r.id/\NB r.unt
structure L8 (x:Dy):Prop where
  reg:Uc x.reg
  reqs:x.reqs.length<=1000000
  legs:∀r∈x.reqs,r.legs.length<=1000000
  draws:x.draws.length<=1000000
  draw:∀b∈x.draws,b.length<=1000000
  aud:x.aud.length<=1000000
theorem Zg (x:Dy) (hb:L8 x):PP 86 [] [x.g] [.row 4 1 true false (tB x.aud)] (.agg [.li x.reg.num,.mY x.reg.ag.sec,.li x.reg.ag.ri,.li x.reg.ag.cls,.mI x.reg.ag.lims,.li x.reg.ag.rq,.li x.reg.ag.se,.li x.reg.ag.ra,.li x.reg.ag.bu,.mTok x.reg.toks,.mVeh x.reg.vehs,.li x.reg.bk.lv,.li x.reg.bk.ra,.li x.reg.bk.bu,.mReq x.reqs,.mYs x.draws,.own 0 x.aud.length]):=by
 refine Em Tryz.func86 ?_
 have hb1:=hb.reqs
 have hb2:=hb.draws
 refine Bw ?_
 refine Di Dz (Sy x.reg hb.reg) ?_
 refine Ce (fun K kk=>by simp[go_sem];refine .lo (Wg _ (by simpa using hb.reqs)) rfl (by simp) ?_;simp[go_sem];exact kk)<|.seq ?_
 refine Bw<|.block ?_
 refine Cc x.reqs.length (fun i1=>⟨[(1,.ptr 0 0),(2,.ptr 1 0),(15,.li x.reqs.length),(16,.li i1)],[.box 70 [.li x.reg.num,.mY x.reg.ag.sec,.li x.reg.ag.ri,.li x.reg.ag.cls,.mI x.reg.ag.lims,.li x.reg.ag.rq,.li x.reg.ag.se,.li x.reg.ag.ra,.li x.reg.ag.bu,.mTok x.reg.toks,.mVeh x.reg.vehs,.li x.reg.bk.lv,.li x.reg.bk.ra,.li x.reg.bk.bu,.own 2 x.reqs.length,.mYs x.draws,.mB x.aud],.box 70 [.li 0,.nil 1,.li 0,.li 0,.nil 1,.li 0,.li 0,.li 0,.li 0,.nil 6,.nil 2,.li 0,.li 0,.li 0,.nil 5,.nil 1,.nil 1],.row 164 5 false false (Hn x.reqs)]⟩) (wk Dz [0,1,2]) fun i1 hi1=>?_
 refine Bw<|.seq ?_
 refine B6 ?_ ?_<;>intro h17
 ·have hx:x.reqs[i1]? = some x.reqs[i1]:=Aa h17
  generalize x.reqs[i1]=t at hx
  have hs:=Gy (f:=Ew.t) hx
  simp only[Ew.t] at hs
  refine Bv<|.seq<|.block<|.R ?_
  refine VW.E1 (fun K kk=>by simp[go_sem,hx,hs];(repeat refine aK ?_);refine .lo (E7.froz (Ng _ (by simpa using hb.legs t (Ac hx)) (by simp[T.plain,G3.t]))) rfl (by simp) ?_;simp[go_sem,hx,hs];(repeat first | exact kk | refine aK ?_)) ?_
  refine Cm ?_
  refine⟨by omega,wQ [0,1,2] ?_ ?_⟩
  ·simp[go_sem,Dx ((i1:Int)+1)]
  simp[go_sem]
 refine B4 ?_
 refine Ch 2 (by simp[go_sem,F8]) ?_
 simp[go_sem]
 refine Bx (by rfl) fun K1 hK1=>?_
 simp[go_sem]
 refine .lo (Xg _ (by simpa using hb.draws)) rfl (by simp) ?_
 simp[go_sem]
 refine hK1 _ ?_;clear hK1
 refine Dv<|.R<|.block ?_
 refine Cc x.draws.length (fun i2=>⟨[(1,.ptr 0 0),(2,.ptr 1 0),(38,.li x.draws.length),(39,.li i2)],[.box 70 [.li x.reg.num,.mY x.reg.ag.sec,.li x.reg.ag.ri,.li x.reg.ag.cls,.mI x.reg.ag.lims,.li x.reg.ag.rq,.li x.reg.ag.se,.li x.reg.ag.ra,.li x.reg.ag.bu,.mTok x.reg.toks,.mVeh x.reg.vehs,.li x.reg.bk.lv,.li x.reg.bk.ra,.li x.reg.bk.bu,.mReq x.reqs,.own 2 x.draws.length,.mB x.aud],.box 70 [.li 0,.nil 1,.li 0,.li 0,.nil 1,.li 0,.li 0,.li 0,.li 0,.nil 6,.nil 2,.li 0,.li 0,.li 0,.nil 5,.nil 1,.nil 1],.row 44 1 false false (tYs x.draws)]⟩) (wk Dz [0,1,3]) fun i2 hi2=>?_
 refine Bw<|.seq ?_
 refine B6 ?_ ?_<;>intro h40
 ·have hx:x.draws[i2]? = some x.draws[i2]:=Aa h40
  generalize x.draws[i2]=t at hx
  have hs:=Gy (f:=fun x=>[T.sl 1 (tY x)]) hx
  refine Bv<|.seq<|.block<|.R ?_
  refine VW.draw1 (by kernel_rfl) (by rfl) (by kernel_rfl) fun K1 hK1=>?_
  simp[go_sem,hx,hs]
  repeat' refine Ax ?_ ?_
  all_goals try (intros;(repeat' refine Ax ?_ ?_)<;>omega)
  refine .lo (E7.froz (Gk _ (by simpa using hb.draw t (Ac hx)) (by simp[T.plain]))) rfl (by simp) ?_
  simp[go_sem,hx,hs]
  repeat' refine Ax ?_ ?_
  all_goals try (intros;(repeat' refine Ax ?_ ?_)<;>omega)
  refine hK1 _ _ (by kernel_rfl) ?_;clear hK1
  refine Cm ?_
  refine⟨by omega,wQ [0,1,2] ?_ ?_⟩
  ·simp[go_sem,Dx ((i2:Int)+1)]
  simp[go_sem]
 refine B4 ?_
 refine Ch 2 (by simp[go_sem,F8]) ?_
 simp[go_sem]
 refine Ce (fun K kk=>by simp[go_sem];refine .lo (Zh _ (by simpa using hb.aud) (by simp[T.plain])) rfl (by simp) ?_;simp[go_sem];exact kk) ?_
 refine Bw ?_
 exact .ret (rW Dz [3])
theorem Mu (x:Dy) (hb:L8 x):PP 86 [] [x.g] [] (x.g):=(Zg x hb).frozA (by simp[go_sem])
structure Apz (x:Fm):Prop where
  desks:x.desks.length<=1000000
  desk:∀d∈x.desks,L8 d
  sigs:x.sigs.length<=1000000
  sig:∀g∈x.sigs,g.ctl.lights.length<=1000000/\g.ctl.nxt.length<=1000000
  svcs:x.svcs.length<=1000000
  svc:∀g∈x.svcs,g.ended.length<=1000000
  stuck:x.stuck.length<=1000000
  views:x.views.length<=1000000
  view:∀v∈x.views,v.col.length<=1000000/\v.cnt.length<=1000000
theorem Pt (x:Fm) (hb:Apz x):PP 61 [] [x.g] [.row 70 17 false false (Jc x.desks),.row 135 5 false false (P2 x.sigs),.row 138 3 false false (Qr x.svcs),.row 3 1 true false (tI x.stuck)] (.agg [.mJun x.cfg.juns,.mAg x.cfg.ags,.li x.cfg.per,.li x.cfg.cap,.li x.cfg.hold,.li x.cfg.lock,.lb x.ref,.li x.now,.own 0 x.desks.length,.own 1 x.sigs.length,.own 2 x.svcs.length,.own 3 x.stuck.length,.mView x.views]):=by
 refine Em Tryz.func61 ?_
 have hb1:=hb.desks
 have hb2:=hb.sigs
 have hb3:=hb.svcs
 refine Bw ?_
 refine Ce (fun K kk=>by simp[go_sem];refine .lo (Aa3 _ (by simpa using hb.desks)) rfl (by simp) ?_;simp[go_sem];exact kk)<|.seq ?_
 refine Bw<|.block ?_
 refine Cc x.desks.length (fun i1=>⟨[(1,.ptr 0 0),(2,.ptr 1 0),(12,.li x.desks.length),(13,.li i1)],[.box 37 [.mJun x.cfg.juns,.mAg x.cfg.ags,.li x.cfg.per,.li x.cfg.cap,.li x.cfg.hold,.li x.cfg.lock,.lb x.ref,.li x.now,.own 2 x.desks.length,.mSig x.sigs,.mSvc x.svcs,.mI x.stuck,.mView x.views],.box 37 [.nil 3,.nil 8,.li 0,.li 0,.li 0,.li 0,.lb false,.li 0,.nil 17,.nil 5,.nil 3,.nil 1,.nil 4],.row 70 17 false false (Jc x.desks)]⟩) (wk Dz [0,1,2]) fun i1 hi1=>?_
 refine Bw<|.seq ?_
 refine B6 ?_ ?_<;>intro h14
 ·have hx:x.desks[i1]? = some x.desks[i1]:=Aa h14
  generalize x.desks[i1]=t at hx
  have hs:=Gy (f:=Dy.t) hx
  simp only[Dy.t] at hs
  refine Bv<|.seq<|.block<|.R ?_
  refine VW.M1 (Fa hx hs) (Mu t (hb.desk t (Ac hx))) ?_
  refine Cm ?_
  refine⟨by omega,wQ [0,1,2] ?_ ?_⟩
  ·simp[go_sem,Dx ((i1:Int)+1)]
  simp[go_sem]
 refine B4<|.S (fun K kk=>by simp[go_sem];refine .lo (Xh _ (by simpa using hb.sigs)) rfl (by simp) ?_;simp[go_sem];exact kk)<|.seq ?_
 refine Bw<|.block ?_
 refine Cc x.sigs.length (fun i2=>⟨[(1,.ptr 0 0),(2,.ptr 1 0),(33,.li x.sigs.length),(34,.li i2)],[.box 37 [.mJun x.cfg.juns,.mAg x.cfg.ags,.li x.cfg.per,.li x.cfg.cap,.li x.cfg.hold,.li x.cfg.lock,.lb x.ref,.li x.now,.own 2 x.desks.length,.own 3 x.sigs.length,.mSvc x.svcs,.mI x.stuck,.mView x.views],.box 37 [.nil 3,.nil 8,.li 0,.li 0,.li 0,.li 0,.lb false,.li 0,.nil 17,.nil 5,.nil 3,.nil 1,.nil 4],.row 70 17 false false (Jc x.desks),.row 135 5 false false (P2 x.sigs)]⟩) (wk Dz [0,1,2,3]) fun i2 hi2=>?_
 refine Bw<|.seq ?_
 refine B6 ?_ ?_<;>intro h35
 ·have hx:x.sigs[i2]? = some x.sigs[i2]:=Aa h35
  generalize x.sigs[i2]=t at hx
  have hs:=Gy (f:=Ib.t) hx
  simp only[Ib.t] at hs
  refine Bv<|.seq<|.block<|.R ?_
  refine VW.M1 (Fa hx hs) (Qp t (hb.sig t (Ac hx)).1 (hb.sig t (Ac hx)).2) ?_
  refine Cm ?_
  refine⟨by omega,wQ [0,1,2,3] ?_ ?_⟩
  ·simp[go_sem,Dx ((i2:Int)+1)]
  simp[go_sem]
 refine B4<|.S (fun K kk=>by simp[go_sem];refine .lo (Wf _ (by simpa using hb.svcs)) rfl (by simp) ?_;simp[go_sem];exact kk)<|.seq ?_
 refine Bw<|.block ?_
 refine Cc x.svcs.length (fun i3=>⟨[(1,.ptr 0 0),(2,.ptr 1 0),(54,.li x.svcs.length),(55,.li i3)],[.box 37 [.mJun x.cfg.juns,.mAg x.cfg.ags,.li x.cfg.per,.li x.cfg.cap,.li x.cfg.hold,.li x.cfg.lock,.lb x.ref,.li x.now,.own 2 x.desks.length,.own 3 x.sigs.length,.own 4 x.svcs.length,.mI x.stuck,.mView x.views],.box 37 [.nil 3,.nil 8,.li 0,.li 0,.li 0,.li 0,.lb false,.li 0,.nil 17,.nil 5,.nil 3,.nil 1,.nil 4],.row 70 17 false false (Jc x.desks),.row 135 5 false false (P2 x.sigs),.row 138 3 false false (Qr x.svcs)]⟩) (wk Dz [0,1,2,3,4]) fun i3 hi3=>?_
 refine Bw<|.seq ?_
 refine B6 ?_ ?_<;>intro h56
 ·have hx:x.svcs[i3]? = some x.svcs[i3]:=Aa h56
  generalize x.svcs[i3]=t at hx
  have hs:=Gy (f:=Fx.t) hx
  simp only[Fx.t] at hs
  refine Bv<|.seq<|.block<|.R ?_
  refine VW.M1 (Fa hx hs) (Ls t (hb.svc t (Ac hx))) ?_
  refine Cm ?_
  refine⟨by omega,wQ [0,1,2,3,4] ?_ ?_⟩
  ·simp[go_sem,Dx ((i3:Int)+1)]
  simp[go_sem]
 refine B4<|.S (fun K kk=>by simp[go_sem];refine .lo (Hm _ (by simpa using hb.stuck) (by simp[T.plain])) rfl (by simp) ?_;simp[go_sem];exact kk) ?_
 refine Di Dz (Xe x.views hb.views hb.view) ?_
 refine Bw ?_
 exact .ret (rW Dz [2,3,4,5])
structure A5w (x:Gt):Prop where
  city:Apz x.city
  sess:x.sess.length<=1000000
  ses:∀t∈x.sess,t.st.buf.length<=1000000
theorem Aez (x:Gt) (hb:A5w x):PP 38 [] [x.g] [.row 70 17 false false (Jc x.city.desks),.row 135 5 false false (P2 x.city.sigs),.row 138 3 false false (Qr x.city.svcs),.row 3 1 true false (tI x.city.stuck),.row 100 4 false false (Adt x.sess)] (.agg [.mJun x.city.cfg.juns,.mAg x.city.cfg.ags,.li x.city.cfg.per,.li x.city.cfg.cap,.li x.city.cfg.hold,.li x.city.cfg.lock,.lb x.city.ref,.li x.city.now,.own 0 x.city.desks.length,.own 1 x.city.sigs.length,.own 2 x.city.svcs.length,.own 3 x.city.stuck.length,.mView x.city.views,.own 4 x.sess.length]):=by
 refine Em Tryz.func38 ?_
 have hb1:=hb.sess
 refine Bw ?_
 refine VW.H Dz<|.seq ?_
 refine Bw<|.block ?_
 refine Cc x.sess.length (fun i1=>⟨[(1,.ptr 0 0),(2,.ptr 1 0),(3,.own 2 x.sess.length),(11,.mSess x.sess),(12,.li x.sess.length),(13,.li i1)],[.box 40 (x.a false),.box 40 [.nil 3,.nil 8,.li 0,.li 0,.li 0,.li 0,.lb false,.li 0,.nil 17,.nil 5,.nil 3,.nil 1,.nil 4,.nil 4],.row 100 4 false false (Wk Er.t [.lb false,.lb false,.sl 1 [],.lb false] x.sess i1)]⟩) (wQ [0,1,2] ?_ ?_) fun i1 hi1=>?_
 ·simp[go_sem,Akj]
 ·simp[go_sem,Akj]
 refine Bw<|.seq ?_
 refine B6 ?_ ?_<;>intro h14
 ·have hx:x.sess[i1]? = some x.sess[i1]:=Aa h14
  generalize x.sess[i1]=t at hx
  have hs:=Axx (f:=Er.t) (z:=[.lb false,.lb false,.sl 1 [],.lb false]) hx
  simp only[Er.t] at hs
  have hg:=Axz (f:=Er.t) (z:=[.lb false,.lb false,.sl 1 [],.lb false]) h14
  have hl:=Axy (f:=Er.t) (z:=[.lb false,.lb false,.sl 1 [],.lb false]) hi1
  refine Bv<|.seq<|.block<|.H hx ?_
  refine VW.L1 (Tf hx hs hg hl) (Lr t (hb.ses t (Ac hx))) ?_
  refine Cm ?_
  refine⟨by omega,wQ [0,1,2] ?_ ?_⟩
  ·simp[go_sem,Dx ((i1:Int)+1)]
  simp[go_sem]
 have he:i1=x.sess.length:=by omega
 subst he
 simp only[Ax0]
 refine B4<|.L Dz (Pt x.city hb.city) ?_
 exact .ret (rW Dz [3,4,5,6,2])
def Afd (j p:Int):Bool:=decide (0<=j)&&decide (j<4)&&decide (0<=p)&&decide (p<8)
def Aqc (l:G3) (now:Int):Bool:=decide (l.fr<=now)&&decide (now<=l.to)
def Ar8 (l:G3):Bool:=Afd l.j l.p&&decide (0<=l.fr)&&decide (l.fr<=l.to)&&decide (l.to<=2147483648)&&decide (-1<=l.si)&&decide (l.si<=1073741824)
def Mb (l:G3) (now:Int):G3:=if Aqc l now then (if l.si = -1 then { l with si:=now } else l) else { l with si:=-1 }
def Nv (j p fr to now:Int):G3×Int :=
 if !Afd j p||decide (now<0)||decide (1073741824<now) then (⟨0,0,0,0,0⟩,8)
 else if decide (fr<0)||decide (to<fr)||decide (600<to) then (⟨0,0,0,0,0⟩,8)
 else (⟨j,p,IntKind.i64.wrap (now+fr),IntKind.i64.wrap (now+to),-1⟩,0)
theorem W8 (j p:Int):PP 262 [] [.li j,.li p] [] (.lb (Afd j p)):=by
 refine Em Tryz.func262 ?_
 iterate 2 refine Bw ?_
 refine B5 ?_
 simp[go_sem,Afd]
theorem Zc (l:G3) (now:Int):PP 194 [] [l.g,.li now] [] (.lb (Aqc l now)):=by
 refine Em Tryz.func194 ?_
 iterate 2 refine Bw ?_
 refine B5 ?_
 simp[go_sem,Aqc]
theorem Af8 (l:G3):PP 279 [] [l.g] [] (.lb (Ar8 l)):=by
 refine Em Tryz.func279 ?_
 refine Bw ?_
 refine Di Dz (W8 l.j l.p) ?_
 refine B5 ?_
 simp[go_sem,Ar8]
theorem Ky (l:G3) (now:Int):PP 172 [] [l.g,.li now] [] (.agg ((Mb l now).a false)):=by
 refine Em Tryz.func172 ?_
 refine Bw<|.seq ?_
 refine Di Dz (Zc l now) ?_
 refine B6 ?_ ?_<;>intro h8
 ·refine Cm ?_
  refine Bw ?_
  refine B5 ?_
  first
   | (simp[go_sem,Mb,h8];done)
   | (simp[go_sem,Mb, *];done)
   | (simp[go_sem];unfold Mb;(repeat' split)<;>first | (simp_all;done) | (simp_all;omega) | (simp at *;omega))
 refine Bw ?_
 refine B6 ?_ ?_<;>intro h12
 ·refine Cm ?_
  refine Bw ?_
  refine B5 ?_
  first
   | (simp[go_sem,Mb,h8,h12];done)
   | (simp[go_sem,Mb, *];done)
   | (simp[go_sem];unfold Mb;(repeat' split)<;>first | (simp_all;done) | (simp_all;omega) | (simp at *;omega))
 refine Bv<|.R ?_
 refine B5 ?_
 first
  | (simp[go_sem,Mb,h8,h12];done)
  | (simp[go_sem,Mb, *];done)
  | (simp[go_sem];unfold Mb;(repeat' split)<;>first | (simp_all;done) | (simp_all;omega) | (simp at *;omega))
theorem Zb (j p fr to now:Int):PP 240 [] [.li j,.li p,.li fr,.li to,.li now] [] (.tup [.agg ((Nv j p fr to now).1.a false),.lit (.int .i64 (Nv j p fr to now).2)]):=by
 refine Em Tryz.func240 ?_
 refine Bw<|.seq ?_
 refine Di Dz (W8 j p) ?_
 refine B6 ?_ ?_<;>intro h23
 ·refine Bw ?_
  refine B5 ?_
  first
   | (simp[go_sem,Nv,h23];done)
   | (simp[go_sem,Nv, *];done)
   | (simp[go_sem];unfold Nv;(repeat' split)<;>first | (simp_all;done) | (simp_all;omega) | (simp at *;omega))
 refine Bv<|.seq<|.R ?_
 refine B6 ?_ ?_<;>intro h35
 ·refine Bw ?_
  refine B5 ?_
  first
   | (simp[go_sem,Nv,h23,h35];done)
   | (simp[go_sem,Nv, *];done)
   | (simp[go_sem];unfold Nv;(repeat' split)<;>first | (simp_all;done) | (simp_all;omega) | (simp at *;omega))
 refine Bv<|.R ?_
 refine B5 ?_
 first
  | (simp[go_sem,Nv,h23,h35];done)
  | (simp[go_sem,Nv, *];done)
  | (simp[go_sem];unfold Nv;(repeat' split)<;>first | (simp_all;done) | (simp_all;omega))
def Ym (r:Int):Bool:=decide (0<=r)&&decide (r<=63)
def Aoj (a b:Int):Bool:=Ym a&&Ym b&&(Ey .andNot .i64 a b == 0)
def Xq (n:Int):Bool:=decide (0<=n)&&decide (n<=4294967295)
def Aso (n:Int):Bool:=decide (0<=n)&&decide (n<=3)
def Agy (n:Int):Bool:=decide (0<=n)&&decide (n<=1073741824)
def X3 (k:Int):Bool:=decide (1<=k)&&decide (k<=12)
def Aoi (rate burst:Int):Jh:=⟨burst,rate,burst⟩
def N9 (b:Jh):Jh:={ b with lv:=if b.bu<IntKind.i64.wrap (b.lv+b.ra) then b.bu else IntKind.i64.wrap (b.lv+b.ra) }
def R4 (b:Jh):Jh×Bool:=if b.lv<=0 then (b,false) else ({ b with lv:=IntKind.i64.wrap (b.lv - 1) },true)
def Ph (c:Fe):Bool:=c.cls == 2||c.cls == 3
theorem Nz (r:Int):PP 252 [] [.li r] [] (.lb (Ym r)):=by
 refine Em Tryz.func252 ?_
 iterate 2 refine Bw ?_
 refine B5 ?_
 simp[go_sem,Ym]
theorem Wb (a b:Int):PP 272 [] [.li a,.li b] [] (.lb (Aoj a b)):=by
 refine Em Tryz.func272 ?_
 refine Bw ?_
 refine Bx (by rfl) fun K1 hK1=>?_
 simp[go_sem]
 refine .l (Nz a) ?_
 simp[go_sem]
 refine Pv ?_
 simp[go_sem]
 refine .lo (Nz b) rfl (by simp) ?_
 simp[go_sem]
 refine hK1 _ ?_;clear hK1
 refine B5 ?_
 simp[go_sem,Aoj]
theorem Lq (n:Int):PP 263 [] [.li n] [] (.lb (Xq n)):=by
 refine Em Tryz.func263 ?_
 iterate 2 refine Bw ?_
 refine B5 ?_
 simp[go_sem,Xq]
theorem Wd (n:Int):PP 264 [] [.li n] [] (.lb (Aso n)):=by
 refine Em Tryz.func264 ?_
 iterate 2 refine Bw ?_
 refine B5 ?_
 simp[go_sem,Aso]
theorem W9 (n:Int):PP 243 [] [.li n] [] (.lb (Agy n)):=by
 refine Em Tryz.func243 ?_
 iterate 2 refine Bw ?_
 refine B5 ?_
 simp[go_sem,Agy]
theorem Yy (n:Int):PP 187 [] [.li n] [] (.lb (X3 n)):=by
 refine Em Tryz.func187 ?_
 iterate 2 refine Bw ?_
 refine B5 ?_
 simp[go_sem,X3]
theorem Aqh (r b:Int):PP 112 [] [.li r,.li b] [] (.agg ((Aoi r b).a false)):=by
 refine Em Tryz.func112 ?_
 iterate 2 refine Bw ?_
 refine B5 ?_
 simp[go_sem,Aoi]
theorem Anp (b:Jh):PP 167 [] [b.g] [] (.agg ((N9 b).a false)):=by
 refine Em Tryz.func167 ?_
 iterate 3 refine Bw ?_
 refine B5 ?_
 simp[go_sem,N9]
theorem Anq (b:Jh):PP 209 [] [b.g] [] (.tup [.agg ((R4 b).1.a false),.lb ((R4 b).2)]):=by
 refine Em Tryz.func209 ?_
 refine Bw<|.seq ?_
 refine Bw ?_
 refine B6 ?_ ?_<;>intro h6
 ·refine Bw ?_
  refine B5 ?_
  first
   | (simp[go_sem,R4,h6];done)
   | (simp[go_sem,R4, *];done)
   | (simp[go_sem];unfold R4;(repeat' split)<;>first | (simp_all;done) | (simp_all;omega) | (simp at *;omega))
 refine Bv<|.R ?_
 refine Bw ?_
 refine B5 ?_
 first
  | (simp[go_sem,R4,h6];done)
  | (simp[go_sem,R4, *];done)
  | (simp[go_sem];unfold R4;(repeat' split)<;>first | (simp_all;done) | (simp_all;omega))
theorem Jw (c:Fe):PP 197 [] [c.g] [] (.lb (Ph c)):=by
 refine Em Tryz.func197 ?_
 iterate 2 refine Bw ?_
 refine B5 ?_
 simp[go_sem,Ph]
end Go.Proofs.YtkkimgjinbaemaaGreat
