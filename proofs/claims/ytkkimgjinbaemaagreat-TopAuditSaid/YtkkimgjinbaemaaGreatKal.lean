/- The walk. -/
import Derived.Test.YtkkimgjinbaemaaGreatKaj
import Derived.Test.YtkkimgjinbaemaaGreatKak
noncomputable section
namespace Go.Proofs.YtkkimgjinbaemaaGreat
open Go.RowKit
set_option linter.unusedVariables false
set_option linter.unusedSimpArgs false
set_option linter.defProp false
set_option linter.unusedSectionVars false
set_option maxRecDepth 100000
set_option maxHeartbeats 4000000
section
structure Ayx (cur vcur cur':Array Value) (n i:Nat):Prop where
  lo:∀j,j<i*5->cur'[j]? = cur[j]?
  at':∀j,j<5->cur'[i*5+j]? = vcur[j]?
  hi:∀j,i*5<=j->j<n*5->cur'[j+5]? = cur[j]?
variable {i:Nat}
theorem Anq {row vs:Array Value} (h5:5<=vs.size) (hr:i*5+5<=row.size) (p:Nat):(Mn row vs i)[p]? = if i*5<=p/\p<i*5+5 then vs[p - i*5]? else row[p]?:=by
 have hl:(vs.toList.take 5).length=5:=by simp;omega
 unfold Mn
 rw[Oq row (i*5) (vs.toList.take 5) (by rw[hl];exact hr),hl]
 split
 ·next h=>rw[Ag (by omega)];simp
 rfl
variable {row cur:Array Value}
theorem Anp {n i:Nat} (hi:i<n) (hc:n*5<=cur.size) (hr:(n+1)*5<=row.size) (p:Nat):(Ad9 row cur n i)[p]? = if (i+1)*5<=p/\p<(n+1)*5 then cur[p - 5]? else row[p]?:=by
 have hl:((cur.toList.drop (i*5)).take ((n - i)*5)).length=(n - i)*5:=by simp;omega
 unfold Ad9
 rw[Oq row ((i+1)*5) _ (by rw[hl];omega),hl]
 by_cases h:(i+1)*5<=p/\p<(n+1)*5
 ·rw[if_pos ⟨h.1,by omega⟩,if_pos h,Ag (by omega),Bd,show i*5+(p - (i+1)*5)=p - 5 by omega]
  simp
 rw[if_neg (by omega),if_neg h]
theorem Aq9 (cur:Array Value) (n i:Nat):Xc cur n i=Ad9 cur cur n i:=rfl
theorem Apq {cur vcur:Array Value} {n i c:Nat} (hi:i<n) (hc:n+1<=c) (hs:cur.size=c*5) (hv:5<=vcur.size):Ayx cur vcur (Mn (Xc cur n i) vcur i) n i:=by
 have h1:=Ab7 hs hi hc
 have hB:=Anq (row:=Xc cur n i) (i:=i) hv (by rw[h1];omega)
 have hD:=Anp (row:=cur) (cur:=cur) hi (by omega) (by omega)
 refine⟨fun j hj=>?_,fun j hj=>?_,fun j h2 h3=>?_⟩
 ·rw[hB,if_neg (by omega),Aq9,hD,if_neg (by omega)]
 ·rw[hB,if_pos (by omega),show i*5+j - i*5=j by omega]
 rw[hB,if_neg (by omega),Aq9,hD,if_pos (by omega),show j+5 - 5=j by omega]
theorem Asy {n i:Nat} (hi:i<n) (hc:n*5<=cur.size) (hr:(n+1)*5<=row.size):(Ad9 row cur n i).size=row.size:=by
 have hl:((cur.toList.drop (i*5)).take ((n - i)*5)).length=(n - i)*5:=by simp;omega
 exact Hc row ((i+1)*5) _ (by rw[hl];omega)
theorem Ab6 {row vs:Array Value} (h5:5<=vs.size) (hr:i*5+5<=row.size):(Mn row vs i).size=row.size:=by
 have hl:(vs.toList.take 5).length=5:=by simp;omega
 exact Hc row (i*5) _ (by rw[hl];exact hr)
theorem Asx {cur vcur ROW:Array Value} {n i G c:Nat} (hi:i<n) (hG:n+1<=G) (hR:ROW.size=G*5) (hs:cur.size=c*5) (hc:n<=c) (hv:5<=vcur.size) (hRc:∀j,j<i*5->ROW[j]? = cur[j]?):Ayx cur vcur (Ad9 (Mn ROW vcur i) cur n i) n i:=by
 have h1:=Ab6 (row:=ROW) (i:=i) hv (by omega)
 have hB:=Anq (row:=ROW) (i:=i) hv (by omega)
 have hD:=Anp (row:=Mn ROW vcur i) (cur:=cur) hi (by omega) (by rw[h1];omega)
 refine⟨fun j hj=>?_,fun j hj=>?_,fun j h2 h3=>?_⟩
 ·rw[hD,if_neg (by omega),hB,if_neg (by omega),hRc j hj]
 ·rw[hD,if_neg (by omega),hB,if_pos (by omega),show i*5+j - i*5=j by omega]
 rw[hD,if_pos (by omega),show j+5 - 5=j by omega]
variable {l:List Er}
theorem Amq {q:Nat} {e:List T} (h:(Hb l)[q]? = some e):e.length=5:=by
 obtain⟨r,_,rfl⟩:=Qr h
 rfl
theorem Asw {R:T->Value->Prop} {cur vcur cur':Array Value} {x:Er} (hi:i<l.length) (hP:Ayx cur vcur cur' l.length i) (h0:∀(q:Nat) (e:List T) (s:Nat) (y:T),(Hb l)[q]? = some e->e[s]? = some y->∃u,cur[q*5+s]? = some u/\R y u) (h1:∀(q:Nat) (e:List T) (s:Nat) (y:T),(Hb [x])[q]? = some e->e[s]? = some y->∃u,vcur[q*5+s]? = some u/\R y u) :
  ∀(q:Nat) (e:List T) (s:Nat) (y:T),(Hb (l.take i++x::l.drop i))[q]? = some e->e[s]? = some y->∃u,cur'[q*5+s]? = some u/\R y u:=by
 intro q e s y he hy
 have hs:s<5:=by rw[<- Amq he];exact (Ab.1 hy).1
 obtain⟨r,hr,rfl⟩:=Qr he
 have htl:(l.take i).length=i:=by simp;omega
 by_cases hq:q<i
 ·rw[Au (by omega),Ag hq] at hr
  obtain⟨u,h2,h3⟩:=h0 q r.t s y (by rw[Ap,hr];rfl) hy
  exact⟨u,by rw[hP.lo _ (by omega)];exact h2,h3⟩
 rw[Ao (by omega),htl] at hr
 by_cases hqi:q=i
 ·subst hqi
  rw[Nat.sub_self] at hr
  simp at hr
  subst hr
  obtain⟨u,h2,h3⟩:=h1 0 x.t s y rfl hy
  exact⟨u,by rw[hP.at' s hs];simpa using h2,h3⟩
 obtain⟨p,rfl⟩:∃p,q=p+1:=⟨q - 1,by omega⟩
 rw[show p+1 - i=(p - i)+1 by omega,Bb,Bd,show i+(p - i)=p by omega] at hr
 have hp:p<l.length:=(Ab.1 hr).1
 obtain⟨u,h2,h3⟩:=h0 p r.t s y (by rw[Ap,hr];rfl) hy
 exact⟨u,by rw[show (p+1)*5+s=(p*5+s)+5 by omega,hP.hi _ (by omega) (by omega)];exact h2,h3⟩
theorem Es.slots {E:Gp} {β:Nat->Option Nat} {st:St} {a:Act} {w:World} (r:Es E β st a w) {m:Nat} {sl:List (Nat×AV)} {us:Array Value} (hm:us.size=m) (hsl:∀t,Ea (E.C β st w) (E5 sl t) (us.getD t undef)):Es { E with n:=m } β ⟨sl,st.ob⟩ ⟨us,a.defers⟩ w :=
 ⟨hm,hsl,r.df,r.ob,r.inj,r.rng,r.kp,r.ct,r.kb,r.dk⟩
theorem Agx.of {C:VC} {id n ty k:Nat} {fr fz:Bool} {es:List (List T)} {b c:Nat} {cur:Array Value} (ho:C.ob id=.row ty k fr fz es) (hn:n=es.length) (hb:C.β id=some b) (hc:C.h[b]? = some (.cells cur ty (0,0))) (hs:cur.size=c*k):Agx C id n (.slice (some ⟨b,0,none⟩) n c) :=
 ⟨rfl,ty,k,fr,fz,es,ho,by omega,fun _=>by rw[hb];exact⟨c,cur,hc,hs,rfl⟩⟩
theorem Aj0 (l:List Er) (x:Er) (i:Nat) (hi:i<l.length) (hl:l.length<=1000) (f1 f2:Bool):PP 266 [.row 164 5 f1 false (Hb l),.row 164 5 f2 false (Hb [x])] [.own 0 l.length,.li i,.own 1 1] [.row 164 5 false false (Hb (l.take i++x::l.drop i)),.row 164 5 f2 false (Hb [x])] (.own 0 (l.length+1)):=by
 refine⟨⟨_,Tryz.func266,rfl,rfl⟩,fun E β us hn ho hβ r=>?_⟩
 have hsz:us.size=3:=r.sz.trans hn
 have ho0:(St.mk (H0 0 [AV.own 0 l.length,.li i,.own 1 1]) [.row 164 5 f1 false (Hb l),.row 164 5 f2 false (Hb [x])]).o 0=.row 164 5 f1 false (Hb l):=rfl
 have ho1:(St.mk (H0 0 [AV.own 0 l.length,.li i,.own 1 1]) [.row 164 5 f1 false (Hb l),.row 164 5 f2 false (Hb [x])]).o 1=.row 164 5 f2 false (Hb [x]):=rfl
 have hlen:l.length=(Hb l).length:=(A2 _).symm
 obtain⟨u0,hu0⟩:∃u,us[0]? = some u:=⟨us[0],Al (by omega)⟩
 obtain⟨u1,hu1⟩:∃u,us[1]? = some u:=⟨us[1],Al (by omega)⟩
 obtain⟨u2,hu2⟩:∃u,us[2]? = some u:=⟨us[2],Al (by omega)⟩
 have hus:us = #[u0,u1,u2]:=by
  apply Array.ext_getElem?
  intro j
  match j with
  | 0=>rw[hu0];rfl
  | 1=>rw[hu1];rfl
  | 2=>rw[hu2];rfl
  | j+3=>rw[Array.getElem?_eq_none (by omega)];rfl
 have g0:=r.sl 0
 have g1:=r.sl 1
 have g2:=r.sl 2
 simp only[Av,hu0,hu1,hu2,Bh] at g0 g1 g2
 simp[H0,E5] at g0 g1 g2
 cases g0 with
 | own _ _ _ g0 =>
 cases g1 with
 | lit _ =>
 cases g2 with
 | own _ _ _ g2 =>
 rcases r.own_val ho0 g0 hlen with⟨_,he,_⟩ | ⟨b,cur,c,hb,q1,q2,q3,q4,hv0,q5⟩
 ·have:l=[]:=by simpa using he
  rw[this] at hi;simp at hi
 rcases r.own_val ho1 g2 rfl with⟨_,he,_⟩ | ⟨vb,vcur,vc,hvb,p1,p2,p3,p4,hv2,p5⟩
 ·simp at he
 have hne:vb≠b:=fun e=>by
  have:=r.inj 1 0 vb (by rw[ho1];simp) (by rw[ho0];simp) hvb (by rw[e];exact hb)
  omega
 have p3:1<=vc:=by simpa using p3
 rw[<- hlen] at q3
 have hone:∀(cc:Array Value) (es:List Er) (fr:Bool),(∀(p:Nat) (e:List T) (j:Nat) (y:T),(Hb es)[p]? = some e->e[j]? = some y->∃u,cc[p*5+j]? = some u/\Gn E.w0.heap ((E.C β ⟨H0 0 [AV.own 0 l.length,.li i,.own 1 1],[.row 164 5 f1 false (Hb l),.row 164 5 f2 false (Hb [x])]⟩ E.w0).S fr) y u)->∀j,j<es.length*5->∀v,cc[j]? = some v->v.oneCell'=true:=fun cc es fr h j hj v hv=>by
  have hq:j / 5<es.length:=by omega
  have he:(Hb es)[j / 5]? = some es[j / 5].t:=by rw[Ap,Aa hq];rfl
  have hj5:j % 5<(es[j / 5].t).length:=by rw[show (es[j / 5].t).length=5 from rfl];omega
  obtain⟨u,h1,h2⟩:=h _ _ (j % 5) _ he (Aa hj5)
  rw[show j / 5*5+j % 5=j by omega,hv] at h1
  injection h1 with h1
  rw[h1]
  exact h2.one
 have hc0:=hone cur l f1 q5
 have hc1:=hone vcur [x] f2 p5
 have hlx:(l.take i++x::l.drop i).length=l.length+1:=by simp;omega
 have hORel:∀(g:Nat) (cur':Array Value) (c':Nat),cur'.size=c'*5->l.length+1<=c'->c'<=maxLen->Ayx cur vcur cur' l.length i->∀C:VC,N4 (E.C β ⟨H0 0 [AV.own 0 l.length,.li i,.own 1 1],[.row 164 5 f1 false (Hb l),.row 164 5 f2 false (Hb [x])]⟩ E.w0) C->C.β 0=some g->C.h[g]? = some (.cells cur' 164 (0,0))->Ki C 0 (.row 164 5 false false (Hb (l.take i++x::l.drop i))):=fun g cur' c' h1 h2 h3 hP C s hCβ hCh=>by
  refine⟨⟨by decide,fun q e he=>Amq he⟩,?_⟩
  rw[hCβ]
  refine⟨cur',c',hCh,h1,by rw[A2,hlx];exact h2,h3,?_⟩
  exact Asw hi hP (fun q e s' y he hy=>by
   obtain⟨u,m1,m2⟩:=q5 q e s' y he hy
   exact⟨u,m1,VC.T_weak (s.T m2) fun e=>by cases e⟩) (fun q e s' y he hy=>by
   obtain⟨u,m1,m2⟩:=p5 q e s' y he hy
   exact⟨u,m1,VC.T_weak (s.T m2) fun e=>by cases e⟩)
 rw[hus,hv0,hv2,A2]
 have hv1:5<=vcur.size:=by omega
 by_cases hroom:l.length+1<=c
 ·have hcm:c<=9223372036854775807:=by unfold maxLen at q4;omega
  refine (Asv b l.length c i vb vc cur vcur E.w0 hi hroom hcm q1 q2 p1 hv1 hne hc0 (fun j hj v hv=>hc1 j (by simpa using hj) v hv)).mono ?_
  rintro e w' ⟨rfl,rfl⟩
  have hA:=Ab7 q2 hi hroom
  have hP:=Apq hi hroom q2 hv1
  have hB:(Mn (Xc cur l.length i) vcur i).size=c*5:=by rw[Ab6 hv1 (by rw[hA];omega),hA]
  have k1:=setRow_heap E.w0.drew b cur (Xc cur l.length i) 164 (0,0) q1
  have k2:=setRow_heap _ b _ (Mn (Xc cur l.length i) vcur i) 164 (0,0) k1
  have r1:=(r.drew (E.w0.drawn+1)).change (id:=0) (g:=b) (o:=.row 164 5 false false (Hb (l.take i++x::l.drop i))) (by rw[ho0];rfl) hb q1 k2 (by rw[hB,q2]) (by simp) (fun b' hb'=>(setRow_other _ b b' _ hb').trans (setRow_other _ b b' _ hb')) rfl rfl rfl
   (fun ty cs e=>by rw[ho0] at e;cases e) (fun ty k fr fz es e=>by
    rw[ho0] at e
    injection e with e1 e2 e3 e4 e5
    subst e1 e2 e5
    exact⟨_,_,_,rfl,by rw[A2,A2,hlx];omega⟩) (hORel b _ c hB hroom q4 hP) (.inr trivial)
  refine⟨_,_,rfl,r1.slots (m:=1) (sl:=[(0,.own 0 (l.length+1))]) rfl fun t=>?_⟩
  simp only[E5]
  by_cases ht:t=0
  ·subst ht
   exact .own _ _ _ (Agx.of rfl (by rw[A2,hlx]) hb k2 hB)
  have:(0 == t)=false:=by simpa using fun e=>ht e.symm
  rw[this]
  exact .any _
 refine (Avq b l.length c i vb vc cur vcur E.w0 hi q3 (by omega) hl q1 q2 p1 hv1 hc0 (fun j hj v hv=>hc1 j (by simpa using hj) v hv)).mono ?_
 rintro e w' ⟨ROW,G,k,n1,n2,n3,n4,rfl,rfl⟩
 have hP:=Asx hi n2 n1 q2 q3 hv1 n4
 have hB1:=Ab6 (row:=ROW) (i:=i) hv1 (by omega)
 have hB:(Ad9 (Mn ROW vcur i) cur l.length i).size=G*5:=by rw[Asy hi (by omega) (by rw[hB1];omega),hB1,n1]
 have r1:=(r.bind (id:=0) (o:=.row 164 5 false false (Hb (l.take i++x::l.drop i))) (.inr ⟨_,_,_,_,_,_,_,_,ho0,rfl,by rw[A2,A2,hlx];omega⟩) (by simp) (Ad9 (Mn ROW vcur i) cur l.length i) 164 (hORel _ _ G hB n2 n3 hP)).drew k
 refine⟨_,_,rfl,r1.slots (m:=1) (sl:=[(0,.own 0 (l.length+1))]) rfl fun t=>?_⟩
 simp only[E5]
 by_cases ht:t=0
 ·subst ht
  exact .own _ _ _ (Agx.of rfl (by rw[A2,hlx]) (show upd β 0 E.w0.heap.size 0=some E.w0.heap.size by simp[upd]) (An5 E.w0 _) hB)
 have:(0 == t)=false:=by simpa using fun e=>ht e.symm
 rw[this]
 exact .any _
theorem Aj1 (l:List Er) (x:Er) (hl:l.length<=1000) (f1 f2:Bool):PP 266 [.row 164 5 f1 false (Hb l),.row 164 5 f2 false (Hb [x])] [.own 0 l.length,.li l.length,.own 1 1] [.row 164 5 false false (Hb (l++[x])),.row 164 5 f2 false (Hb [x])] (.own 0 (l.length+1)):=by
 obtain⟨d,h,_⟩:=Aer (P:=Tryz.prog) (f:=266) (args:=[.own 0 l.length,.li l.length,.own 1 1]) (σa:=[.row 164 5 f1 false (Hb l),.row 164 5 f2 false (Hb [x])]) (D:=Unit) (F:=fun _=>.own 0 (l.length+1)) (S:=fun _=>[.row 164 5 false false (Hb (l++[x])),.row 164 5 f2 false (Hb [x])]) (Q:=fun _=>True) Tryz.func266 rfl rfl rfl (by simp[Tryz.ntmps266]) (by
  refine Bq ?_
  refine Bu Dy ?_
  refine Bq<|.seq ?_
  refine Bq ?_
  refine Ck (fun h16=>?_) (fun h16=>?_)
  ·simp[go_sem] at h16
  refine Bp<|.R<|.seq ?_
  refine Bq ?_
  refine Ck (fun h22=>?_) (fun h22=>?_)
  rotate_left
  ·simp[go_sem] at h22
  refine Bu Dy ?_
  refine Cv 0 rfl ?_
  simp[go_sem]
  refine Bz ⟨(),Tn [0,1] (by simp[go_sem]) (by decide) (fun id h=>by
   match id,h with
   | 0,_=>rfl
   | 1,_=>rfl
   | id+2,h=>exact absurd h (by simp)) (by simp[go_sem]) ?_,trivial⟩
  repeat' (first | exact .nil | refine .cons (by simp[go_sem]) ?_))
 exact h
theorem Amb (l:List Er) (x:Er) (i:Nat) (hi:i<=l.length) (hl:l.length<=1000) (f1 f2:Bool):PP 266 [.row 164 5 f1 false (Hb l),.row 164 5 f2 false (Hb [x])] [.own 0 l.length,.li i,.own 1 1] [.row 164 5 false false (Hb (l.take i++x::l.drop i)),.row 164 5 f2 false (Hb [x])] (.own 0 (l.length+1)):=by
 by_cases h:i<l.length
 ·exact Aj0 l x i h hl f1 f2
 obtain rfl:i=l.length:=by omega
 rw[List.take_length,List.drop_length]
 exact Aj1 l x hl f1 f2
end
theorem Abj (l:List Er) (fid:FuncId) (caps:List AV) (p:Er->Bool) (hl:l.length<=1000000) (hg:∀r∈l,r.legs.length<=1000000) (hc:Aa2 caps) (hp:∀t,PP fid [] (t.g::caps) [] (.lb (p t))):PP 168 [] [.mReq l,.fn fid caps] [.row 164 5 false false (Hb (l.filter p))] (.own 0 (l.filter p).length):=by
 refine El Tryz.func168 ?_
 refine Cc (fun K kk=>by simp[go_sem,hc.pass,hc.passC,hc.bor,hc.low];exact kk) ?_
 refine Cc (fun K kk=>by simp[go_sem,hc.pass,hc.passC,hc.bor,hc.low];exact kk)<|.seq ?_
 refine Cc (fun K kk=>by simp[go_sem,hc.pass,hc.passC,hc.bor,hc.low];exact kk)<|.block ?_
 refine Cn 5 164 5 (by decide) (k':=5) (by simp[go_sem]) ?_
 simp[go_sem]
 refine Cb l.length (fun i1=>⟨[(1,.fn fid caps),(5,.own 0 ((l.take i1).filter p).length),(8,.mReq l),(9,.li l.length),(10,.li i1)],[.row 164 5 false false (Hb ((l.take i1).filter p))]⟩) (wQ [0] ?_ ?_) fun i1 hi1=>?_
 ·simp[go_sem,hc.ren]
 ·simp[go_sem,hc.ren]
 refine Cc (fun K kk=>by simp[go_sem,hc.pass,hc.passC,hc.bor,hc.low];exact kk)<|.seq ?_
 refine B7 ?_ ?_<;>intro h11
 ·have hx:l[i1]? = some l[i1]:=Aa (by omega)
  generalize l[i1]=e at hx
  have hf:((l.take i1).filter p).length<=i1:=Ak (Az _ _) (by simp;omega)
  have ht:List.take (i1+1) l=List.take i1 l++[e]:=by rw[List.take_add_one,hx];rfl
  refine Bv<|.seq<|.block<|.H hx ?_
  refine Cc (fun K kk=>by simp[go_sem,hc.pass,hc.passC,hc.bor,hc.low];refine .lo (hp e) (by simp[go_sem,hc.low]) (by simp[AV.cln,Ff]) ?_;simp[go_sem,hc.pass,hc.passC,hc.bor,hc.low];exact kk) ?_
  refine B7 ?_ ?_<;>intro h16
  ·refine VW.S1 (fun K kk=>by simp[go_sem,hc.pass,hc.passC,hc.bor,hc.low];refine .l (Vm e (hg e (Ac hx))) ?_;simp[go_sem,hc.pass,hc.passC,hc.bor,hc.low];(repeat first | exact kk | refine aK ?_)) ?_
   refine VW.S1 (fun K kk=>by simp[go_sem,hc.pass,hc.passC,hc.bor,hc.low];exact kk) ?_
   refine⟨by omega,wQ [0] ?_ ?_⟩
   ·simp[go_sem,Dw ((i1:Int)+1),hc.ren,ht,List.filter_append,h11,h16]
   simp[go_sem,hc.ren,ht,List.filter_append,h11,h16]
  refine Bv<|.S1 (fun K kk=>by simp[go_sem,hc.pass,hc.passC,hc.bor,hc.low];exact kk) ?_
  refine⟨by omega,wQ [0] ?_ ?_⟩
  ·simp[go_sem,Dw ((i1:Int)+1),hc.ren,ht,List.filter_append,h11,h16]
  simp[go_sem,hc.ren,ht,List.filter_append,h11,h16]
 refine B5<|.S (fun K kk=>by simp[go_sem,hc.pass,hc.passC,hc.bor,hc.low];exact kk) ?_
 have he:l.take i1=l:=Bf (by omega)
 simp only[he]
 exact .ret (rW Dy [0])
section
variable (l:List Er) (hl:l.length<=1000000) (hg:∀r∈l,r.legs.length<=1000000)
include hl hg
theorem Apo:PP 168 [] [.mReq l,.fn 193 []] [.row 164 5 false false (Hb l)] (.own 0 l.length):=by
 have h:=Abj l _ [] (fun _=>true) hl hg Tm (Ks)
 rwa[show l.filter (fun _=>true)=l by simp] at h
theorem Pd:PP 171 [] [.mReq l] [.row 164 5 false false (Hb l)] (.own 0 l.length):=by
 refine El Tryz.func171 ?_
 refine Bw ?_
 refine Cc (fun K kk=>by simp[go_sem];refine .lo (Apo l hl hg) (by simp[go_sem]) (by simp[AV.cln,Ff]) ?_;simp[go_sem];exact kk) ?_
 exact .ret (rW Dy [0])
end
theorem Ay4 {l:List Er} {id b c life now q:Int} {g:List G3} {n:Nat} (hn:n<=l.length) (h4:l.length<3/\(l.length:Int)<q) (hT:Wx id=true/\Afu now=true/\1<=life/\life<=600) (hg:∀r∈l,r.legs.length<=1000000) (hx:g.length<=1000000):(l.take n++⟨id,b,c,IntKind.i64.wrap (now+life),g⟩::l.drop n).length<=l.length+1/\(l.take n++⟨id,b,c,IntKind.i64.wrap (now+life),g⟩::l.drop n).length<=3/\(∀r∈l.take n++⟨id,b,c,IntKind.i64.wrap (now+life),g⟩::l.drop n,r.legs.length<=1000000)/\((0:Int)=0->((l.take n++(⟨id,b,c,IntKind.i64.wrap (now+life),g⟩:Er)::l.drop n).length:Int)<=q)/\((∀r∈l,V0 r)->∀r∈l.take n++⟨id,b,c,IntKind.i64.wrap (now+life),g⟩::l.drop n,V0 r)/\(0:Int)<=0/\(0:Int)<=99:=by
 have hm:∀{p:Er->Prop} {x:Er},(∀r∈l,p r)->p x->∀r∈l.take n++x::l.drop n,p r:=fun hg hx r hr=>by
  rcases A0.1 hr with h | h
  ·exact hg r (Aq h)
  rcases List.mem_cons.1 h with rfl | h
  ·exact hx
  exact hg r (Ay h)
 obtain⟨h5,h6,h7,h8⟩:=hT
 simp only[Wx,Afu,Ah,decide_eq_true_eq] at h5 h6
 exact⟨by simp;omega,by simp;omega,hm hg hx,fun _=>by simp;omega,fun hB=>hm hB ⟨⟨h5.1,h5.2⟩,by show NB (IntKind.i64.wrap (now+life));rw[Dw _];exact⟨by omega,by omega⟩⟩,by decide,by decide⟩
section
variable (l:List Er) (q:Int) (id:Int) (v:Hl) (life:Int) (legs:List G3) (now:Int) (hl:l.length<=3) (hg:∀r∈l,r.legs.length<=1000000) (hgl:legs.length<=1000000) (hq3:q<=3)
include id v life now hl hg hgl hq3
theorem Oh:Ct 241 [.mReq l,.li q,.li id,v.g,.li life,.mLeg legs,.li now] (fun d:List Er×Int=>.tup [.mReq d.1,.li d.2]) (fun d=>d.1.length<=l.length+1/\d.1.length<=3/\(∀r∈d.1,r.legs.length<=1000000)/\(d.2=0->(d.1.length:Int)<=q)/\((∀r∈l,V0 r)->∀r∈d.1,V0 r)/\0<=d.2/\d.2<=99):=by
 refine Ev Tryz.func241 ?_
 have hlM:l.length<=1000000:=by omega
 refine Bq<|.seq ?_
 refine B4 (by rfl) fun K1 hK1=>?_
 simp[go_sem]
 obtain⟨Y1,cY1,qY1⟩:=Eo (Pm l q (by assumption) (by assumption))
 refine .l cY1 ?_
 simp[go_sem]
 refine Qc ?_
 simp[go_sem]
 refine .lo (K8 v.id) rfl (by simp[AV.cln,Ff]) ?_
 simp[go_sem]
 refine Qc ?_
 simp[go_sem]
 refine .lo (Vn v.cls) rfl (by simp[AV.cln,Ff]) ?_
 simp[go_sem]
 refine Qc ?_
 simp[go_sem]
 refine .lo (Wf now) rfl (by simp[AV.cln,Ff]) ?_
 simp[go_sem]
 refine hK1 _ ?_;clear hK1
 refine Br ?_ ?_<;>intro h38
 ·refine Bq ?_
  exact .ret (Eu Dy ([],1) ⟨Ae _,Ae _,fun r h=>(by cases h),fun h=>absurd h (by decide),fun _ r h=>(by cases h),by decide⟩)
 refine Bp<|.seq ?_
 refine B4 (by rfl) fun K1 hK1=>?_
 simp[go_sem]
 refine .l (K8 id) ?_
 simp[go_sem]
 refine Qc ?_
 simp[go_sem]
 obtain⟨Y2,cY2,qY2⟩:=Eo (Qd legs (by assumption))
 refine .lo cY2 rfl (by simp[AV.cln,Ff]) ?_
 simp[go_sem]
 refine hK1 _ ?_;clear hK1
 refine Br ?_ ?_<;>intro h54
 ·refine Bq ?_
  exact .ret (Eu Dy ([],8) ⟨Ae _,Ae _,fun r h=>(by cases h),fun h=>absurd h (by decide),fun _ r h=>(by cases h),by decide⟩)
 refine Bp<|.seq<|.L Dy (Pz l id (by assumption)) ?_
 refine Br ?_ ?_<;>intro h58
 ·refine Bq ?_
  exact .ret (Eu Dy ([],11) ⟨Ae _,Ae _,fun r h=>(by cases h),fun h=>absurd h (by decide),fun _ r h=>(by cases h),by decide⟩)
 refine Bp<|.seq<|.R ?_
 refine Br ?_ ?_<;>intro h67
 ·refine Bq ?_
  exact .ret (Eu Dy ([],14) ⟨Ae _,Ae _,fun r h=>(by cases h),fun h=>absurd h (by decide),fun _ r h=>(by cases h),by decide⟩)
 have hT:Wx id=true/\Afu now=true/\1<=life/\life<=600:=⟨h54.1.1.1,h38.2,by omega,by omega⟩
 refine Bp<|.R<|.seq<|.block ?_
 refine Cj (fun (y1:Int)=>⟨[(0,.mReq l),(2,.li id),(4,.li life),(5,.mLeg legs),(6,.li now),(10,.ptr 0 0),(16,.li y1)],[.box 216 [.li v.id,.li v.cls]]⟩) (fun y1=>0<=y1/\y1<=l.length) (fun y1=>(l.length - y1).toNat) (0) (wk Dy [0]) (⟨by omega,by omega⟩) fun y1 hy1=>?_
 refine B9 ?_
 by_cases hc10:y1<l.length
 ·obtain⟨e1,H1⟩:=gx l y1.toNat
  refine Bu (Fe hc10 H1) ?_
  refine Br ?_ ?_<;>intro h80
  ·refine Bp<|.block ?_
   have hw2:=Dw (y1+1:Int)
   refine B0 (I1 hc10 H1 hw2) ?_
   refine⟨((y1+1)),?_,?_,wQ [0] ?_ ?_⟩
   ·omega
   ·exact⟨by omega,by omega⟩
   all_goals simp[go_sem,hc10,H1,hw2]
  refine Bt ?_
  obtain⟨ix,hix⟩:∃ix:Nat,y1=ix:=⟨y1.toNat,by omega⟩
  subst hix
  have hln:(l.length+1=min ix l.length+(l.length - ix+1))=True:=eq_true (by omega)
  refine Cw (fun K kk=>by simp[go_sem,hc10,H1,hln];refine .lo (E4.froz (Mp _ (by (simp;omega)) (by (simp[T.plain,G3.t];done)))) rfl (by simp[AV.cln,Ff]) ?_;simp[go_sem,hc10,H1,hln];exact kk) ?_
  refine Cw (fun K kk=>by simp[go_sem,hc10,H1,hln];refine .l (Pd l (by assumption) (by assumption)) ?_;simp[go_sem,hc10,H1,hln];refine .o [2,3] (Amb l ⟨id,v.id,v.cls,IntKind.i64.wrap (now+life),legs⟩ ix (by omega) (by omega) false true) ?_;simp[go_sem,hc10,H1,hln];exact kk) ?_
  refine B2 Dy 2 ?_
  exact .ret (Eu (I1 hc10 H1 hln) ((l.take ix++⟨id,v.id,v.cls,IntKind.i64.wrap (now+life),legs⟩::l.drop ix),0) (Ay4 (by omega) ⟨by omega,h67.1⟩ hT hg hgl))
 refine Bu hc10 ?_
 refine Ck ?_ ?_<;>intro h80<;>simp[go_sem] at h80
 refine Bt ?_
 obtain⟨ix,hix⟩:∃ix:Nat,y1=ix:=⟨y1.toNat,by omega⟩
 subst hix
 have hln:(l.length+1=min ix l.length+(l.length - ix+1))=True:=eq_true (by omega)
 refine Cw (fun K kk=>by simp[go_sem,hc10,hln];refine .lo (E4.froz (Mp _ (by (simp;omega)) (by (simp[T.plain,G3.t];done)))) rfl (by simp[AV.cln,Ff]) ?_;simp[go_sem,hc10,hln];exact kk) ?_
 refine Cw (fun K kk=>by simp[go_sem,hc10,hln];refine .l (Pd l (by assumption) (by assumption)) ?_;simp[go_sem,hc10,hln];refine .o [2,3] (Amb l ⟨id,v.id,v.cls,IntKind.i64.wrap (now+life),legs⟩ ix (by omega) (by omega) false true) ?_;simp[go_sem,hc10,hln];exact kk) ?_
 refine B2 Dy 2 ?_
 exact .ret (Eu (Fe hc10 hln) ((l.take ix++⟨id,v.id,v.cls,IntKind.i64.wrap (now+life),legs⟩::l.drop ix),0) (Ay4 (by omega) ⟨by omega,h67.1⟩ hT hg hgl))
def Fv:List Er×Int:=(Eo (Oh l q id v life legs now hl hg hgl hq3)).choose
theorem Abl:PP 241 [] [.mReq l,.li q,.li id,v.g,.li life,.mLeg legs,.li now] [] (.tup [.imm false 5 (Hb (Fv l q id v life legs now hl hg hgl hq3).1),.lit (.int .i64 (Fv l q id v life legs now hl hg hgl hq3).2)]):=(Eo (Oh l q id v life legs now hl hg hgl hq3)).choose_spec.1
theorem Abu:(Fv l q id v life legs now hl hg hgl hq3).1.length<=l.length+1/\(Fv l q id v life legs now hl hg hgl hq3).1.length<=3/\(∀r∈(Fv l q id v life legs now hl hg hgl hq3).1,r.legs.length<=1000000)/\((Fv l q id v life legs now hl hg hgl hq3).2=0->((Fv l q id v life legs now hl hg hgl hq3).1.length:Int)<=q)/\((∀r∈l,V0 r)->∀r∈(Fv l q id v life legs now hl hg hgl hq3).1,V0 r)/\0<=(Fv l q id v life legs now hl hg hgl hq3).2/\(Fv l q id v life legs now hl hg hgl hq3).2<=99:=(Eo (Oh l q id v life legs now hl hg hgl hq3)).choose_spec.2
end
structure Fx (x:Dx):Prop where
  b:Vw x
  vehs:x.reg.vehs.length<=8
  reqs:x.reqs.length<=3
  dr:∀s∈x.draws,s.length<=1000/\By s
  rq:x.reg.ag.rq<=3
  rl:(x.reqs.length:Int)<=max 0 x.reg.ag.rq
  rk:∀r∈x.reqs,V0 r
theorem Ahy:Hh ⟨0,[],[],[]⟩:=by simp[Hh]
theorem R9 {x:Dx} {sec:List Int} {q:Dz} (hd:Fx x) {d:Jw×Dz×Bool×Int} (hQ:Qb d.1/\d.1.vehs.length<=8/\(d.2.2.2=0->d.1.num=x.reg.num/\d.1.ag=x.reg.ag/\Ayp x.reg.bk d.1.bk sec q d.2.1)/\Hh d.2.1/\0<=d.2.2.2/\d.2.2.2<=99) (hB:By sec) (h0:d.2.2.2=0) {rq:List Er} {dr:List (List Int)} (h1:rq=x.reqs\/∃f,rq=x.reqs.filter f:=by first | exact .inl rfl | exact .inr ⟨_,rfl⟩) (h3:dr=x.draws\/dr=x.draws.drop 1:=by first | exact .inl rfl | exact .inr rfl) :
 Fx ⟨d.1,rq,dr,x.aud⟩/\(⟨d.1,rq,dr,x.aud⟩:Dx).aud=x.aud/\(⟨d.1,rq,dr,x.aud⟩:Dx).reg.num=x.reg.num/\(⟨d.1,rq,dr,x.aud⟩:Dx).reg.ag=x.reg.ag/\Hh d.2.1/\(⟨d.1,rq,dr,x.aud⟩:Dx).reg.bk=x.reg.bk/\((0:Int)=0->Ayo q d.2.1/\By d.2.1.data)/\(0:Int)<=0/\(0:Int)<=99:=by
 have hE:=hQ.2.2.1 h0
 have hl:rq.length<=x.reqs.length/\∀r∈rq,r∈x.reqs:=by
  rcases h1 with rfl | ⟨f,rfl⟩
  ·exact⟨Aj _,fun r h=>h⟩
  exact⟨Az _ _,fun r h=>(Bn.1 h).1⟩
 have hr:dr.length<=x.draws.length/\∀s∈dr,s∈x.draws:=by
  rcases h3 with rfl | rfl
  ·exact⟨Aj _,fun r h=>h⟩
  exact⟨by simp,fun r h=>Ay h⟩
 have ha:(⟨d.1,rq,dr,x.aud⟩:Dx).reg.ag=x.reg.ag:=hE.2.1
 exact⟨⟨⟨hQ.1,Ak hl.1 hd.b.reqs,fun r h=>hd.b.legs r (hl.2 r h),Ak hr.1 hd.b.draws,fun s h=>hd.b.draw s (hr.2 s h),hd.b.aud⟩,hQ.2.1,Ak hl.1 hd.reqs,fun s h=>hd.dr s (hr.2 s h),by rw[ha];exact hd.rq,by rw[ha];have:=hd.rl;have:=hl.1;dsimp only;omega,fun r h=>hd.rk r (hl.2 r h)⟩,rfl,hE.1,hE.2.1,hQ.2.2.2.1,hE.2.2.1,fun _=>⟨hE.2.2.2.1,hE.2.2.2.2 hB⟩,by decide,by decide⟩
section
variable (x:Dx) (m:Dz) (slot:Int) (now:Int) (hd:Fx x) (h1:m.tok.length<=2000) (h2:m.args.length<=2000) (h3:m.data.length<=2000) (a2:m.kind=2->3<=m.args.length) (a1:m.kind=3\/m.kind=4\/m.kind=5->1<=m.args.length) (a4:m.kind=4->2<=m.args.length)
include slot now hd h1 h2 h3 a2 a1 a4
theorem Pr:Ct 189 [x.g,m.g,.li slot,.li now] (fun d:Dx×Dz×Int=>.tup [d.1.g,d.2.1.g,.li d.2.2]) (fun d=>Fx d.1/\d.1.aud=x.aud/\d.1.reg.num=x.reg.num/\d.1.reg.ag=x.reg.ag/\Hh d.2.1/\d.1.reg.bk=x.reg.bk/\(d.2.2=0->Ayo m d.2.1/\By d.2.1.data)/\0<=d.2.2/\d.2.2<=99):=by
 refine Ev Tryz.func189 ?_
 have h2M:m.args.length<=1000000:=by omega
 have hdb:=hd.b
 refine Bq ?_
 refine Bq<|.seq ?_
 refine Bq ?_
 refine Br ?_ ?_<;>intro h19
 ·obtain⟨e1,H1⟩:=gx x.draws 0
  refine B0 H1 ?_
  refine B8 H1 (Yc x.reg m slot now e1 hd.b.reg hd.vehs h1 h2 h3 a2 a1 a4 (hd.dr e1 (Ac H1)).1)<|.seq ?_
  refine Bu H1 ?_
  refine Br ?_ ?_<;>intro h37
  ·refine Bu H1 ?_
   exact .ret (Eu H1 (x,⟨0,[],[],[]⟩,(Eh x.reg m slot now e1 hd.b.reg hd.vehs h1 h2 h3 a2 a1 a4 (hd.dr e1 (Ac H1)).1).2.2.2) ⟨hd,rfl,rfl,rfl,Ahy,rfl,fun h=>absurd h h37,(Hm x.reg m slot now e1 hd.b.reg hd.vehs h1 h2 h3 a2 a1 a4 (hd.dr e1 (Ac H1)).1).2.2.2.2⟩)
  refine Bp<|.H H1<|.seq ?_
  refine Bu H1 ?_
  refine Br ?_ ?_<;>intro h49
  ·refine B0 H1<|.seq ?_
   refine Bu H1 ?_
   refine Br ?_ ?_<;>intro h56
   ·have ha:=a1 (.inr (.inr h56))
    obtain⟨e2,H2⟩:=gx m.args 0
    refine Cp (Fe H1 H2) (Kq x.reqs e2 hd.b.reqs hd.b.legs) ?_
    refine C9 (Fe H1 H2) ?_
    exact .ret (Eu (Fe H1 H2) (⟨(Eh x.reg m slot now e1 hd.b.reg hd.vehs h1 h2 h3 a2 a1 a4 (hd.dr e1 (Ac H1)).1).1,(List.filter (fun r:Er=>r.veh != e2) x.reqs),x.draws.drop 1,x.aud⟩,(Eh x.reg m slot now e1 hd.b.reg hd.vehs h1 h2 h3 a2 a1 a4 (hd.dr e1 (Ac H1)).1).2.1,0) (R9 hd (Hm x.reg m slot now e1 hd.b.reg hd.vehs h1 h2 h3 a2 a1 a4 (hd.dr e1 (Ac H1)).1) (hd.dr e1 (Ac H1)).2 h37))
   refine Bp<|.G H1 ?_
   exact .ret (Eu H1 (⟨(Eh x.reg m slot now e1 hd.b.reg hd.vehs h1 h2 h3 a2 a1 a4 (hd.dr e1 (Ac H1)).1).1,x.reqs,x.draws.drop 1,x.aud⟩,(Eh x.reg m slot now e1 hd.b.reg hd.vehs h1 h2 h3 a2 a1 a4 (hd.dr e1 (Ac H1)).1).2.1,0) (R9 hd (Hm x.reg m slot now e1 hd.b.reg hd.vehs h1 h2 h3 a2 a1 a4 (hd.dr e1 (Ac H1)).1) (hd.dr e1 (Ac H1)).2 h37))
  refine Bp<|.seq<|.H H1 ?_
  refine Br ?_ ?_<;>intro h56
  ·have ha:=a1 (.inr (.inr h56))
   obtain⟨e3,H3⟩:=gx m.args 0
   refine Cp (Fe H1 H3) (Kq x.reqs e3 hd.b.reqs hd.b.legs) ?_
   refine C9 (Fe H1 H3) ?_
   exact .ret (Eu (Fe H1 H3) (⟨(Eh x.reg m slot now e1 hd.b.reg hd.vehs h1 h2 h3 a2 a1 a4 (hd.dr e1 (Ac H1)).1).1,(List.filter (fun r:Er=>r.veh != e3) x.reqs),x.draws,x.aud⟩,(Eh x.reg m slot now e1 hd.b.reg hd.vehs h1 h2 h3 a2 a1 a4 (hd.dr e1 (Ac H1)).1).2.1,0) (R9 hd (Hm x.reg m slot now e1 hd.b.reg hd.vehs h1 h2 h3 a2 a1 a4 (hd.dr e1 (Ac H1)).1) (hd.dr e1 (Ac H1)).2 h37))
  refine Bp<|.G H1 ?_
  exact .ret (Eu H1 (⟨(Eh x.reg m slot now e1 hd.b.reg hd.vehs h1 h2 h3 a2 a1 a4 (hd.dr e1 (Ac H1)).1).1,x.reqs,x.draws,x.aud⟩,(Eh x.reg m slot now e1 hd.b.reg hd.vehs h1 h2 h3 a2 a1 a4 (hd.dr e1 (Ac H1)).1).2.1,0) (R9 hd (Hm x.reg m slot now e1 hd.b.reg hd.vehs h1 h2 h3 a2 a1 a4 (hd.dr e1 (Ac H1)).1) (hd.dr e1 (Ac H1)).2 h37))
 refine Bp<|.L Dy (Yc x.reg m slot now [] hd.b.reg hd.vehs h1 h2 h3 a2 a1 a4 (by simp))<|.seq ?_
 refine Bq ?_
 refine Br ?_ ?_<;>intro h37
 ·refine Bq ?_
  exact .ret (Eu Dy (x,⟨0,[],[],[]⟩,(Eh x.reg m slot now [] hd.b.reg hd.vehs h1 h2 h3 a2 a1 a4 (by simp)).2.2.2) ⟨hd,rfl,rfl,rfl,Ahy,rfl,fun h=>absurd h h37,(Hm x.reg m slot now [] hd.b.reg hd.vehs h1 h2 h3 a2 a1 a4 (by simp)).2.2.2.2⟩)
 refine Bp<|.R<|.seq ?_
 refine Bq ?_
 refine Br ?_ ?_<;>intro h49
 ·refine B0 Dy<|.seq ?_
  refine Bq ?_
  refine Br ?_ ?_<;>intro h56
  ·have ha:=a1 (.inr (.inr h56))
   obtain⟨e4,H4⟩:=gx m.args 0
   refine Cp H4 (Kq x.reqs e4 hd.b.reqs hd.b.legs) ?_
   refine C9 H4 ?_
   exact .ret (Eu H4 (⟨(Eh x.reg m slot now [] hd.b.reg hd.vehs h1 h2 h3 a2 a1 a4 (by simp)).1,(List.filter (fun r:Er=>r.veh != e4) x.reqs),x.draws.drop 1,x.aud⟩,(Eh x.reg m slot now [] hd.b.reg hd.vehs h1 h2 h3 a2 a1 a4 (by simp)).2.1,0) (R9 hd (Hm x.reg m slot now [] hd.b.reg hd.vehs h1 h2 h3 a2 a1 a4 (by simp)) .nil h37))
  refine Bp<|.D ?_
  exact .ret (Eu Dy (⟨(Eh x.reg m slot now [] hd.b.reg hd.vehs h1 h2 h3 a2 a1 a4 (by simp)).1,x.reqs,x.draws.drop 1,x.aud⟩,(Eh x.reg m slot now [] hd.b.reg hd.vehs h1 h2 h3 a2 a1 a4 (by simp)).2.1,0) (R9 hd (Hm x.reg m slot now [] hd.b.reg hd.vehs h1 h2 h3 a2 a1 a4 (by simp)) .nil h37))
 refine Bp<|.seq<|.R ?_
 refine Br ?_ ?_<;>intro h56
 ·have ha:=a1 (.inr (.inr h56))
  obtain⟨e5,H5⟩:=gx m.args 0
  refine Cp H5 (Kq x.reqs e5 hd.b.reqs hd.b.legs) ?_
  refine C9 H5 ?_
  exact .ret (Eu H5 (⟨(Eh x.reg m slot now [] hd.b.reg hd.vehs h1 h2 h3 a2 a1 a4 (by simp)).1,(List.filter (fun r:Er=>r.veh != e5) x.reqs),x.draws,x.aud⟩,(Eh x.reg m slot now [] hd.b.reg hd.vehs h1 h2 h3 a2 a1 a4 (by simp)).2.1,0) (R9 hd (Hm x.reg m slot now [] hd.b.reg hd.vehs h1 h2 h3 a2 a1 a4 (by simp)) .nil h37))
 refine Bp<|.D ?_
 exact .ret (Eu Dy (⟨(Eh x.reg m slot now [] hd.b.reg hd.vehs h1 h2 h3 a2 a1 a4 (by simp)).1,x.reqs,x.draws,x.aud⟩,(Eh x.reg m slot now [] hd.b.reg hd.vehs h1 h2 h3 a2 a1 a4 (by simp)).2.1,0) (R9 hd (Hm x.reg m slot now [] hd.b.reg hd.vehs h1 h2 h3 a2 a1 a4 (by simp)) .nil h37))
def Ep:Dx×Dz×Int:=(Eo (Pr x m slot now hd h1 h2 h3 a2 a1 a4)).choose
theorem Adx:PP 189 [] [x.g,m.g,.li slot,.li now] [] (.tup [.agg ((Ep x m slot now hd h1 h2 h3 a2 a1 a4).1.a false),.agg ((Ep x m slot now hd h1 h2 h3 a2 a1 a4).2.1.a false),.lit (.int .i64 (Ep x m slot now hd h1 h2 h3 a2 a1 a4).2.2)]):=(Eo (Pr x m slot now hd h1 h2 h3 a2 a1 a4)).choose_spec.1
theorem Mf:Fx (Ep x m slot now hd h1 h2 h3 a2 a1 a4).1/\(Ep x m slot now hd h1 h2 h3 a2 a1 a4).1.aud=x.aud/\(Ep x m slot now hd h1 h2 h3 a2 a1 a4).1.reg.num=x.reg.num/\(Ep x m slot now hd h1 h2 h3 a2 a1 a4).1.reg.ag=x.reg.ag/\Hh (Ep x m slot now hd h1 h2 h3 a2 a1 a4).2.1/\(Ep x m slot now hd h1 h2 h3 a2 a1 a4).1.reg.bk=x.reg.bk/\((Ep x m slot now hd h1 h2 h3 a2 a1 a4).2.2=0->Ayo m (Ep x m slot now hd h1 h2 h3 a2 a1 a4).2.1/\By (Ep x m slot now hd h1 h2 h3 a2 a1 a4).2.1.data)/\0<=(Ep x m slot now hd h1 h2 h3 a2 a1 a4).2.2/\(Ep x m slot now hd h1 h2 h3 a2 a1 a4).2.2<=99:=(Eo (Pr x m slot now hd h1 h2 h3 a2 a1 a4)).choose_spec.2
end
section
variable (cfg:E6) (x:Dx) (l:List Int) (slot:Int) (now:Int) (hd:Fx x) (hl:3<=l.length) (hl2:l.length<=1000) (hn:∀a∈l,0<=a) (s0:0<=slot) (s1:slot<x.reg.toks.length)
include cfg now hd hl hl2 hn s0 s1
theorem Sn:Ct 212 [cfg.g,x.g,.mI l,.li slot,.li now] (fun d:List Er×Int=>.tup [.mReq d.1,.li d.2]) (fun d=>d.1.length<=3/\(∀r∈d.1,r.legs.length<=1000000)/\(d.2=0->(d.1.length:Int)<=max 0 x.reg.ag.rq)/\(∀r∈d.1,V0 r)/\0<=d.2/\d.2<=99):=by
 refine Ev Tryz.func212 ?_
 have hv:x.reg.vehs.length<=1000000:=hd.b.reg.vehs
 have hs1:¬slot<0:=by omega
 have hs2:¬(x.reg.toks.length:Int)<=slot:=by omega
 obtain⟨tk,htk⟩:∃e,x.reg.toks[slot.toNat]? = some e:=⟨_,Aa (by omega)⟩
 refine Bq ?_
 obtain⟨e1,H1⟩:=gx l 1
 refine Dd H1 (Ae5 x.reg.vehs e1 hv)<|.seq ?_
 refine Bu H1 ?_
 refine Br ?_ ?_<;>intro h32
 ·refine Bu H1 ?_
  exact .ret (Eu H1 ([],12) ⟨Ae _,fun r h=>(by cases h),fun h=>absurd h (by decide),fun r h=>(by cases h),by decide⟩)
 refine Bp<|.H H1<|.seq ?_
 refine C9 (O4 H1 hs1 hs2 htk) ?_
 refine Br ?_ ?_<;>intro h53
 ·refine Bu H1 ?_
  exact .ret (Eu H1 ([],17) ⟨Ae _,fun r h=>(by cases h),fun h=>absurd h (by decide),fun r h=>(by cases h),by decide⟩)
 refine Bp<|.H H1<|.seq ?_
 refine Bu H1<|.block ?_
 refine Cf 15 166 5 (by decide) (k':=5) (by simp[go_sem]) ?_
 simp[go_sem,-Prod.exists]
 refine Cj (fun (y1:(List G3)×Int)=>⟨[(2,.mI l),(4,.li now),(5,.ptr 0 0),(6,.ptr 1 0),(12,.ptr 2 0),(15,.own 3 y1.1.length),(16,.li y1.2)],[.box 30 (cfg.a false),.box 70 (x.a false),.box 216 [.li ((Ib x.reg.vehs e1 hv).1.id),.li ((Ib x.reg.vehs e1 hv).1.cls)],.row 166 5 false false (Ia y1.1)]⟩) (fun y1=>3<=y1.2/\y1.1.length<=y1.2/\y1.2<=2000) (fun y1=>(l.length - y1.2).toNat) ([],3) (wk H1 [0,1,2,3]) (⟨by omega,by simp,by dsimp only;omega⟩) fun y1 hy1=>?_
 refine B9 ?_
 have hw2:=Dw (y1.2+3:Int)
 refine Bu (Fe H1 hw2) ?_
 refine Br ?_ ?_<;>intro h58
 ·refine Bp<|.seq<|.block ?_
  obtain⟨e3,H3⟩:=gx l y1.2.toNat
  have hw4:=Dw (y1.2+1:Int)
  obtain⟨e5,H5⟩:=gx l ((y1.2+1).toNat)
  refine C9 (Yo H1 hw2 H3 hw4 H5)<|.seq ?_
  by_cases hc12:e3<cfg.juns.length
  ·have hnj:¬(cfg.juns.length:Int)<=e3:=by omega
   have h0e:=hn e3 (Ac H3)
   have h0f:=hn e5 (Ac H5)
   obtain⟨e6,H6⟩:=gx cfg.juns e3.toNat
   refine B3 (fun K kk=>by simp[go_sem,H1,hw2,H3,hw4,H5,hc12,hnj,H6];repeat first | exact kk | refine aK ?_) ?_
   refine Br ?_ ?_<;>intro h85
   ·refine B3 (fun K kk=>by simp[go_sem,H1,hw2,H3,hw4,H5,hc12,hnj,H6];exact kk) ?_
    refine Bz (Fl ?_);simp[go_sem,H1,hw2,H3,hw4,H5,hc12,hnj,H6]
    exact⟨([],8),by rfl,⟨Ae _,fun r h=>(by cases h),fun h=>absurd h (by decide),fun r h=>(by cases h),by decide⟩⟩
   refine Bp ?_
   have hw7:=Dw (y1.2+2:Int)
   obtain⟨e8,H8⟩:=gx l ((y1.2+2).toNat)
   obtain⟨e9,H9⟩:=gx l ((y1.2+3).toNat)
   refine Cw (fun K kk=>by simp[go_sem,H1,hw2,H3,hw4,H5,hc12,hnj,H6,hw7,H8,H9];(repeat refine aK ?_);refine .l (X9 e3 e5 e8 e9 now) ?_;simp[go_sem,H1,hw2,H3,hw4,H5,hc12,hnj,H6,hw7,H8,H9];exact kk)<|.seq ?_
   refine B3 (fun K kk=>by simp[go_sem,H1,hw2,H3,hw4,H5,hc12,hnj,H6,hw7,H8,H9];exact kk) ?_
   refine Br ?_ ?_<;>intro h104
   ·refine B3 (fun K kk=>by simp[go_sem,H1,hw2,H3,hw4,H5,hc12,hnj,H6,hw7,H8,H9];exact kk) ?_
    refine Bz (Fl ?_);simp[go_sem,H1,hw2,H3,hw4,H5,hc12,hnj,H6,hw7,H8,H9]
    exact⟨([],8),by rfl,⟨Ae _,fun r h=>(by cases h),fun h=>absurd h (by decide),fun r h=>(by cases h),by decide⟩⟩
   refine Bp<|.S1 (fun K kk=>by simp[go_sem,H1,hw2,H3,hw4,H5,hc12,hnj,H6,hw7,H8,H9];repeat first | exact kk | refine aK ?_) ?_
   have hw10:=Dw (y1.2+4:Int)
   refine Ci (fun K kk=>by simp[go_sem,H1,hw2,H3,hw4,H5,hc12,hnj,H6,hw7,H8,H9,hw10];exact kk) ?_
   refine⟨(y1.1++([(M8 e3 e5 e8 e9 now).1]),(y1.2+4)),?_,?_,wQ [0,1,2,3] ?_ ?_⟩
   ·omega
   ·exact⟨by dsimp only;omega,by simp;omega,by dsimp only;omega⟩
   all_goals simp[go_sem,H1,hw2,H3,hw4,H5,hc12,hnj,H6,hw7,H8,H9,hw10]
  have hnj:(cfg.juns.length:Int)<=e3:=by omega
  have h0e:=hn e3 (Ac H3)
  have h0f:=hn e5 (Ac H5)
  refine B3 (fun K kk=>by simp[go_sem,H1,hw2,H3,hw4,H5,hc12,hnj];repeat first | exact kk | refine aK ?_) ?_
  refine Ck ?_ ?_<;>intro h85<;>simp[go_sem] at h85
  refine B3 (fun K kk=>by simp[go_sem,H1,hw2,H3,hw4,H5,hc12,hnj];exact kk) ?_
  refine Bz (Fl ?_);simp[go_sem,H1,hw2,H3,hw4,H5,hc12,hnj]
  exact⟨([],8),by rfl,⟨Ae _,fun r h=>(by cases h),fun h=>absurd h (by decide),fun r h=>(by cases h),by decide⟩⟩
 refine Bt<|.Z (Fe H1 hw2) 3 ?_
 obtain⟨e11,H11⟩:=gx l 0
 obtain⟨e12,H12⟩:=gx l 2
 refine Dd (O4 H1 hw2 H11 H12) (Abl x.reqs x.reg.ag.rq e11 ((Ib x.reg.vehs e1 hv).1) e12 y1.1 now hd.reqs hd.b.legs (by omega) hd.rq) ?_
 exact .ret (Eu (O4 H1 hw2 H11 H12) ((Fv x.reqs x.reg.ag.rq e11 ((Ib x.reg.vehs e1 hv).1) e12 y1.1 now hd.reqs hd.b.legs (by omega) hd.rq).1,(Fv x.reqs x.reg.ag.rq e11 ((Ib x.reg.vehs e1 hv).1) e12 y1.1 now hd.reqs hd.b.legs (by omega) hd.rq).2) (by have h:=(Abu x.reqs x.reg.ag.rq e11 (Ib x.reg.vehs e1 hv).1 e12 y1.1 now hd.reqs hd.b.legs (by omega) hd.rq).2;exact⟨h.1,h.2.1,fun e=>(by have:=h.2.2.1 e;dsimp only;omega),h.2.2.2.1 hd.rk,h.2.2.2.2⟩))
def G6:List Er×Int:=(Eo (Sn cfg x l slot now hd hl hl2 hn s0 s1)).choose
theorem Aho:PP 212 [] [cfg.g,x.g,.mI l,.li slot,.li now] [] (.tup [.imm false 5 (Hb (G6 cfg x l slot now hd hl hl2 hn s0 s1).1),.lit (.int .i64 (G6 cfg x l slot now hd hl hl2 hn s0 s1).2)]):=(Eo (Sn cfg x l slot now hd hl hl2 hn s0 s1)).choose_spec.1
theorem Ahu:(G6 cfg x l slot now hd hl hl2 hn s0 s1).1.length<=3/\(∀r∈(G6 cfg x l slot now hd hl hl2 hn s0 s1).1,r.legs.length<=1000000)/\((G6 cfg x l slot now hd hl hl2 hn s0 s1).2=0->((G6 cfg x l slot now hd hl hl2 hn s0 s1).1.length:Int)<=max 0 x.reg.ag.rq)/\(∀r∈(G6 cfg x l slot now hd hl hl2 hn s0 s1).1,V0 r)/\0<=(G6 cfg x l slot now hd hl hl2 hn s0 s1).2/\(G6 cfg x l slot now hd hl hl2 hn s0 s1).2<=99:=(Eo (Sn cfg x l slot now hd hl hl2 hn s0 s1)).choose_spec.2
end
section
variable (cfg:E6) (x:Dx) (m:Dz) (slot:Int) (now:Int) (hd:Fx x) (h1:1<=m.args.length) (k6:m.kind=6->3<=m.args.length) (hl2:m.args.length<=1000) (hn:∀a∈m.args,0<=a) (s0:0<=slot) (s1:slot<x.reg.toks.length)
include cfg now hd h1 k6 hl2 hn s0 s1
theorem Yw:Ct 190 [cfg.g,x.g,m.g,.li slot,.li now] (fun d:List Er×Int=>.tup [.mReq d.1,.li d.2]) (fun d=>d.1.length<=3/\(∀r∈d.1,r.legs.length<=1000000)/\(d.2=0->(d.1.length:Int)<=max 0 x.reg.ag.rq)/\(∀r∈d.1,V0 r)/\0<=d.2/\d.2<=99):=by
 refine Ev Tryz.func190 ?_
 refine Bq ?_
 obtain⟨e1,H1⟩:=gx m.args 0
 refine Bu H1<|.seq ?_
 refine Bu H1<|.block ?_
 refine Bu H1 ?_
 refine Br ?_ ?_<;>intro h21
 ·refine B8 H1 (Aho cfg x m.args slot now hd (k6 h21) hl2 hn s0 s1) ?_
  exact .ret (Eu H1 ((G6 cfg x m.args slot now hd (k6 h21) hl2 hn s0 s1).1,(G6 cfg x m.args slot now hd (k6 h21) hl2 hn s0 s1).2) (Ahu cfg x m.args slot now hd (k6 h21) hl2 hn s0 s1))
 refine Bu H1 ?_
 refine Br ?_ ?_<;>intro h32
 ·refine Bu H1<|.seq ?_
  refine Bu H1<|.block ?_
  refine Cf 13 122 2 (by decide) (k':=2) (by simp[go_sem]) ?_
  simp[go_sem,-Prod.exists]
  refine Cj (fun (y1:(List (Int×Int))×Int)=>⟨[(4,.li now),(6,.ptr 0 0),(7,.ptr 1 0),(12,.li e1),(13,.own 2 y1.1.length),(14,.li y1.2)],[.box 70 (x.a false),.box 56 (m.a false),.row 122 2 false false (Acu y1.1)]⟩) (fun y1=>1<=y1.2/\y1.1.length<=y1.2/\y1.2<=2000) (fun y1=>(m.args.length - y1.2).toNat) ([],1) (wk H1 [1,2,3]) (⟨by omega,by simp,by dsimp only;omega⟩) fun y1 hy1=>?_
  refine B9 ?_
  have hw2:=Dw (y1.2+1:Int)
  refine Bu (Fe H1 hw2) ?_
  refine Br ?_ ?_<;>intro h39
  ·refine Bp<|.seq<|.block ?_
   obtain⟨e3,H3⟩:=gx m.args y1.2.toNat
   obtain⟨e4,H4⟩:=gx m.args ((y1.2+1).toNat)
   refine VX.G1 (O4 H1 hw2 H3 H4) ?_
   have hw5:=Dw (y1.2+2:Int)
   refine B0 (Yo H1 hw2 H3 H4 hw5) ?_
   refine⟨(y1.1++([(e3,e4)]),(y1.2+2)),?_,?_,wQ [0,1,2] ?_ ?_⟩
   ·omega
   ·exact⟨by dsimp only;omega,by simp;omega,by dsimp only;omega⟩
   all_goals simp[go_sem,H1,hw2,H3,H4,hw5]
  refine Bt<|.Z (Fe H1 hw2) 2 ?_
  refine B8 (Fe H1 hw2) (Abk x.reqs e1 y1.1 now hd.reqs hd.b.legs (by omega)) ?_
  exact .ret (Eu (Fe H1 hw2) ((Gi x.reqs e1 y1.1 now hd.reqs hd.b.legs (by omega)).1,(Gi x.reqs e1 y1.1 now hd.reqs hd.b.legs (by omega)).2) (by have h:=Abt x.reqs e1 y1.1 now hd.reqs hd.b.legs (by omega);have:=hd.rl;exact⟨h.1,h.2.1,fun _=>(by have:=h.2.2.1;dsimp only;omega),h.2.2.2.1 hd.rk,h.2.2.2.2⟩))
 refine Bp<|.L H1 (Abn x.reqs e1 hd.b.reqs hd.b.legs) ?_
 exact .ret (Eu H1 ((Gx x.reqs e1 hd.b.reqs hd.b.legs).1,(Gx x.reqs e1 hd.b.reqs hd.b.legs).2) (by have hq:=Abv x.reqs e1 hd.b.reqs hd.b.legs;have:=hd.rl;exact⟨Ak hq.1 hd.reqs,hq.2.1,fun _=>(by have:=hq.1;dsimp only;omega),hq.2.2.1 hd.rk,hq.2.2.2⟩))
def Hx:List Er×Int:=(Eo (Yw cfg x m slot now hd h1 k6 hl2 hn s0 s1)).choose
theorem Ao2:PP 190 [] [cfg.g,x.g,m.g,.li slot,.li now] [] (.tup [.imm false 5 (Hb (Hx cfg x m slot now hd h1 k6 hl2 hn s0 s1).1),.lit (.int .i64 (Hx cfg x m slot now hd h1 k6 hl2 hn s0 s1).2)]):=(Eo (Yw cfg x m slot now hd h1 k6 hl2 hn s0 s1)).choose_spec.1
theorem Af0:(Hx cfg x m slot now hd h1 k6 hl2 hn s0 s1).1.length<=3/\(∀r∈(Hx cfg x m slot now hd h1 k6 hl2 hn s0 s1).1,r.legs.length<=1000000)/\((Hx cfg x m slot now hd h1 k6 hl2 hn s0 s1).2=0->((Hx cfg x m slot now hd h1 k6 hl2 hn s0 s1).1.length:Int)<=max 0 x.reg.ag.rq)/\(∀r∈(Hx cfg x m slot now hd h1 k6 hl2 hn s0 s1).1,V0 r)/\0<=(Hx cfg x m slot now hd h1 k6 hl2 hn s0 s1).2/\(Hx cfg x m slot now hd h1 k6 hl2 hn s0 s1).2<=99:=(Eo (Yw cfg x m slot now hd h1 k6 hl2 hn s0 s1)).choose_spec.2
end
section
variable {x:Dx}
theorem A15 {k:Int} (hd:Fx x) {ro:Jw×Int×Int} (h:ro.2.2=0->(∃bk,ro.1={ x.reg with bk:=bk }/\LvR k x.reg.bk bk)/\Iu x.reg.toks ro.2.1=true) (h0:ro.2.2=0) :
 Fx ⟨ro.1,x.reqs,x.draws,x.aud⟩/\0<=ro.2.1/\ro.2.1<ro.1.toks.length/\ro.1.num=x.reg.num/\ro.1.ag=x.reg.ag:=by
 obtain⟨⟨bk,e,_⟩,hu⟩:=h h0
 have hr:=Afh hu
 obtain⟨r,s,c⟩:=ro
 dsimp only at e hr ⊢
 subst e
 exact⟨⟨⟨⟨hd.b.reg.sec,hd.b.reg.lims,hd.b.reg.toks,hd.b.reg.tsec,hd.b.reg.vehs⟩,hd.b.reqs,hd.b.legs,hd.b.draws,hd.b.draw,hd.b.aud⟩,hd.vehs,hd.reqs,hd.dr,hd.rq,hd.rl,hd.rk⟩,hr.1,hr.2,rfl,rfl⟩
theorem Aqd (k v:Int):Hh (Jl k v):=by
 have h:=Ml k v
 rw[h]
 simp[Hh]
theorem A1u {k now:Int} (h1:x.reqs.length<=1000) (h2:x.reg.toks.length<=1000000):Hh (Ie x k now h1 h2):=by
 have h:=W7 x k now h1 h2
 unfold Hh
 rw[h.1,h.2.1]
 exact⟨Ae _,h.2.2.1,Ae _⟩
structure OkR (x:Dx) (it:E7) (now:Int) (m:Dz) (y:Dx) (sl:Int):Prop where
  code:it.code=0
  srv:1<=it.kind/\it.kind<=12
  dec:∃h,E9 it.kind it.pay h=(m,0)
  kind:m.kind=it.kind
  args:∀a∈m.args,NB a
  op:∃h1 h2 r,Gt x.reg m now h1 h2=(r,sl,0)/\y=⟨r,x.reqs,x.draws,x.aud⟩
inductive Zq (cfg:E6) (x:Dx) (ses:Int) (it:E7) (now:Int):Dx×Dz×Int×Int->Prop
  | bad {c:Int}:c≠0->(c=it.code\/0<=c/\c<=99)->Zq cfg x ses it now (x,⟨0,[],[],[]⟩,-1,c)
  | reg {m:Dz} {y:Dx} {sl:Int} {R:Dx×Dz×Int}:OkR x it now m y sl->(m.kind=2\/m.kind=3\/m.kind=4\/m.kind=5)->(∃h1 h2 h3 h4 h5 h6 h7,Ep y m sl now h1 h2 h3 h4 h5 h6 h7=R)->Zq cfg x ses it now (R.1,R.2.1,-1,R.2.2)
  | ask {m:Dz} {y:Dx} {sl c:Int} {l:List Er}:OkR x it now m y sl->(m.kind=6\/m.kind=7\/m.kind=8)->c≠0->(∃h1 h2 h3 h4 h5 h6 h7,Hx cfg y m sl now h1 h2 h3 h4 h5 h6 h7=(l,c))->Zq cfg x ses it now (y,⟨0,[],[],[]⟩,-1,c)
  | asked {m:Dz} {y:Dx} {sl v:Int} {l:List Er}:OkR x it now m y sl->(m.kind=6\/m.kind=7\/m.kind=8)->(∃h1 h2 h3 h4 h5 h6 h7,Hx cfg y m sl now h1 h2 h3 h4 h5 h6 h7=(l,0))->m.args[0]? = some v->Zq cfg x ses it now (⟨y.reg,l,y.draws,y.aud⟩,Jl m.kind v,-1,0)
  | no {m:Dz} {y:Dx} {sl:Int}:OkR x it now m y sl->(m.kind=10\/m.kind=11)->Zq cfg x ses it now (y,⟨0,[],[],[]⟩,-1,8)
  | aud {m:Dz} {y:Dx} {sl v:Int} {l:List Bool}:OkR x it now m y sl->m.kind=10->m.args[0]? = some v->(l=y.aud\/0<=ses/\l=y.aud.set ses.toNat (v == 1))->Zq cfg x ses it now (⟨y.reg,y.reqs,y.draws,l⟩,Jl m.kind v,-1,0)
  | reset {m:Dz} {y:Dx} {sl v:Int}:OkR x it now m y sl->m.kind=11->m.args[0]? = some v->Zq cfg x ses it now (y,Jl m.kind v,v,0)
  | tell {m:Dz} {y:Dx} {sl:Int}:OkR x it now m y sl->(m.kind=1\/m.kind=9\/m.kind=12)->(h1:y.reqs.length<=1000)->(h2:y.reg.toks.length<=1000000)->Zq cfg x ses it now (y,Ie y m.kind now h1 h2,-1,0)
def Atq (cfg:E6) (x:Dx) (ses:Int) (it:E7) (now:Int) (d:Dx×Dz×F8×Int):Prop:=∃e,Zq cfg x ses it now e/\d.1=e.1/\d.2.2.1=⟨e.1.reg.num,it.kind,e.2.2.2⟩/\(e.2.2.2=0->d.2.1=e.2.1/\d.2.2.2=e.2.2.1)/\(e.2.2.2≠0->d.2.1=⟨15,[],[it.kind,e.2.2.2],[]⟩/\d.2.2.2 = -1)
def Aw4 (x:Dx) (y:Dx) (m:Dz):Prop:=Fx y/\y.aud.length=x.aud.length/\y.reg.num=x.reg.num/\y.reg.ag=x.reg.ag/\Hh m
theorem Fx.reqsI (h:Fx x) {d:List Er×Int} (hl:d.1.length<=3/\(∀r∈d.1,r.legs.length<=1000000)/\(d.2=0->(d.1.length:Int)<=max 0 x.reg.ag.rq)/\(∀r∈d.1,V0 r)/\0<=d.2/\d.2<=99) (h0:d.2=0):Fx ⟨x.reg,d.1,x.draws,x.aud⟩:=⟨⟨h.b.reg,Ak hl.1 (by decide),hl.2.1,h.b.draws,h.b.draw,h.b.aud⟩,h.vehs,hl.1,h.dr,h.rq,hl.2.2.1 h0,hl.2.2.2.1⟩
theorem Fx.audI (h:Fx x) {l:List Bool} (hl:l.length=x.aud.length):Fx ⟨x.reg,x.reqs,x.draws,l⟩:=⟨⟨h.b.reg,h.b.reqs,h.b.legs,h.b.draws,h.b.draw,by have:=h.b.aud;dsimp only;omega⟩,h.vehs,h.reqs,h.dr,h.rq,h.rl,h.rk⟩
theorem E4.dull {P:Program} {f:FuncId} {σa:List Ob} {args:List AV} {ty k:Nat} {fr fz:Bool} {es:List (List T)} {res:AV} (h:E4 P f σa args [.row ty k fr fz es] res):E4 P f σa args [.row ty k false fz es] res :=
 ⟨h.1,fun E β us hn ho hβ r=>(h.2 E β us hn ho hβ r).mono fun e w' ⟨v,β',he,r'⟩=>⟨v,β',he,(r'.flag (id:=0) rfl (fun h=>Bool.noConfusion h) (fun h=>h)).1⟩⟩
section
variable (cfg:E6) (x:Dx) (ses:Int) (it:E7) (now:Int) (hd:Fx x) (hp:it.pay.length<=1000)
include cfg ses now hd hp
theorem Ps:Cx 170 [.row 4 1 false false (tB x.aud)] [cfg.g,.agg [.li x.reg.num,.mY x.reg.ag.sec,.li x.reg.ag.ri,.li x.reg.ag.cls,.mI x.reg.ag.lims,.li x.reg.ag.rq,.li x.reg.ag.se,.li x.reg.ag.ra,.li x.reg.ag.bu,.mTok x.reg.toks,.mVeh x.reg.vehs,.li x.reg.bk.lv,.li x.reg.bk.ra,.li x.reg.bk.bu,.mReq x.reqs,.mYs x.draws,.own 0 x.aud.length],.li ses,it.g,.li now] (fun d:Dx×Dz×Int×Int=>[.row 4 1 false true (tB d.1.aud)]) (fun d=>.tup [d.1.g,d.2.1.g,.li d.2.2.1,.li d.2.2.2]) (fun d=>Aw4 x d.1 d.2.1/\Zq cfg x ses it now d):=by
 refine T0 Tryz.func170 ?_
 have hpM:it.pay.length<=1000000:=by omega
 have hv41:=Ti it.kind it.pay hpM
 have hqd:=(Tq it.kind it.pay hpM).1
 have hsh:=(Hr it.kind).2.2.2.2.2.2.2.2
 generalize hme:E9 it.kind it.pay hpM=mr at hv41 hqd
 refine Bq<|.seq ?_
 refine Bq ?_
 refine Br ?_ ?_<;>intro h25
 ·refine VX.D ?_
  refine B2 Dy 0 ?_
  exact .ret ⟨(x,⟨0,[],[],[]⟩,(-1),it.code),rW Dy [0],⟨⟨hd,rfl,rfl,rfl,Ahy⟩,.bad (by first | decide | omega) (.inl rfl)⟩⟩
 refine Bp<|.seq<|.L Dy (X4 it.kind) ?_
 refine Br ?_ ?_<;>intro h33
 ·refine Bq ?_
  refine B2 Dy 0 ?_
  exact .ret ⟨(x,⟨0,[],[],[]⟩,(-1),5),rW Dy [0],⟨⟨hd,rfl,rfl,rfl,Ahy⟩,.bad (by decide) (.inr (by decide))⟩⟩
 refine Bp<|.L Dy (hv41)<|.seq ?_
 refine Bq ?_
 refine Br ?_ ?_<;>intro h45
 ·refine Bq ?_
  refine B2 Dy 0 ?_
  exact .ret ⟨(x,⟨0,[],[],[]⟩,(-1),6),rW Dy [0],⟨⟨hd,rfl,rfl,rfl,Ahy⟩,.bad (by decide) (.inr (by decide))⟩⟩
 refine Bp ?_
 obtain⟨hk,hf1,hfl0,hft,hfd,hnb⟩:=hqd h45
 have hnn:∀a∈mr.1.args,0<=a:=fun a h=>(hnb a h).1
 have ht:mr.1.tok.length<=1000000:=by omega
 have hfl:mr.1.args.length<=1000:=hfl0
 have hvo:=Adp x.reg mr.1 now hd.b.reg ht
 have hqo:=P6 x.reg mr.1 now hd.b.reg ht
 generalize hro:Gt x.reg mr.1 now hd.b.reg ht=ro at hvo hqo
 refine B8 Dy (hvo)<|.seq ?_
 refine Bq ?_
 refine Br ?_ ?_<;>intro h58
 ·refine Bq ?_
  refine B2 Dy 0 ?_
  exact .ret ⟨(x,⟨0,[],[],[]⟩,(-1),ro.2.2),rW Dy [0],⟨⟨hd,rfl,rfl,rfl,Ahy⟩,.bad (by first | decide | omega) (.inr hqo.2)⟩⟩
 refine Bp ?_
 obtain⟨hI,hs0,hs1,hnum,hag⟩:=A15 hd hqo.1 h58
 rw[<- hk] at hsh hf1
 have m1:mr.1.tok.length<=2000:=by omega
 have m2:mr.1.args.length<=2000:=by omega
 have m3:mr.1.data.length<=2000:=by omega
 have a2:mr.1.kind=2->3<=mr.1.args.length:=fun h=>by have:=hsh.1 h;omega
 have a3:mr.1.kind=3\/mr.1.kind=4\/mr.1.kind=5->1<=mr.1.args.length:=fun h=>by rcases h with h | h | h;(have:=hsh.2.2.2 (.inl h);omega);(have:=hsh.2.1 h;omega);(have:=hsh.2.2.2 (.inr (.inl h));omega)
 have a4:mr.1.kind=4->2<=mr.1.args.length:=fun h=>by have:=hsh.2.1 h;omega
 have k6:mr.1.kind=6->3<=mr.1.args.length:=fun h=>by have:=hsh.2.2.1 h;omega
 have hOk:OkR x it now mr.1 ⟨ro.1,x.reqs,x.draws,x.aud⟩ ro.2.1:=⟨by omega,by simp[Xb] at h33;omega,⟨hpM,by rw[hme];exact Prod.ext rfl h45⟩,hk,hnb,⟨_,_,ro.1,by rw[hro];exact Prod.ext rfl (Prod.ext rfl h58),rfl⟩⟩
 refine Bq<|.seq ?_
 refine Bq<|.block ?_
 refine Ce (by rfl) fun K1 hK1=>?_
 simp[go_sem]
 refine hK1 _ ⟨_,_,_,_,_,_,_,_,rfl,.more (by decide) rfl rfl (.more (by decide) rfl rfl (.one (by decide) rfl rfl)),by decide,rfl,by simp[go_sem];rfl,by simp[go_sem];rfl,by simp[go_sem],?_⟩;clear hK1
 refine Br ?_ ?_<;>intro h66
 ·refine B2 Dy 0 ?_
  refine B8 Dy (Adx ⟨ro.1,x.reqs,x.draws,x.aud⟩ mr.1 ro.2.1 now hI m1 m2 m3 a2 a3 a4) ?_
  have hau:=(Mf ⟨ro.1,x.reqs,x.draws,x.aud⟩ mr.1 ro.2.1 now hI m1 m2 m3 a2 a3 a4).2.1
  refine C9 hau ?_
  exact .ret ⟨((Ep ⟨ro.1,x.reqs,x.draws,x.aud⟩ mr.1 ro.2.1 now hI m1 m2 m3 a2 a3 a4).1,(Ep ⟨ro.1,x.reqs,x.draws,x.aud⟩ mr.1 ro.2.1 now hI m1 m2 m3 a2 a3 a4).2.1,(-1),(Ep ⟨ro.1,x.reqs,x.draws,x.aud⟩ mr.1 ro.2.1 now hI m1 m2 m3 a2 a3 a4).2.2),rW hau [0],(by have hq:=Mf ⟨ro.1,x.reqs,x.draws,x.aud⟩ mr.1 ro.2.1 now hI m1 m2 m3 a2 a3 a4;exact⟨⟨hq.1,congrArg List.length hq.2.1,hq.2.2.1.trans hnum,hq.2.2.2.1.trans hag,hq.2.2.2.2.1⟩,.reg hOk (by omega) ⟨hI,m1,m2,m3,a2,a3,a4,rfl⟩⟩)⟩
 refine Ce (by rfl) fun K1 hK1=>?_
 simp[go_sem]
 refine hK1 _ ⟨_,_,_,_,_,_,_,_,rfl,.more (by decide) rfl rfl (.one (by decide) rfl rfl),by decide,rfl,by simp[go_sem];rfl,by simp[go_sem];rfl,by simp[go_sem],?_⟩;clear hK1
 refine Br ?_ ?_<;>intro h83
 ·have hk83:mr.1.kind=6\/mr.1.kind=7\/mr.1.kind=8:=by omega
  have ha1:1<=mr.1.args.length:=by rcases hk83 with h | h | h;(have:=k6 h;omega);(have:=hsh.2.2.2 (.inr (.inr (.inl h)));omega);(have:=hsh.2.2.2 (.inr (.inr (.inr (.inl h))));omega)
  refine B2 Dy 0 ?_
  refine B8 Dy (Ao2 cfg ⟨ro.1,x.reqs,x.draws,x.aud⟩ mr.1 ro.2.1 now hI ha1 k6 hfl hnn hs0 hs1)<|.seq ?_
  refine Bq ?_
  refine Br ?_ ?_<;>intro h97
  ·refine Bq ?_
   exact .ret ⟨(⟨ro.1,x.reqs,x.draws,x.aud⟩,⟨0,[],[],[]⟩,(-1),(Hx cfg ⟨ro.1,x.reqs,x.draws,x.aud⟩ mr.1 ro.2.1 now hI ha1 k6 hfl hnn hs0 hs1).2),rW Dy [0],⟨⟨hI,rfl,hnum,hag,Ahy⟩,.ask hOk hk83 (by omega) ⟨hI,ha1,k6,hfl,hnn,hs0,hs1,rfl⟩⟩⟩
  refine Bp<|.R ?_
  obtain⟨e1,H1⟩:=gx mr.1.args 0
  refine Dd H1 (Ur mr.1.kind e1) ?_
  exact .ret ⟨(⟨ro.1,(Hx cfg ⟨ro.1,x.reqs,x.draws,x.aud⟩ mr.1 ro.2.1 now hI ha1 k6 hfl hnn hs0 hs1).1,x.draws,x.aud⟩,(Jl mr.1.kind e1),(-1),0),rW H1 [0],⟨⟨hI.reqsI (Af0 cfg ⟨ro.1,x.reqs,x.draws,x.aud⟩ mr.1 ro.2.1 now hI ha1 k6 hfl hnn hs0 hs1) h97,rfl,hnum,hag,Aqd _ _⟩,.asked hOk hk83 ⟨hI,ha1,k6,hfl,hnn,hs0,hs1,Prod.ext rfl h97⟩ H1⟩⟩
 refine Bq ?_
 refine Br ?_ ?_<;>intro h111
 ·refine B9 ?_
  have ha1:1<=mr.1.args.length:=by have:=hsh.2.2.2 (.inr (.inr (.inr (.inr (.inl h111)))));omega
  obtain⟨e2,H2⟩:=gx mr.1.args 0
  refine Bu H2 ?_
  refine Br ?_ ?_<;>intro h117
  ·refine Bu H2 ?_
   refine B2 H2 0 ?_
   exact .ret ⟨(⟨ro.1,x.reqs,x.draws,x.aud⟩,⟨0,[],[],[]⟩,(-1),8),rW H2 [0],(by first | exact⟨⟨hI,rfl,hnum,hag,Aqd _ _⟩,.reset hOk h146 (by assumption)⟩ | exact⟨⟨hI,rfl,hnum,hag,Ahy⟩,.no hOk (by omega)⟩)⟩
  refine Bp<|.seq<|.H H2 ?_
  refine Br ?_ ?_<;>intro h128
  ·obtain⟨e3,H3⟩:=gx x.aud ses.toNat
   refine VX.G1 (Fe H2 H3) ?_
   refine Dd (Fe H2 H3) (Ur mr.1.kind e2) ?_
   refine B2 (Fe H2 H3) 0 ?_
   exact .ret ⟨(⟨ro.1,x.reqs,x.draws,(x.aud).set ses.toNat ((e2:Int) == 1)⟩,(Jl mr.1.kind e2),(-1),0),rW (Fe H2 H3) [0],⟨⟨hI.audI (by simp),by simp,hnum,hag,Aqd _ _⟩,.aud hOk h111 H2 (.inr ⟨by omega,rfl⟩)⟩⟩
  refine Bp<|.M H2 (Ur mr.1.kind e2) ?_
  refine B2 H2 0 ?_
  exact .ret ⟨(⟨ro.1,x.reqs,x.draws,x.aud⟩,(Jl mr.1.kind e2),(-1),0),rW H2 [0],⟨⟨hI,rfl,hnum,hag,Aqd _ _⟩,.aud hOk h111 H2 (.inl rfl)⟩⟩
 refine Bq ?_
 refine Br ?_ ?_<;>intro h146
 ·refine B9 ?_
  have ha1:1<=mr.1.args.length:=by have:=hsh.2.2.2 (.inr (.inr (.inr (.inr (.inr h146)))));omega
  obtain⟨e4,H4⟩:=gx mr.1.args 0
  refine C9 H4 ?_
  refine Br ?_ ?_<;>intro h155
  ·refine Bu H4 ?_
   refine B2 H4 0 ?_
   exact .ret ⟨(⟨ro.1,x.reqs,x.draws,x.aud⟩,⟨0,[],[],[]⟩,(-1),8),rW H4 [0],(by first | exact⟨⟨hI,rfl,hnum,hag,Aqd _ _⟩,.reset hOk h146 (by assumption)⟩ | exact⟨⟨hI,rfl,hnum,hag,Ahy⟩,.no hOk (by omega)⟩)⟩
  refine Bp<|.M H4 (Ur mr.1.kind e4) ?_
  refine B2 H4 0 ?_
  exact .ret ⟨(⟨ro.1,x.reqs,x.draws,x.aud⟩,(Jl mr.1.kind e4),e4,0),rW H4 [0],(by exact⟨⟨hI,rfl,hnum,hag,Aqd _ _⟩,.reset hOk h146 (by assumption)⟩)⟩
 refine Bp<|.Z Dy 0 ?_
 refine Dd Dy (Amf ⟨ro.1,x.reqs,x.draws,x.aud⟩ mr.1.kind now (Ak hI.reqs (by decide)) hI.b.reg.toks) ?_
 exact .ret ⟨(⟨ro.1,x.reqs,x.draws,x.aud⟩,(Ie ⟨ro.1,x.reqs,x.draws,x.aud⟩ mr.1.kind now (Ak hI.reqs (by decide)) hI.b.reg.toks),(-1),0),rW Dy [0],(by first | exact⟨⟨hI,rfl,hnum,hag,Aqd _ _⟩,.reset hOk h146 (by assumption)⟩ | exact⟨⟨hI,rfl,hnum,hag,Ahy⟩,.no hOk (by omega)⟩ | exact⟨⟨hI,rfl,hnum,hag,A1u (Ak hI.reqs (by decide)) hI.b.reg.toks⟩,.tell hOk (by have:=hOk.srv;have:=hOk.kind;omega) (Ak hI.reqs (by decide)) hI.b.reg.toks⟩)⟩
def Fm:Dx×Dz×Int×Int:=(Ps cfg x ses it now hd hp).choose
theorem Ady:PP 170 [.row 4 1 false false (tB x.aud)] [cfg.g,.agg [.li x.reg.num,.mY x.reg.ag.sec,.li x.reg.ag.ri,.li x.reg.ag.cls,.mI x.reg.ag.lims,.li x.reg.ag.rq,.li x.reg.ag.se,.li x.reg.ag.ra,.li x.reg.ag.bu,.mTok x.reg.toks,.mVeh x.reg.vehs,.li x.reg.bk.lv,.li x.reg.bk.ra,.li x.reg.bk.bu,.mReq x.reqs,.mYs x.draws,.own 0 x.aud.length],.li ses,it.g,.li now] [.row 4 1 false true (tB ((Fm cfg x ses it now hd hp).1.aud))] (.tup [.agg ((Fm cfg x ses it now hd hp).1.a false),.agg ((Fm cfg x ses it now hd hp).2.1.a false),.lit (.int .i64 (Fm cfg x ses it now hd hp).2.2.1),.lit (.int .i64 (Fm cfg x ses it now hd hp).2.2.2)]):=(Ps cfg x ses it now hd hp).choose_spec.1
theorem Ahv:Aw4 x (Fm cfg x ses it now hd hp).1 (Fm cfg x ses it now hd hp).2.1/\Zq cfg x ses it now (Fm cfg x ses it now hd hp):=(Ps cfg x ses it now hd hp).choose_spec.2
end
theorem P2 (x:Dx) (hb:Vw x):PP 86 [] [x.g] [.row 4 1 false false (tB x.aud)] (.agg [.li x.reg.num,.mY x.reg.ag.sec,.li x.reg.ag.ri,.li x.reg.ag.cls,.mI x.reg.ag.lims,.li x.reg.ag.rq,.li x.reg.ag.se,.li x.reg.ag.ra,.li x.reg.ag.bu,.mTok x.reg.toks,.mVeh x.reg.vehs,.li x.reg.bk.lv,.li x.reg.bk.ra,.li x.reg.bk.bu,.mReq x.reqs,.mYs x.draws,.own 0 x.aud.length]):=(Yf x hb).dull
section
variable (cfg:E6) (x:Dx) (ses:Int) (it:E7) (now:Int) (hd:Fx x) (hp:it.pay.length<=1000)
include cfg ses now hd hp
theorem Sp:Ct 149 [cfg.g,x.g,.li ses,it.g,.li now] (fun d:Dx×Dz×F8×Int=>.tup [d.1.g,d.2.1.g,d.2.2.1.g,.li d.2.2.2]) (fun d=>Aw4 x d.1 d.2.1/\Atq cfg x ses it now d):=by
 refine Ev Tryz.func149 ?_
 have hQx:=Ahv cfg x ses it now hd hp
 have hQ:=hQx.1
 refine Bq ?_
 refine Cw (fun K kk=>by simp[go_sem];refine .l (P2 x hd.b) ?_;simp[go_sem];refine .o [6] (Ady cfg x ses it now hd hp) ?_;simp[go_sem];exact kk)<|.seq ?_
 refine Bq ?_
 refine Br ?_ ?_<;>intro h31
 ·refine Bq ?_
  refine Ch ?_
  refine Bq ?_
  refine VX.D ?_
  refine B2 Dy 8 ?_
  exact .ret (Eu Dy ((Fm cfg x ses it now hd hp).1,⟨15,[],[it.kind,(Fm cfg x ses it now hd hp).2.2.2],[]⟩,⟨(Fm cfg x ses it now hd hp).1.reg.num,it.kind,(Fm cfg x ses it now hd hp).2.2.2⟩,(-1)) (by first | exact⟨hQ,_,hQx.2,rfl,rfl,fun _=>⟨rfl,rfl⟩,fun h=>absurd (by omega) h⟩ | exact⟨⟨hQ.1,hQ.2.1,hQ.2.2.1,hQ.2.2.2.1,by simp[Hh]⟩,_,hQx.2,rfl,rfl,fun h=>absurd h (by omega),fun _=>⟨rfl,rfl⟩⟩))
 refine Bp<|.R ?_
 refine VX.D ?_
 exact .ret (Eu Dy ((Fm cfg x ses it now hd hp).1,(Fm cfg x ses it now hd hp).2.1,⟨(Fm cfg x ses it now hd hp).1.reg.num,it.kind,(Fm cfg x ses it now hd hp).2.2.2⟩,(Fm cfg x ses it now hd hp).2.2.1) (by exact⟨hQ,_,hQx.2,rfl,rfl,fun _=>⟨rfl,rfl⟩,fun h=>absurd (by omega) h⟩))
def Ga:Dx×Dz×F8×Int:=(Eo (Sp cfg x ses it now hd hp)).choose
theorem Ss:PP 149 [] [cfg.g,x.g,.li ses,it.g,.li now] [] (.tup [.agg ((Ga cfg x ses it now hd hp).1.a false),.agg ((Ga cfg x ses it now hd hp).2.1.a false),.agg ((Ga cfg x ses it now hd hp).2.2.1.a false),.lit (.int .i64 (Ga cfg x ses it now hd hp).2.2.2)]):=(Eo (Sp cfg x ses it now hd hp)).choose_spec.1
theorem Lx:Aw4 x (Ga cfg x ses it now hd hp).1 (Ga cfg x ses it now hd hp).2.1/\Atq cfg x ses it now (Ga cfg x ses it now hd hp):=(Eo (Sp cfg x ses it now hd hp)).choose_spec.2
end
end
section
theorem V5 (a:Hy):Ct 130 [a.g] (fun d:Int=>.li d) (fun d=>0<=d/\d<=2/\(1<=a.se/\a.se<=2->d=a.se)):=by
 refine Ev Tryz.func130 ?_
 iterate 2 refine Bq ?_
 refine Bz (Fl ?_);simp[go_sem]
 exact⟨(if 2<(if a.se<0 then 0 else a.se) then 2 else (if a.se<0 then 0 else a.se)),by rfl,(by dsimp only;(repeat' split)<;>omega)⟩
def Ed (a:Hy):Int:=(Eo (V5 a)).choose
theorem Aco (a:Hy):PP 130 [] [a.g] [] (.li (Ed a)):=(Eo (V5 a)).choose_spec.1
theorem Hf (a:Hy):0<=(Ed a)/\(Ed a)<=2/\(1<=a.se/\a.se<=2->(Ed a)=a.se):=(Eo (V5 a)).choose_spec.2
def Ek (l:List Hy):Nat->Int
 | 0=>0
 | k+1=>Ek l k+match l[k]? with
  | some a=>Ed a
  | none=>0
theorem Iz (l:List Hy):∀k,0<=Ek l k/\Ek l k<=2*(k:Int)
 | 0=>by simp[Ek]
 | k+1=>by
  have ih:=Iz l k
  rw[Ek]
  cases h:l[k]? with
  | none=>simp only;omega
  | some a=>have:=Hf a;simp only;omega
variable {l:List Hy}
theorem R6 {k:Nat} {a:Hy} (h:l[k]? = some a):Ek l (k+1)=Ek l k+Ed a:=by rw[Ek,h]
def Yj (l:List Hy) (k:Nat) (a:Hy):List (Int×Int×Int):=(List.range (Ed a).toNat).map fun (n:Nat)=>((k:Int),(n:Int),Ek l k+(n:Int))
theorem Xs (l:List Hy) (k:Nat) (a:Hy):((Yj l k a).length:Int)=Ed a:=by
 have:=Hf a
 simp[Yj]
 omega
theorem Ar2 {k:Nat} {a:Hy} {n:Nat} (h:(n:Int)<Ed a):(Yj l k a)[n]? = some ((k:Int),(n:Int),Ek l k+n):=by
 have hn:n<(Ed a).toNat:=by omega
 unfold Yj
 rw[Ap,List.getElem?_range hn]
 rfl
abbrev cfT (c:E6):List T:=[.sl 3 (Zf c.juns),.sl 8 (tAg c.ags),.li c.per,.li c.cap,.li c.hold,.li c.lock]
abbrev plA (x:Int×Int×Int):AV:=.agg [.li x.1,.li x.2.1,.li x.2.2]
theorem Ye (c:E6) (k:Nat) (ag:Hy) (hk:c.ags[k]? = some ag) (h:c.ags.length<=1000000):Ys Tryz.prog 129 [.iptr false (cfT c) 0,.iptr false [.li (k:Int)] 0] ((Yj c.ags k ag).map fun a=>[plA a]):=by
 have hkl:=(Ab.1 hk).1
 refine Aeq Tryz.func129 rfl rfl rfl (by simp[Tryz.ntmps129]) rfl fun yl=>?_
 refine Ca (by rfl) fun K1 hK1=>?_
 simp[go_sem]
 refine hK1 _ ?_;clear hK1
 refine C3 ?_
 refine Ca (by rfl) fun K1 hK1=>?_
 simp[go_sem]
 repeat' with_reducible refine Ax ?_ ?_
 all_goals try (intros;(repeat' refine Ax ?_ ?_)<;>omega)
 refine hK1 _ ?_;clear hK1
 refine Cy ?_
 refine Dp k (fun j=>⟨[(0,.lit (.func (.yield yl) #[] #[])),(1,.iptr false (cfT c) 0),(2,.iptr false [.li (k:Int)] 0),(4,.li (Ek c.ags j)),(11,.imm false 8 ((tAg c.ags).take k)),(12,.li (k:Int)),(13,.li (j:Int))],[]⟩) (fun j=>0)
  (fun j=>True) (wQ [] ?_ ?_) ⟨rfl,rfl,trivial⟩ fun j hj _=>?_
 ·simp[go_sem,Ek,Nat.min_eq_left (Nat.le_of_lt hkl)]
 ·simp[go_sem]
 refine Ca (by rfl) fun K1 hK1=>?_
 simp[go_sem]
 refine hK1 _ ?_;clear hK1
 refine C3 ?_
 refine VI.Q ?_ ?_<;>intro h14
 ·
  refine De ?_
  refine C3 ?_
  refine Cy ?_
  obtain⟨e1,hx⟩:∃e,c.ags[j]? = some e:=⟨_,Aa (by omega)⟩
  have hb:=Iz c.ags j
  have hq:=Hf e1
  have hxt:((tAg c.ags).take k)[j]? = some e1.t:=by rw[Ag (by omega),Ap,hx];rfl
  refine Ca (by rfl) fun K1 hK1=>?_
  simp[go_sem,hx,hxt]
  repeat' with_reducible refine Ax ?_ ?_
  all_goals try (intros;(repeat' refine Ax ?_ ?_)<;>omega)
  refine hK1 _ ?_;clear hK1
  refine Cs (by rfl) fun K1 hK1=>?_
  simp[go_sem,hx]
  refine .l (Aco e1) ?_
  simp[go_sem]
  refine hK1 _ ?_;clear hK1
  refine Cs (by rfl) fun K1 hK1=>?_
  simp[go_sem]
  refine hK1 _ ?_;clear hK1
  refine⟨by omega,rfl,rfl,trivial,wQ [] ?_ ?_⟩
  ·simp[go_sem,Dw ((j:Int)+1),R6 hx,Dw (Ek c.ags j+Ed e1)]
  simp[go_sem]
 -- the agency itself
 obtain rfl:j=k:=by omega
 refine VI.exit ?_
 have hb:=Iz c.ags j
 have hq:=Hf ag
 refine Ca (by rfl) fun K1 hK1=>?_
 simp[go_sem,hk]
 repeat' with_reducible refine Ax ?_ ?_
 all_goals try (intros;(repeat' refine Ax ?_ ?_)<;>omega)
 refine .l (Aco ag) ?_
 simp[go_sem,hk]
 refine hK1 _ ?_;clear hK1
 refine Cy ?_
 refine Dp (Ed ag).toNat (fun n=>⟨[(0,.lit (.func (.yield yl) #[] #[])),(2,.iptr false [.li (j:Int)] 0),(4,.li (Ek c.ags j)),(27,.li (Ed ag)),(28,.li (n:Int))],[]⟩) (fun n=>n)
  (fun n=>True) (wQ [] ?_ ?_) ⟨rfl,rfl,trivial⟩ fun n hn _=>?_
 ·simp[go_sem]
 ·simp[go_sem]
 refine Ca (by rfl) fun K1 hK1=>?_
 simp[go_sem]
 refine hK1 _ ?_;clear hK1
 refine C3 ?_
 refine VI.Q ?_ ?_<;>intro h29
 ·refine De ?_
  refine C3 ?_
  refine Cy ?_
  refine Ca (by rfl) fun K1 hK1=>?_
  simp[go_sem]
  refine hK1 _ ?_;clear hK1
  refine C3 (Dt ?_)
  refine U9.first 7 (by rfl) fun K1 hK1=>?_
  simp[go_sem,Dw (Ek c.ags j+n)]
  refine hK1 _ ?_;clear hK1
  refine U9.yield (vs:=[plA ((j:Int),(n:Int),Ek c.ags j+n)]) (by simp[go_sem]) (by simp[go_sem]) (by decide) (by simp[go_sem]) (by simp[go_sem]) (by simp[go_sem]) (by simp[Ar2 (l:=c.ags) (k:=j) (a:=ag) (n:=n) (by omega)]) (by simp[go_sem]) rfl fun b=>?_
  refine U9.rest (by rfl) fun K1 hK1=>?_
  cases b with
  | true =>
   simp[go_sem]
   refine hK1 _ ?_;clear hK1
   refine C5 (by simp[go_sem]) (by simp[go_sem]) (fun h39=>?_) (fun h39=>?_)<;>simp[go_sem] at h39
   exact VI.ret ⟨.inr rfl,fun h=>by cases h⟩
  | false =>
   simp[go_sem]
   refine hK1 _ ?_;clear hK1
   refine C5 (by simp[go_sem]) (by simp[go_sem]) (fun h39=>?_) (fun h39=>?_)<;>simp[go_sem] at h39
   refine De ?_
   refine Cs (by rfl) fun K1 hK1=>?_
   simp[go_sem]
   refine hK1 _ ?_;clear hK1
   refine⟨by omega,rfl,rfl,trivial,wQ [] ?_ ?_⟩
   ·simp[go_sem,Dw ((n:Int)+1)]
   simp[go_sem]
 refine VI.exit ?_
 exact⟨.inl rfl,fun _=>by have:=Xs c.ags j ag;simp only[A2];omega⟩
theorem Tg (c:E6) (k:Int):PP 98 [] [c.g,.li k] [] (.fn 129 [.iptr false (cfT c) 0,.iptr false [.li k] 0]):=by
 refine E4.boxes (σr:=[.box 30 (c.a false),.box 3 [.li k]]) (res:=.fn 129 [.ptr 0 0,.ptr 1 0]) ?_ (by simp[go_sem,St.o])
 refine El Tryz.func98 ?_
 iterate 2 refine Bw ?_
 exact .ret (rW Dy [0,1])
end
section
theorem Ag7 (c:Fo) (jn:Int) (ph:Int) (hb:Aoh c) (hs:c.stuck.length=c.cfg.juns.length):Ct 43 [c.g,.li jn,.li ph] (fun d:Fo=>d.g) (fun d=>d.cfg=c.cfg/\d.ref=c.ref/\d.now=c.now/\d.desks=c.desks/\d.sigs=c.sigs/\d.svcs=c.svcs/\d.views=c.views/\d.stuck.length=c.stuck.length):=by
 refine Ev Tryz.func43 ?_
 refine Bq ?_
 refine B8 Dy (O8 c hb)<|.seq ?_
 refine Bq ?_
 refine Br ?_ ?_<;>intro h26
 ·refine Bq ?_
  refine B2 Dy 2 ?_
  refine B2 Dy 3 ?_
  refine B2 Dy 4 ?_
  refine B2 Dy 5 ?_
  exact .ret (Eu Dy ⟨c.cfg,c.ref,c.now,c.desks,c.sigs,c.svcs,c.stuck,c.views⟩ ⟨rfl,rfl,rfl,rfl,rfl,rfl,rfl,by rfl⟩)
 refine Bp<|.seq ?_
 have hj:0<=jn/\jn<c.cfg.juns.length:=by omega
 obtain⟨j1,hj1⟩:∃e,c.cfg.juns[jn.toNat]? = some e:=⟨_,Aa (by omega)⟩
 refine B3 (fun K kk=>by simp +contextual[go_sem,hj1];(repeat first | exact kk | refine aK ?_)) ?_
 refine Br ?_ ?_<;>intro h41
 ·have hjs:jn<c.stuck.length:=by omega
  obtain⟨e1,H1⟩:=gx c.stuck jn.toNat
  refine B0 H1 ?_
  refine Bu H1 ?_
  refine B2 Dy 2 ?_
  refine B2 Dy 3 ?_
  refine B2 Dy 4 ?_
  refine B2 Dy 5 ?_
  exact .ret (Eu H1 ⟨c.cfg,c.ref,c.now,c.desks,c.sigs,c.svcs,(c.stuck).set jn.toNat ph,c.views⟩ ⟨rfl,rfl,rfl,rfl,rfl,rfl,rfl,by first | rfl | simp⟩)
 refine Bp<|.R ?_
 refine B2 Dy 2 ?_
 refine B2 Dy 3 ?_
 refine B2 Dy 4 ?_
 refine B2 Dy 5 ?_
 exact .ret (Eu Dy ⟨c.cfg,c.ref,c.now,c.desks,c.sigs,c.svcs,c.stuck,c.views⟩ ⟨rfl,rfl,rfl,rfl,rfl,rfl,rfl,by rfl⟩)
theorem E4.frozB {P:Program} {f:FuncId} {args:List AV} {ty k ty2 k2:Nat} {fr fz fr2 fz2:Bool} {es es2:List (List T)} {res res':AV} (h:E4 P f [] args [.row ty k fr fz es,.row ty2 k2 fr2 fz2 es2] res) (hr:((res.melt fun i=>[Ob.row ty k fr true es,Ob.row ty2 k2 fr2 true es2].getD i .gone).ren fun _=>none).low=res'):E4 P f [] args [] res':=by
 refine⟨h.1,fun E β us hn ho hβ r=>(h.2 E β us hn ho hβ r).mono ?_⟩
 rintro e w' ⟨v,β',rfl,r1⟩
 have r2:=((r1.freeze (id:=0) (ty:=ty) (k:=k) (fr:=fr) (fz:=fz) (es:=es) rfl).1.freeze (id:=1) (ty:=ty2) (k:=k2) (fr:=fr2) (fz:=fz2) (es:=es2) rfl).1.melt
 obtain⟨β2,r3⟩:=r2.weak (sel:=[]) (st':=⟨[(0,res')],[]⟩) ⟨.cons (by rw[<- hr];exact Le.low _) .nil,fun j hj=>by simp at hj,rfl,List.nodup_nil⟩ fun id hid=>absurd (by show E.o0 id=_;rw[ho];simp[St.o]) hid
 exact⟨v,β2,rfl,r3⟩
theorem Ajm (n:Int) (hn:n<=1000):Ct 57 [.li n] (fun d:F4=>d.g) (fun d=>d.ended.length<=1000):=by
 refine Ev Tryz.func57 ?_
 refine Bq ?_
 refine Bq<|.seq ?_
 refine Bq ?_
 refine Br ?_ ?_<;>intro h11
 ·refine B0 Dy<|.seq ?_
  refine Bq<|.block ?_
  refine Bs n.toNat (fun i1 (y1:(List Int))=>⟨[(2,.ptr 0 0),(3,.ptr 1 0),(17,.li n.toNat),(18,.li i1)],[.box 138 [.li 0,.li 0,.nil 1],.box 138 [.li (-1),.li 0,.own 2 y1.length],.row 3 1 false false (tI y1)]⟩) (fun i1 y1=>y1.length=n.toNat) (List.replicate n.toNat 0) (wk Dy [0,1,2]) (by simp) fun i1 y1 hi1 hy1=>?_
  refine Bq<|.seq ?_
  refine Br ?_ ?_<;>intro h19
  ·refine Bp<|.seq<|.block<|.R ?_
   obtain⟨e1,H1⟩:=gx y1 i1
   refine B0 H1 ?_
   refine B0 H1 ?_
   refine⟨by omega,((y1).set i1 (-1)),?_,wk (Fe (Dw ((i1:Int)+1)) H1) [0,1,2]⟩
   simpa using hy1
  refine Bt<|.R ?_
  refine B2 Dy 2 ?_
  exact .ret (Eu Dy ⟨(-1),0,y1⟩ (by first | (simp;done) | (simp only[List.length_replicate];omega)))
 refine Bp<|.seq<|.R<|.block ?_
 refine Bs 0 (fun i2 (y2:Unit)=>⟨[(2,.ptr 0 0),(3,.ptr 1 0),(17,.li 0),(18,.li i2)],[.box 138 [.li 0,.li 0,.nil 1],.box 138 [.li (-1),.li 0,.nil 1]]⟩) (fun i2 y2=>True) () (wk Dy [0,1]) (trivial) fun i2 y2 hi2 hy2=>?_
 refine Bq<|.seq ?_
 refine Ck ?_ ?_<;>intro h19<;>simp[go_sem] at h19
 ·exfalso;omega
 refine Bt<|.R ?_
 exact .ret (Eu Dy ⟨(-1),0,[]⟩ (by (simp;done)))
section
variable (j:Gc) (s:Ij) (v:F4) (h1:j.phs.length<=8) (h2:s.ctl.lights.length<=8)
include v h1 h2
theorem Sk:∃d:Gw,PP 58 [] [j.g,s.g,v.g] [.row 3 1 false false (tI d.col),.row 3 1 false false (tI d.cnt)] (.agg [.lb d.fl,.lb d.ov,.own 0 d.col.length,.own 1 d.cnt.length])/\(d.col.length=j.phs.length/\d.cnt.length=j.phs.length):=by
 refine Nr (D:=Gw) (F:=fun d=>.agg [.lb d.fl,.lb d.ov,.own 0 d.col.length,.own 1 d.cnt.length]) (S:=fun d=>[.row 3 1 false false (tI d.col),.row 3 1 false false (tI d.cnt)]) (Q:=fun d=>d.col.length=j.phs.length/\d.cnt.length=j.phs.length) Tryz.func58 rfl rfl rfl (by simp[Tryz.ntmps58]) ?_
 have hf:=Aal j (by omega)
 refine Bq ?_
 refine B8 Dy (X3 j (by first | assumption | omega))<|.seq ?_
 refine Bq ?_
 refine Br ?_ ?_<;>intro h14
 ·refine Bq ?_
  exact .ret ⟨⟨(E8 j (by first | assumption | omega)).fl,(E8 j (by first | assumption | omega)).ov,(E8 j (by first | assumption | omega)).col,(E8 j (by first | assumption | omega)).cnt⟩,rW Dy [4,5],(by dsimp only;omega)⟩
 refine Bp<|.R ?_
 refine Bq<|.seq ?_
 refine Bq<|.block ?_
 refine Bs j.phs.length (fun i1 (y1:(List Int)×(List Int))=>⟨[(4,.ptr 0 0),(6,.ptr 1 0),(7,.ptr 4 0),(22,.mPhase j.phs),(23,.li j.phs.length),(24,.li i1)],[.box 135 (s.a false),.box 128 [.lb false,.lb false,.nil 1,.nil 1],.row 3 1 false false (tI y1.1),.row 3 1 false false (tI y1.2),.box 128 [.lb false,.lb ((v.ph:Int) != (-1)),.own 2 y1.1.length,.own 3 y1.2.length]]⟩) (fun i1 y1=>y1.1.length=j.phs.length/\y1.2.length=j.phs.length) ((E8 j (by first | assumption | omega)).col,(E8 j (by first | assumption | omega)).cnt) (wk Dy [1,3,4,5,6]) (hf) fun i1 y1 hi1 hy1=>?_
 refine Bq<|.seq ?_
 refine Br ?_ ?_<;>intro h25
 ·refine Bp<|.seq<|.block ?_
  obtain⟨e1,H1⟩:=gx j.phs i1
  refine Bu H1<|.seq ?_
  refine Bu H1 ?_
  refine Br ?_ ?_<;>intro h34
  ·refine Bt<|.H H1 ?_
   exact .ret ⟨⟨false,((v.ph:Int) != (-1)),y1.1,y1.2⟩,rW H1 [2,3],(by dsimp only;omega)⟩
  refine Bp ?_
  obtain⟨e2,H2⟩:=gx s.ctl.lights i1
  refine Bu (Fe H1 H2) ?_
  obtain⟨e3,H3⟩:=gx y1.1 i1
  refine Bu (I1 H1 H2 H3) ?_
  refine Ds 2 rfl (by simp) (fun x:Int=>[T.lit (Value.int IntKind.i64 x)]) j.phs.length ?_ fun R hR=>?_
  ·apply Kx
   ·repeat' first | exact Mt | exact Ms | exact Mr (x:=0) rfl | apply Ku | apply Kw | apply Kv | apply Qp | apply (fun h=>Qo (x:=_) h rfl)
   first | rfl | omega
  simp[go_sem,-Prod.exists]
  refine B9<|.H (O4 H1 H2 H3 hR) ?_
  refine Br ?_ ?_<;>intro h52
  ·obtain⟨e4,H4⟩:=gx R i1
   refine B0 (Yo H1 H2 H3 hR H4) ?_
   obtain⟨e5,H5⟩:=gx y1.2 i1
   obtain⟨Y1,cY1,qY1⟩:=Eo (Zu e1 e2)
   refine Cp (cj6 H1 H2 H3 hR H4 H5) cY1 ?_
   refine B0 (cj6 H1 H2 H3 hR H4 H5) ?_
   refine⟨by omega,((R).set i1 e2.l,(y1.2).set i1 Y1),?_,wQ [0,1,2,3,4] ?_ ?_⟩
   ·first | omega | (simp;omega)
   all_goals simp[go_sem,Dw ((i1:Int)+1),H1,H2,H3,hR,H4,H5,hy1.1,hy1.2]
  refine Bp ?_
  obtain⟨e6,H6⟩:=gx y1.2 i1
  obtain⟨Y2,cY2,qY2⟩:=Eo (Zu e1 e2)
  refine Cp (Yo H1 H2 H3 hR H6) cY2 ?_
  refine B0 (Yo H1 H2 H3 hR H6) ?_
  refine⟨by omega,(R,(y1.2).set i1 Y2),?_,wQ [0,1,2,3,4] ?_ ?_⟩
  ·first | omega | (simp;omega)
  all_goals simp[go_sem,Dw ((i1:Int)+1),H1,H2,H3,hR,H6,hy1.1,hy1.2]
 refine Bt<|.R ?_
 exact .ret ⟨⟨false,((v.ph:Int) != (-1)),y1.1,y1.2⟩,rW Dy [2,3],(by dsimp only;omega)⟩
def He:Gw:=(Sk j s v h1 h2).choose
theorem Ahh:PP 58 [] [j.g,s.g,v.g] [.row 3 1 false false (tI (He j s v h1 h2).col),.row 3 1 false false (tI (He j s v h1 h2).cnt)] (.agg [.lit (.bool (He j s v h1 h2).fl),.lit (.bool (He j s v h1 h2).ov),.own 0 ((He j s v h1 h2).col).length,.own 1 ((He j s v h1 h2).cnt).length]):=(Sk j s v h1 h2).choose_spec.1
theorem Sx:(He j s v h1 h2).col.length=j.phs.length/\(He j s v h1 h2).cnt.length=j.phs.length:=(Sk j s v h1 h2).choose_spec.2
theorem Acz:(He j s v h1 h2).col.length<=8/\(He j s v h1 h2).cnt.length<=8:=by have:=Sx j s v h1 h2;omega
theorem Acl:PP 58 [] [j.g,s.g,v.g] [] (.agg ((He j s v h1 h2).a false)):=(Ahh j s v h1 h2).frozB (by simp[go_sem])
end
structure J4 (x:Fo):Prop where
  ref:x.ref=false
  jun:∀j∈x.cfg.juns,N5 j/\j.phs.length<=8
  nj:x.cfg.juns.length<=4
  na:x.cfg.ags.length<=4
  desks:x.desks.length=x.cfg.ags.length
  desk:∀d∈x.desks,Fx d/\1<=d.aud.length/\d.aud.length<=2
  sigs:x.sigs.length=x.cfg.juns.length
  sig:∀g∈x.sigs,g.ctl.lights.length<=8/\g.ctl.nxt.length<=2
  svcs:x.svcs.length=x.cfg.juns.length
  svc:∀g∈x.svcs,g.ended.length<=1000
  stuck:x.stuck.length=x.cfg.juns.length
  views:x.views.length=x.cfg.juns.length
  view:∀v∈x.views,v.col.length<=8/\v.cnt.length<=8
  vw:x.views.map (fun v=>v.cnt.length)=x.cfg.juns.map fun j=>j.phs.length
  dl:∀(k:Nat) (d:Dx) (a:Hy),x.desks[k]? = some d->x.cfg.ags[k]? = some a->(d.aud.length:Int)=Ed a
def Xj (c d:Fo):Prop:=d.now=c.now/\∀(k:Nat) (x:Dx),c.desks[k]? = some x->∃l,d.desks[k]? = some ⟨x.reg,x.reqs,l,x.aud⟩
theorem Xj.same {c d:Fo} (h1:d.now=c.now) (h2:d.desks=c.desks):Xj c d:=⟨h1,fun k x h=>⟨x.draws,by rw[h2];exact h⟩⟩
theorem Xj.refl (c:Fo):Xj c c:=.same rfl rfl
theorem J4.b {x:Fo} (h:J4 x):Aoh x:=⟨by have:=h.desks;have:=h.na;omega,fun d hd=>(h.desk d hd).1.b,by have:=h.sigs;have:=h.nj;omega,fun g hg=>⟨Ak (h.sig g hg).1 (by decide),Ak (h.sig g hg).2 (by decide)⟩,
 by have:=h.svcs;have:=h.nj;omega,fun g hg=>Ak (h.svc g hg) (by decide),by have:=h.stuck;have:=h.nj;omega,by have:=h.views;have:=h.nj;omega,fun v hv=>⟨Ak (h.view v hv).1 (by decide),Ak (h.view v hv).2 (by decide)⟩⟩
theorem Li {α:Type} {p:α->Prop} {l:List α} {x:α} (h:∀y∈l,p y) (hx:p x):∀y∈l++[x],p y:=fun y hy=>by
 rcases A0.1 hy with h1 | h1
 ·exact h y h1
 rw[An.1 h1];exact hx
theorem Arl {α β:Type} {l:List α} {r:List β} {x:α} {y:β} {i:Nat} {f:β->Nat} {g:α->Nat} (h:r.map f=(l.take i).map g) (hx:l[i]? = some x) (hy:f y=g x):(r++[y]).map f=(l.take (i+1)).map g:=by
 rw[List.take_add_one,hx,List.map_append,List.map_append,h]
 simp[hy]
theorem Avf {n:Int} {a:Hy} {h1:a.sec.length<=1000000} {h2:a.lims.length<=1000000} (hs:1<=a.se/\a.se<=2):((Fy n a h1 h2).aud.length:Int)=a.se:=by
 rw[(Rh n a h1 h2).2.2.2.2.2,List.length_replicate,if_neg (show ¬a.se<0 by omega),if_neg (by omega)]
 omega
theorem Av5 {n:Int} {a:Hy} {h1:a.sec.length<=1000000} {h2:a.lims.length<=1000000} (hr:a.rq<=3) (hs:1<=a.se/\a.se<=2):Fx (Fy n a h1 h2)/\1<=(Fy n a h1 h2).aud.length/\(Fy n a h1 h2).aud.length<=2:=by
 have h:=Rh n a h1 h2
 have hg:=W6 n a h1 h2
 have ht:=Am5 a h1
 have hv:(Fy n a h1 h2).reg=G5 n a h1 h2:=h.1
 refine⟨⟨⟨⟨?_,?_,?_,?_,?_⟩,?_,?_,?_,?_,?_⟩,?_,?_,?_,?_,?_,?_⟩,by have:=Avf (n:=n) (h1:=h1) (h2:=h2) hs;omega,h.2.2.2.1⟩
 ·rw[hv,hg.2.1];exact h1
 ·rw[hv,hg.2.1];exact h2
 ·rw[hv,hg.2.2.1];omega
 ·rw[hv,hg.2.2.1];exact ht.2
 ·rw[hv,hg.2.2.2.1];exact Ae _
 ·rw[h.2.1];exact Ae _
 ·rw[h.2.1];intro r hr;cases hr
 ·rw[h.2.2.1];exact Ae _
 ·rw[h.2.2.1];intro r hr;cases hr
 ·have:=h.2.2.2.1;omega
 ·rw[hv,hg.2.2.2.1];exact Ae _
 ·rw[h.2.1];exact Ae _
 ·rw[h.2.2.1];intro r hr;cases hr
 ·rw[hv,hg.2.1];exact hr
 ·rw[h.2.1];show (0:Int)<=max 0 _;exact Int.le_max_left _ _
 rw[h.2.1];intro r hr;cases hr
variable {l:List Hy} {y:List Dx}
theorem Ax1 {e:Hy} {i:Nat} {g1:e.sec.length<=1000000} {g2:e.lims.length<=1000000} (hl:y.length=i) (he:l[i]? = some e) (h:∀(k:Nat) (a:Hy),k<i->l[k]? = some a->∃h1 h2,y[k]? = some (Fy k a h1 h2)):∀(k:Nat) (a:Hy),k<i+1->l[k]? = some a->∃h1 h2,(y++[Fy i e g1 g2])[k]? = some (Fy k a h1 h2):=fun k a hk ha=>by
 by_cases hi:k<i
 ·obtain⟨p,q,h⟩:=h k a hi ha
  exact⟨p,q,by rw[Au (by omega)];exact h⟩
 have:k=i:=by omega
 subst this
 rw[he] at ha
 injection ha with ha
 subst ha
 exact⟨g1,g2,by rw[<- hl];simp⟩
theorem A17 (hS:∀x∈l,1<=x.se/\x.se<=2) (h:∀(k:Nat) (a:Hy),l[k]? = some a->∃h1 h2,y[k]? = some (Fy k a h1 h2)):∀(k:Nat) (d:Dx) (a:Hy),y[k]? = some d->l[k]? = some a->(d.aud.length:Int)=Ed a:=fun k d a hd ha=>by
 obtain⟨h1,h2,e⟩:=h k a ha
 rw[hd] at e
 injection e with e
 have hs:=hS a (Ac ha)
 rw[e,Avf hs,(Hf a).2.2 hs]
theorem Als (c:E6) (hb:Acg c) (hp:Ln c=true) (hJ:∀j∈c.juns,N5 j/\j.phs.length<=8) (hA:∀a∈c.ags,a.sec.length<=1000000/\a.lims.length<=1000000/\a.rq<=3) (hl1:c.juns.length<=4) (hl2:c.ags.length<=4) (hS:∀x∈c.ags,1<=x.se/\x.se<=2):Ct 29 [c.g] (fun d:Fo=>d.g) (fun d=>J4 d/\d.cfg=c/\d.now=0/\∀(k:Nat) (a:Hy),c.ags[k]? = some a->∃h1 h2,d.desks[k]? = some (Fy k a h1 h2)):=by
 refine Ev Tryz.func29 ?_
 refine Bu hp ?_
 refine Bu hp<|.seq ?_
 refine B8 hp (Ahj c hb) ?_
 refine Ck ?_ ?_<;>intro h16<;>simp[go_sem] at h16
 refine Bp<|.seq ?_
 refine Cl 2 8 70 17 (by decide) rfl rfl ?_
 simp[go_sem,-Prod.exists]
 refine Bu hp<|.block ?_
 refine Bs c.ags.length (fun i1 (y1:(List Dx))=>⟨[(1,.ptr 0 0),(2,.ptr 1 0),(3,.ptr 2 0),(35,.mAg c.ags),(36,.li c.ags.length),(37,.li i1)],[.box 30 (c.a false),.box 37 [.nil 3,.nil 8,.li 0,.li 0,.li 0,.li 0,.lb false,.li 0,.nil 17,.nil 5,.nil 3,.nil 1,.nil 4],.box 37 [.mJun c.juns,.mAg c.ags,.li c.per,.li c.cap,.li c.hold,.li c.lock,.lb false,.li 0,.own 3 y1.length,.nil 5,.nil 3,.nil 1,.nil 4],.row 70 17 false false (Jd y1)]⟩) (fun i1 y1=>y1.length=i1/\(∀d∈y1,Fx d/\1<=d.aud.length/\d.aud.length<=2)/\∀(k:Nat) (a:Hy),k<i1->c.ags[k]? = some a->∃h1 h2,y1[k]? = some (Fy k a h1 h2)) ([]) (wk Dy [0,1,2,3]) (⟨rfl,fun d h=>(by cases h),fun k a hk=>absurd hk (Nat.not_lt_zero _)⟩) fun i1 y1 hi1 hy1=>?_
 refine Bu hp<|.seq ?_
 refine Br ?_ ?_<;>intro h38
 ·refine Bp<|.seq<|.block ?_
  obtain⟨e1,H1⟩:=gx c.ags i1
  refine Bu (Fe hp H1) ?_
  have ha:=hA e1 (Ac H1)
  refine Cp (Fe hp H1) (Ao3 i1 e1 ha.1 ha.2.1) ?_
  refine B0 (Fe hp H1) ?_
  exact⟨by omega,(y1++([(Fy i1 e1 ha.1 ha.2.1)])),⟨by simp;omega,Li hy1.2.1 (Av5 ha.2.2 (hS e1 (Ac H1))),Ax1 hy1.1 H1 hy1.2.2⟩,wk (Fe (Dw ((i1:Int)+1)) H1) [0,1,2,3]⟩
 refine Bt<|.seq ?_
 refine Cl 2 12 128 4 (by decide) rfl rfl ?_
 simp[go_sem,-Prod.exists]
 refine Cl 2 9 135 5 (by decide) rfl rfl ?_
 simp[go_sem,-Prod.exists]
 refine Cl 2 10 138 3 (by decide) rfl rfl ?_
 simp[go_sem,-Prod.exists]
 refine Cl 2 11 3 1 (by decide) rfl rfl ?_
 simp[go_sem,-Prod.exists]
 refine Bu hp<|.block ?_
 refine Bs c.juns.length (fun i2 (y2:(List Dx)×(List Gw)×(List Ij)×(List F4)×(List Int))=>⟨[(2,.ptr 0 0),(3,.ptr 1 0),(52,.mJun c.juns),(53,.li c.juns.length),(54,.li i2)],[.box 37 [.nil 3,.nil 8,.li 0,.li 0,.li 0,.li 0,.lb false,.li 0,.nil 17,.nil 5,.nil 3,.nil 1,.nil 4],.box 37 [.mJun c.juns,.mAg c.ags,.li c.per,.li c.cap,.li c.hold,.li c.lock,.lb false,.li 0,.own 2 y2.1.length,.own 4 y2.2.2.1.length,.own 5 y2.2.2.2.1.length,.own 6 y2.2.2.2.2.length,.own 3 y2.2.1.length],.row 70 17 false false (Jd y2.1),.row 128 4 false false (R4 y2.2.1),.row 135 5 false false (Pf y2.2.2.1),.row 138 3 false false (P3 y2.2.2.2.1),.row 3 1 false false (tI y2.2.2.2.2)]⟩) (fun i2 y2=>(y2.1=y1/\y2.2.1.length=i2/\y2.2.2.1.length=i2/\y2.2.2.2.1.length=i2/\y2.2.2.2.2.length=i2)/\((∀v∈y2.2.1,v.col.length<=8/\v.cnt.length<=8)/\y2.2.1.map (fun v=>v.cnt.length)=(c.juns.take i2).map fun j=>j.phs.length)/\(∀g∈y2.2.2.1,g.ctl.lights.length<=8/\g.ctl.nxt.length<=2)/\∀g∈y2.2.2.2.1,g.ended.length<=1000) (y1,[],[],[],[]) (wk Dy [1,2,3,4,5,6,7]) (⟨⟨rfl,rfl,rfl,rfl,rfl⟩,⟨fun d h=>(by cases h),rfl⟩,fun d h=>(by cases h),fun d h=>(by cases h)⟩) fun i2 y2 hi2 hy2=>?_
 refine Bu hp<|.seq ?_
 refine Br ?_ ?_<;>intro h55
 ·refine Bp<|.seq<|.block ?_
  obtain⟨e2,H2⟩:=gx c.juns i2
  refine Bu (Fe hp H2) ?_
  have hj:=hJ e2 (Ac H2)
  obtain⟨Y1,cY1,qY1⟩:=Eo (V7 e2 hj.1)
  have hqj:=qY1
  refine B8 (Fe hp H2) cY1 ?_
  obtain⟨Y2,cY2,qY2⟩:=Eo (Ajm e2.phs.length (by omega))
  refine B8 (Fe hp H2) cY2 ?_
  refine Dd (Fe hp H2) (Acl e2 Y1 Y2 hj.2 (by omega)) ?_
  refine Bu (Fe hp H2) ?_
  refine Bu (Fe hp H2) ?_
  refine B0 (Fe hp H2) ?_
  refine B0 (Fe hp H2) ?_
  exact⟨by omega,(y2.1,y2.2.1++([(He e2 Y1 Y2 hj.2 (by omega))]),y2.2.2.1++([Y1]),y2.2.2.2.1++([Y2]),y2.2.2.2.2++([(-1)])),⟨⟨hy2.1.1,by simp;omega,by simp;omega,by simp;omega,by simp;omega⟩,⟨Li hy2.2.1.1 (Acz e2 Y1 Y2 hj.2 (by omega)),Arl hy2.2.1.2 H2 (Sx e2 Y1 Y2 hj.2 (by omega)).2⟩,Li hy2.2.2.1 ⟨by rw[hqj.2.1];exact hj.2,by rw[hqj.2.2];exact Aj _⟩,Li hy2.2.2.2 qY2⟩,wk (Fe (Dw ((i2:Int)+1)) H2) [0,1,2,3,4,5,6]⟩
 refine Bt<|.H hp ?_
 refine B2 Dy 2 ?_
 refine B2 Dy 4 ?_
 refine B2 Dy 5 ?_
 refine B2 Dy 6 ?_
 refine B2 Dy 3 ?_
 exact .ret (Eu hp ⟨c,false,0,y2.1,y2.2.2.1,y2.2.2.2.1,y2.2.2.2.2,y2.2.1⟩ ⟨⟨rfl,hJ,hl1,hl2,by dsimp only;rw[hy2.1.1];omega,by dsimp only;rw[hy2.1.1];exact hy1.2.1,by dsimp only;omega,hy2.2.2.1,by dsimp only;omega,hy2.2.2.2,by dsimp only;omega,by dsimp only;omega,hy2.2.1.1,by have h:=hy2.2.1.2;rwa[Bf (by omega)] at h,A17 (l:=c.ags) (y:=y2.1) hS fun k a hk=>by rw[hy2.1.1];exact hy1.2.2 k a (by have:=(Ab.1 hk).1;omega) hk⟩,rfl,rfl,fun k a hk=>by have h:=hy1.2.2 k a (by have:=(Ab.1 hk).1;omega) hk;rw[hy2.1.1];exact h⟩)
end
section
theorem Aep {m:Dz} (h:m.tok.length<=2000) (h2:m.args.length<=2000) (h3:m.data.length<=2000):Hh m:=⟨h,h2,h3⟩
variable {n:Int}
theorem Azt {m:Dz} (h:Hh m) (hP:P17 m n):(!N7 m)=true:=by
 have hv:=P7 m h.v.1 h.v.2.1 h.v.2.2
 have he:=(Oy m h.v.1 h.v.2.1 h.v.2.2).2 n hP
 unfold N7
 rw[dif_pos h,hv,he]
 rfl
def K4 (e:F8):List Int:=[e.ag,e.kind,e.code]
theorem Anx (l:List F8):(l.flatMap K4).length=3*l.length:=by
 induction l with
 | nil=>rfl
 | cons e l ih=>rw[List.flatMap_cons,Bo,ih];simp[K4];omega
theorem Ayd {l:List F8} {i:Nat} {e:F8} {y:List Int} (h:y=n::(l.take i).flatMap K4) (he:l[i]? = some e):y++[e.ag,e.kind,e.code]=n::(l.take (i+1)).flatMap K4:=by
 rw[h,List.take_add_one,he]
 simp[K4]
def Wo (n:Int) (pl:K6) (rep:List (List Dz)) (ents:List F8) (a:List Bool) (S:Dz):List Dz:=(rep[pl.num.toNat]?).getD []++[S]++(if a[pl.num.toNat]? = some true then [⟨18,[],n::(ents.take 16).flatMap K4,[]⟩] else [])
variable {pl:K6} {rep:List (List Dz)} {a:List Bool} {S:Dz} {r:List Dz}
theorem Aqw {ents et:List F8} {y:List Dz×List Int} {i:Nat} (h1:(rep[pl.num.toNat]?).getD []=r) (h2:a[pl.num.toNat]? = some true) (hq:y.1=r++[S]/\y.2=n::(et.take i).flatMap K4) (he:et=ents.take (min ents.length 16)) (hi:et.length<=i):y.1++[⟨18,[],y.2,[]⟩]=Wo n pl rep ents a S:=by
 have h:et=ents.take 16:=by rw[he,List.take_eq_take_iff];omega
 unfold Wo
 rw[h1,if_pos h2,hq.1,hq.2,Bf hi,h]
variable {ents:List F8}
theorem Axf (h1:(rep[pl.num.toNat]?).getD []=r) (h2:¬a[pl.num.toNat]? = some true):r++[S]=Wo n pl rep ents a S:=by
 unfold Wo
 rw[h1,if_neg h2,List.append_nil]
theorem Amo (hrep:∀l∈rep,l.length<=900/\∀m∈l,Hh m) (hs:Hh S):(Wo n pl rep ents a S).length<=910/\∀m∈Wo n pl rep ents a S,Hh m:=by
 have hr:((rep[pl.num.toNat]?).getD []).length<=900/\∀m∈(rep[pl.num.toNat]?).getD [],Hh m:=by
  cases h:rep[pl.num.toNat]? with
  | none=>exact⟨Ae _,fun m hm=>by cases hm⟩
  | some l=>exact hrep l (Ac h)
 have he:=Anx (ents.take 16)
 have hl:(ents.take 16).length<=16:=by rw[A5];omega
 unfold Wo
 refine⟨?_,fun m hm=>?_⟩
 ·split<;>simp<;>omega
 rcases A0.1 hm with hm | hm
 ·rcases A0.1 hm with hm | hm
  ·exact hr.2 m hm
  rw[An.1 hm];exact hs
 split at hm
 ·rw[An.1 hm];exact Aep (by simp) (by rw[A6];omega) (by simp)
 cases hm
def StS (c:Fo) (e:Dx) (S:Dz):Prop:=S.kind=17/\S.args=[c.now]/\S.tok=[]/\S.data.length=vwl c.views+(e.reg.ag.rq*3).toNat/\By S.data
def A2k (c:Fo) (pl:K6) (rep:List (List Dz)) (ents:List F8) (d:List Dz):Prop:=∃e S,c.desks[pl.ag.toNat]? = some e/\StS c e S/\d=(Wo c.now pl rep ents e.aud S).filter fun m=>!N7 m
theorem Ajh (c:Fo) (pl:K6) (rep:List (List Dz)) (ents:List F8) (hc:J4 c) (h0:0<=pl.ag) (h1:pl.ag<c.desks.length) (hn:0<=pl.num) (hrep:∀l∈rep,l.length<=900/\∀m∈l,Hh m) (hr2:rep.length<=1000) (hen:ents.length<=100000) (hn1:pl.num<rep.length) (hn2:∀d,c.desks[pl.ag.toNat]? = some d->pl.num<d.aud.length):Ct 99 [c.g,pl.g,.imm false 1 (R5 rep),.mEnt ents] (fun d:List Dz=>.mMsg d) (fun d=>d.length<=910/\(∀m∈d,Hh m)/\A2k c pl rep ents d):=by
 refine Ev Tryz.func99 ?_
 obtain⟨et,het⟩:∃et,et=ents.take (min ents.length 16):=⟨_,rfl⟩
 have hT:List.take (if (16:Int)<(ents.length:Int) then (16:Int) else (ents.length:Int)).toNat (List.map F8.t ents)=List.map F8.t et:=by rw[het,List.map_take];congr 1;split<;>omega
 have hel:et.length<=16:=by rw[het,A5];omega
 have hv4:c.views.length<=4:=by have:=hc.views;have:=hc.nj;omega
 refine Bq ?_
 obtain⟨e1,H1⟩:=gx c.desks pl.ag.toNat
 refine Bu H1 ?_
 refine Bu H1<|.seq ?_
 refine Bu H1 ?_
 refine Br ?_ ?_<;>intro h24
 ·obtain⟨e2,H2⟩:=gx rep pl.num.toNat
  refine C4 (by rfl) fun K1 hK1=>?_
  simp[go_sem,H1,H2]
  repeat' with_reducible refine Ax ?_ ?_
  all_goals try (intros;(repeat' refine Ax ?_ ?_)<;>omega)
  all_goals try (have he2:=(hrep e2 (Ac H2)).1;omega)
  refine hK1 _ ?_;clear hK1
  have hd:=hc.desk e1 (Ac H1)
  have hst:Hh (Fg e1 c.views c.now hd.1.b.reqs hd.1.rq hv4 hc.view):=by have hq:=Ahw e1 c.views c.now hd.1.b.reqs hd.1.rq hv4 hc.view;exact Aep (by rw[hq.2.2.1];simp) (by rw[hq.2.1];simp) (by omega)
  refine B4 (by rfl) fun K1 hK1=>?_
  simp[go_sem,H1,H2]
  refine .l (Ahp e1 c.views c.now hd.1.b.reqs hd.1.rq hv4 hc.view) ?_
  simp[go_sem,H1,H2]
  repeat' with_reducible refine Ax ?_ ?_
  all_goals try (intros;(repeat' refine Ax ?_ ?_)<;>omega)
  all_goals try (have he2:=(hrep e2 (Ac H2)).1;omega)
  refine hK1 _ ?_;clear hK1
  refine B9 ?_
  have hc6:=hn2 e1 H1
  obtain⟨e3,H3⟩:=gx e1.aud pl.num.toNat
  refine Bu (O4 H1 H2 H3 hc6) ?_
  refine Br ?_ ?_<;>intro h54
  ·refine Bu (I1 H1 H2 H3)<|.seq ?_
   refine Bu (O4 H1 H2 H3 hT)<|.block ?_
   refine Bs (et.length) (fun i1 (y1:(List Dz)×(List Int))=>⟨[(10,.own 0 y1.1.length),(11,.ptr 2 0),(63,.mEnt et),(64,.li (et.length)),(65,.li i1)],[.row 56 4 false false (Rb y1.1),.row 3 1 false false (tI y1.2),.box 56 [.li 18,.nil 1,.own 1 y1.2.length,.nil 1]]⟩) (fun i1 y1=>(y1.1=e2++[(Fg e1 c.views c.now hd.1.b.reqs hd.1.rq hv4 hc.view)]/\y1.2=c.now::(et.take i1).flatMap K4)/\y1.1.length<=901/\y1.2.length<=1+3*i1) (e2++([(Fg e1 c.views c.now hd.1.b.reqs hd.1.rq hv4 hc.view)]),[c.now]) (wk (I1 H1 H2 H3) [3,5,6]) (⟨⟨rfl,rfl⟩,by have:=(hrep e2 (Ac H2)).1;simp;omega,by simp⟩) fun i1 y1 hi1 hy1=>?_
   refine Bu (I1 H1 H2 H3)<|.seq ?_
   refine Br ?_ ?_<;>intro h66
   ·refine Bp<|.seq<|.block ?_
    obtain⟨e4,H4⟩:=gx et i1
    refine Bu (O4 H1 H2 H3 H4) ?_
    refine B0 (O4 H1 H2 H3 H4) ?_
    refine B0 (O4 H1 H2 H3 H4) ?_
    exact⟨by omega,(y1.1,y1.2++([e4.ag,e4.kind,e4.code])),⟨⟨hy1.1.1,Ayd hy1.1.2 H4⟩,hy1.2.1,by simp;omega⟩,wk (Yo (Dw ((i1:Int)+1)) H1 H2 H3 H4) [0,1,2]⟩
   refine Bt<|.Z (I1 H1 H2 H3) 1 ?_
   refine B0 (I1 H1 H2 H3) ?_
   have hE:(((y1.1++([⟨18,[],y1.2,[]⟩])):List Dz))=Wo c.now pl rep ents e1.aud (Fg e1 c.views c.now hd.1.b.reqs hd.1.rq hv4 hc.view):=by exact Aqw (r:=e2) (by rw[H2]<;>rfl) (by rw[H3,h54]) hy1.1 het (by omega)
   have hpk:=Amo (n:=c.now) (pl:=pl) (ents:=ents) (a:=e1.aud) hrep hst
   rw[<- hE] at hpk
   obtain⟨R,hR,_⟩:=Sl (((y1.1++([⟨18,[],y1.2,[]⟩])):List Dz)) (by have:=hpk.1;omega) hpk.2
   generalize hV:List.filter (fun t=>!N7 t) (((y1.1++([⟨18,[],y1.2,[]⟩])):List Dz))=V at hR
   refine Da (I1 H1 H2 H3) [0] hR ?_
   exact .ret (Eu (I1 H1 H2 H3) V ⟨by rw[<- hV];exact Ak (Az _ _) hpk.1,(fun m hm=>by rw[<- hV] at hm;exact hpk.2 m (Bn.1 hm).1),e1,_,H1,P8 e1 c.views c.now hd.1.b.reqs hd.1.rq hv4 hc.view,by rw[<- hE];exact hV.symm⟩)
  refine Bp ?_
  have hE:(((e2++([(Fg e1 c.views c.now hd.1.b.reqs hd.1.rq hv4 hc.view)])):List Dz))=Wo c.now pl rep ents e1.aud (Fg e1 c.views c.now hd.1.b.reqs hd.1.rq hv4 hc.view):=by first | exact Aqw (r:=e2) (by rw[H2]<;>rfl) (by rw[H3,h54]) hy1.1 het (by omega) | exact Axf (r:=e2) (by rw[H2]<;>rfl) (by rw[H3,h54]<;>decide)
  have hpk:=Amo (n:=c.now) (pl:=pl) (ents:=ents) (a:=e1.aud) hrep hst
  rw[<- hE] at hpk
  obtain⟨R,hR,_⟩:=Sl (((e2++([(Fg e1 c.views c.now hd.1.b.reqs hd.1.rq hv4 hc.view)])):List Dz)) (by have:=hpk.1;omega) hpk.2
  generalize hV:List.filter (fun t=>!N7 t) (((e2++([(Fg e1 c.views c.now hd.1.b.reqs hd.1.rq hv4 hc.view)])):List Dz))=V at hR
  refine Da (I1 H1 H2 H3) [3] hR ?_
  exact .ret (Eu (I1 H1 H2 H3) V ⟨by rw[<- hV];exact Ak (Az _ _) hpk.1,(fun m hm=>by rw[<- hV] at hm;exact hpk.2 m (Bn.1 hm).1),e1,_,H1,P8 e1 c.views c.now hd.1.b.reqs hd.1.rq hv4 hc.view,by rw[<- hE];exact hV.symm⟩)
 exfalso;omega
end
section
section
variable (c:Fo) (k:Int) (hd:c.desks.length<=1000) (hr:∀d∈c.desks,d.reqs.length<=1000/\∀r∈d.reqs,r.legs.length<=1000000)
include k hd hr
theorem Sm:∃d:List Fa,PP 128 [] [c.g,.li k] [.row 287 5 false false (Wq d)] (.own 0 d.length)/\(d.length<=1000000):=by
 refine Nr (D:=List Fa) (F:=fun d=>.own 0 d.length) (S:=fun d=>[.row 287 5 false false (Wq d)]) (Q:=fun d=>d.length<=1000000) Tryz.func128 rfl rfl rfl (by simp[Tryz.ntmps128]) ?_
 refine Bq ?_
 refine Bq<|.seq ?_
 refine Bq<|.block ?_
 refine Cf 5 287 5 (by decide) (k':=5) (by simp[go_sem]) ?_
 simp[go_sem,-Prod.exists]
 refine Bs c.desks.length (fun i1 (y1:(List Fa))=>⟨[(1,.li k),(5,.own 0 y1.length),(9,.mDesk c.desks),(10,.li c.desks.length),(11,.li i1)],[.row 287 5 false false (Wq y1)]⟩) (fun i1 y1=>y1.length<=1000*i1) ([]) (wk Dy [1]) (by simp) fun i1 y1 hi1 hy1=>?_
 refine Bq<|.seq ?_
 refine Br ?_ ?_<;>intro h12
 ·refine Bp<|.seq<|.block ?_
  obtain⟨e1,H1⟩:=gx c.desks i1
  refine Bu H1 ?_
  have hr1:=hr e1 (Ac H1)
  have hr2:e1.reqs.length<=1000000:=by omega
  obtain⟨Y1,cY1,qY1⟩:=Eo (Abb e1.reqs e1.reg.num k hr2 hr1.2)
  have hq1:=qY1
  refine Dr H1 cY1 ?_
  refine B0 H1 ?_
  refine⟨by omega,(y1++Y1),?_,wk (Fe (Dw ((i1:Int)+1)) H1) [0]⟩
  simp;omega
 refine Bt<|.R ?_
 exact .ret ⟨y1,rW Dy [0],(by omega)⟩
def Mv:List Fa:=(Sm c k hd hr).choose
theorem Ahl:PP 128 [] [c.g,.li k] [.row 287 5 false false (Wq (Mv c k hd hr))] (.own 0 (Mv c k hd hr).length):=(Sm c k hd hr).choose_spec.1
theorem Am6:(Mv c k hd hr).length<=1000000:=(Sm c k hd hr).choose_spec.2
theorem Ahk:PP 128 [] [c.g,.li k] [] (.imm true 5 (Wq (Mv c k hd hr))):=by
 have h:=(Ahl c k hd hr).fresh (by simp[T.plain,Fa.t])
 refine E4.froz (es:=Wq (Mv c k hd hr)) (fz:=false) (ty:=287) ?_
 simpa using h
end
variable {α:Type}
theorem Auc {l:List α} {i:Nat} (x:α) (h:i<l.length):(l.set i x).take (i+1)=l.take i++[x]:=by
 rw[List.take_add_one,Bg h,List.take_set_of_le (Aj _)]
 rfl
structure A4b (c:Fo) (i:Nat) (y:List Ij×List F4×List Int×List Gw):Prop where
  sigs:y.1.length=c.cfg.juns.length
  sig:∀g∈y.1,g.ctl.lights.length<=8/\g.ctl.nxt.length<=2
  svcs:y.2.1.length=c.cfg.juns.length
  svc:∀g∈y.2.1,g.ended.length<=1000
  stuck:y.2.2.1.length=c.cfg.juns.length
  views:y.2.2.2.length=c.cfg.juns.length
  view:∀v∈y.2.2.2,v.col.length<=8/\v.cnt.length<=8
  vw:(y.2.2.2.take i).map (fun v=>v.cnt.length)=(c.cfg.juns.take i).map fun j=>j.phs.length
theorem Ak4 {p:α->Prop} {l:List α} {i:Nat} {x:α} (h:∀y∈l,p y) (hx:p x):∀y∈l.set i x,p y:=fun y hy=>by
 rcases Bi hy with h1 | h1
 ·exact h y h1
 rw[h1];exact hx
theorem Add (c:Fo) (hc:J4 c):Cx 97 [.box 37 [.mJun c.cfg.juns,.mAg c.cfg.ags,.li c.cfg.per,.li c.cfg.cap,.li c.cfg.hold,.li c.cfg.lock,.lb c.ref,.li c.now,.mDesk c.desks,.own 1 c.sigs.length,.own 2 c.svcs.length,.own 3 c.stuck.length,.mView c.views],.row 135 5 false false (Pf c.sigs),.row 138 3 false false (P3 c.svcs),.row 3 1 false false (tI c.stuck)] [.ptr 0 0] (fun d:Fo=>[.box 37 [.mJun d.cfg.juns,.mAg d.cfg.ags,.li d.cfg.per,.li d.cfg.cap,.li d.cfg.hold,.li d.cfg.lock,.lb d.ref,.li d.now,.mDesk d.desks,.own 1 d.sigs.length,.own 2 d.svcs.length,.own 3 d.stuck.length,.own 4 d.views.length],.row 135 5 false false (Pf d.sigs),.row 138 3 false false (P3 d.svcs),.row 3 1 false false (tI d.stuck),.row 128 4 false false (R4 d.views)]) (fun d=>.tup []) (fun d=>J4 d/\d.cfg=c.cfg/\d.now=c.now/\d.desks=c.desks):=by
 refine T0 Tryz.func97 ?_
 have hj4:=hc.nj
 have hsg:=hc.sigs
 have hsv:=hc.svcs
 have hst:=hc.stuck
 have hdl:c.desks.length<=1000:=by have:=hc.desks;have:=hc.na;omega
 have hdr:∀d∈c.desks,d.reqs.length<=1000/\∀r∈d.reqs,r.legs.length<=1000000:=fun d hd=>⟨Ak (hc.desk d hd).1.reqs (by decide),(hc.desk d hd).1.b.legs⟩
 refine Cw (fun K kk=>by simp[go_sem,hsg,hsv];exact kk) ?_
 refine B3 (fun K kk=>by simp[go_sem,hsg,hsv];repeat first | exact kk | refine aK ?_) ?_
 refine Bq<|.block ?_
 refine Bs c.cfg.juns.length (fun i1 (y1:(List Ij)×(List F4)×(List Int)×(List Gw))=>⟨[(0,.ptr 0 0),(28,.li c.cfg.juns.length),(29,.li i1)],[.box 37 [.mJun c.cfg.juns,.mAg c.cfg.ags,.li c.cfg.per,.li c.cfg.cap,.li c.cfg.hold,.li c.cfg.lock,.lb c.ref,.li c.now,.mDesk c.desks,.own 1 y1.1.length,.own 2 y1.2.1.length,.own 3 y1.2.2.1.length,.own 4 y1.2.2.2.length],.row 135 5 false false (Pf y1.1),.row 138 3 false false (P3 y1.2.1),.row 3 1 false false (tI y1.2.2.1),.row 128 4 false false (R4 y1.2.2.2)]⟩) (fun i1 y1=>A4b c i1 y1) (c.sigs,c.svcs,c.stuck,List.replicate c.cfg.juns.length ⟨false,false,[],[]⟩) ⟨[0,1,2,3,4],En (by decide) ?_ ?_,Fu rfl⟩ (⟨hc.sigs,hc.sig,hc.svcs,hc.svc,hc.stuck,by simp,(fun v hv=>by have:=List.eq_of_mem_replicate hv;subst this;exact⟨Ae _,Ae _⟩),rfl⟩) fun i1 y1 hi1 hy1=>?_
 ·repeat' (first | exact .nil | refine .cons (by simp[go_sem,hsg,hsv]) ?_)
 ·repeat' (first | exact .nil | refine .cons (by simp[go_sem,hsg,hsv]) ?_)
 refine Bq<|.seq ?_
 refine Br ?_ ?_<;>intro h30
 ·refine Bp<|.seq<|.block ?_
  have hl1:=hy1.sigs
  have hl2:=hy1.svcs
  have hl3:=hy1.stuck
  have hl4:=hy1.views
  refine Bq ?_
  obtain⟨e1,H1⟩:=gx c.cfg.juns i1
  refine B3 (fun K kk=>by simp[go_sem,H1];repeat first | exact kk | refine aK ?_) ?_
  refine B3 (fun K kk=>by simp[go_sem,H1];exact kk)<|.seq ?_
  refine B3 (fun K kk=>by simp[go_sem,H1];exact kk) ?_
  refine Ck ?_ ?_<;>intro h46<;>simp[go_sem] at h46
  obtain⟨e2,H2⟩:=gx y1.2.2.1 i1
  refine B3 (fun K kk=>by simp[go_sem,H1,H2];repeat first | exact kk | refine aK ?_) ?_
  refine Ci (fun K kk=>by simp[go_sem,H1,H2];repeat first | exact kk | refine aK ?_) ?_
  obtain⟨gk,hgk⟩:∃e,y1.1[i1]? = some e:=⟨_,Aa (by omega)⟩
  obtain⟨vk,hvk⟩:∃e,y1.2.1[i1]? = some e:=⟨_,Aa (by omega)⟩
  have hjb:=hc.jun e1 (Ac H1)
  have hsb:=hy1.sig gk (Ac hgk)
  have hvb:vk.ended.length<=1000000:=Ak (hy1.svc vk (Ac hvk)) (by decide)
  have hCv:=Ahk ⟨c.cfg,c.ref,c.now,c.desks,y1.1,y1.2.1,(y1.2.2.1).set i1 (-1),y1.2.2.2⟩ i1 hdl hdr
  have hCl:=Am6 ⟨c.cfg,c.ref,c.now,c.desks,y1.1,y1.2.1,(y1.2.2.1).set i1 (-1),y1.2.2.2⟩ i1 hdl hdr
  generalize Mv ⟨c.cfg,c.ref,c.now,c.desks,y1.1,y1.2.1,(y1.2.2.1).set i1 (-1),y1.2.2.2⟩ i1 hdl hdr=CL at hCv hCl
  have hQ:=Akr c.cfg e1 gk vk CL e2 c.now hjb.2 hjb.1.con hsb.1 hsb.2 hvb hCl
  have hDv:=Aj3 c.cfg e1 gk vk CL e2 c.now hjb.2 hjb.1.con hsb.1 hsb.2 hvb hCl
  generalize Ld c.cfg e1 gk vk CL e2 c.now hjb.2 hjb.1.con hsb.1 hsb.2 hvb hCl=D at hQ hDv
  refine Dc (by kernel_rfl) (by rfl) (by kernel_rfl) fun K1 hK1=>?_
  simp[go_sem,H1,H2,hgk,hvk]
  repeat' with_reducible refine Ax ?_ ?_
  all_goals try (intros;(repeat' refine Ax ?_ ?_)<;>omega)
  refine .lo (hCv) (by simp[go_sem,AV.low,Kf,List.map_set]) (by simp[AV.cln,Ff]) ?_
  simp[go_sem,H1,H2,hgk,hvk]
  refine .l (hDv) ?_
  simp[go_sem,H1,H2,hgk,hvk]
  repeat' with_reducible refine Ax ?_ ?_
  all_goals try (intros;(repeat' refine Ax ?_ ?_)<;>omega)
  refine hK1 _ _ (by kernel_rfl) ?_;clear hK1
  have hs1:∀v,((Pf y1.1).set i1 v)[i1]? = some v:=fun v=>Bg (by simp;omega)
  have hs2:∀v,((P3 y1.2.1).set i1 v)[i1]? = some v:=fun v=>Bg (by simp;omega)
  have hWv:=Acl e1 D.1 D.2 hjb.2 hQ.1
  have hW:=Acz e1 D.1 D.2 hjb.2 hQ.1
  have hWn:=(Sx e1 D.1 D.2 hjb.2 hQ.1).2
  generalize He e1 D.1 D.2 hjb.2 hQ.1=W at hWv hW hWn
  obtain⟨e3,H3⟩:=gx ((y1.1).set i1 D.1) i1
  obtain⟨e4,H4⟩:=gx ((y1.2.1).set i1 D.2) i1
  obtain⟨e5,H5⟩:=gx y1.2.2.2 i1
  refine VX.draw1 (by kernel_rfl) (by rfl) (by kernel_rfl) fun K1 hK1=>?_
  simp[go_sem,H1,H2,H3,H4,H5,hs1,hs2]
  repeat' with_reducible refine Ax ?_ ?_
  all_goals try (intros;(repeat' refine Ax ?_ ?_)<;>omega)
  refine .l (hWv) ?_
  simp[go_sem,H1,H2,H3,H4,H5,hs1,hs2]
  repeat' with_reducible refine Ax ?_ ?_
  all_goals try (intros;(repeat' refine Ax ?_ ?_)<;>omega)
  refine hK1 _ _ (by kernel_rfl) ?_;clear hK1
  refine Ci (fun K kk=>by simp[go_sem,H1,H2,H3,H4,H5];exact kk) ?_
  refine⟨by omega,((y1.1).set i1 D.1,(y1.2.1).set i1 D.2,(y1.2.2.1).set i1 (-1),(y1.2.2.2).set i1 W),?_,[0,1,2,3,4],En (by decide) ?_ ?_,Fu rfl⟩
  ·exact⟨by simpa using hl1,Ak4 hy1.sig ⟨hQ.1,hQ.2.1⟩,by simpa using hl2,Ak4 hy1.svc (by rw[hQ.2.2];exact hy1.svc vk (Ac hvk)),by simpa using hl3,by simpa using hl4,Ak4 hy1.view hW,by rw[Auc _ (by omega)];exact Arl hy1.vw H1 hWn⟩
  all_goals repeat' (first | exact .nil | refine .cons (by simp[go_sem,Dw ((i1:Int)+1),H1,H2,H3,H4,H5]) ?_)
 refine Bt ?_
 refine⟨⟨c.cfg,c.ref,c.now,c.desks,y1.1,y1.2.1,y1.2.2.1,y1.2.2.2⟩,Akj [0,1,2,3,4] (by simp[go_sem]) (by decide) (Fu rfl) (by simp[go_sem]) ?_,⟨⟨hc.ref,hc.jun,hc.nj,hc.na,hc.desks,hc.desk,hy1.sigs,hy1.sig,hy1.svcs,hy1.svc,hy1.stuck,hy1.views,hy1.view,by have h:=hy1.vw;have h4:=hy1.views;rwa[Bf (by omega),Bf (by omega)] at h,hc.dl⟩,rfl,rfl,rfl⟩⟩
 repeat' (first | exact .nil | refine .cons (by simp[go_sem]) ?_)
end
end Go.Proofs.YtkkimgjinbaemaaGreat
