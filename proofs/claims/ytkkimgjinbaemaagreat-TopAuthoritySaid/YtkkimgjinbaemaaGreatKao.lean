/- The walk. -/
import Derived.Test.YtkkimgjinbaemaaGreatKan
noncomputable section
namespace Go.Proofs.YtkkimgjinbaemaaGreat
open Go.RowKit
set_option linter.unusedVariables false
set_option linter.unusedSimpArgs false
set_option linter.defProp false
set_option linter.unusedSectionVars false
set_option maxRecDepth 100000
set_option maxHeartbeats 4000000
section
theorem A48 (b:List Int):ItB (Eh b).1:=by
 unfold ItB
 match b with
 | []=>decide
 | [b0]=>rw[Eh];split<;>simp
 | [b0,b1]=>rw[Eh];(split<;>simp);(intro _ _ _ _ _ h;cases h)
 | [b0,b1,b2]=>rw[Eh];(split<;>simp);(intro _ _ _ _ _ h;cases h)
 | [b0,b1,b2,b3]=>rw[Eh];(split<;>simp);(intro _ _ _ _ _ h;cases h)
 | [b0,b1,b2,b3,b4]=>rw[Eh];(split<;>simp);(intro _ _ _ _ _ h;cases h)
 | b0::b1::b2::b3::b4::b5::r =>
  rw[Eh]
  dsimp only
  repeat' split
  all_goals first | (simp;done) | (refine⟨?_,by simp⟩;dsimp only;omega)
theorem Az4 {b:List Int} {x:E8×Int} (h:x∈Kv b):ItB x.1:=by
 obtain⟨k,hk⟩:=A3.1 h
 rw[(X0 _ b k x hk).2]
 exact A48 _
theorem All {p:E8->Prop} (n:Int):∀(L:List (E8×Int)) (u:Int) (g:Bool) (l:List E8),(∀x∈L,p x.1)->(∀t∈l,p t)->∀t∈(N6 n L u g l).2.2,p t
 | [],u,g,l,_,h=>h
 | x::L,u,g,l,h1,h2=>by
  have h3:∀x∈L,p x.1:=fun y hy=>h1 y (List.mem_cons_of_mem _ hy)
  have h4:∀t∈l++[x.1],p t:=Kr h2 (h1 x (List.mem_cons_self ..))
  rw[N6]
  split
  ·exact All n L _ _ _ h3 h2
  split
  ·exact h4
  exact All n L _ _ _ h3 h4
theorem A65 {s y:Er} {p:Fs} (h:Ayu s (y,p)):∀t∈p.items,ItB t:=by
 cases ho:s.op with
 | false =>
  have h:=congrArg Prod.snd (h.1 ho)
  have h:p=⟨false,[]⟩:=h
  rw[h]
  exact fun _ h=>absurd h A8
 | true =>
  obtain⟨e,⟨u,h1,_⟩,h2⟩:=h.2 ho
  have h2:p=_:=congrArg Prod.snd h2
  rw[h2]
  intro t ht
  rcases A0.1 ht with ht | ht
  ·split at ht
   ·rw[An.1 ht]
    exact⟨by decide,by decide⟩
   cases ht
  have hr:=All (p:=ItB) 4 (Kv s.st.buf) 0 s.st.gar [] (fun x hx=>Az4 hx) fun _ h=>absurd h A8
  rw[h1] at hr
  exact hr t ht
variable {l:List Fs}
theorem A4w {b n:Nat} (h:∀p∈l,∀t∈p.items,ItB t):∀p∈P6 l b n,∀t∈p.items,ItB t:=fun p hp=>by
 obtain⟨j,_,rfl⟩:=A4.1 hp
 cases hx:l[b+j]? with
 | none=>exact fun _ h=>absurd h A8
 | some x=>exact h x (Ac hx)
theorem Ast {b n j:Nat} (h:j<n):(P6 l b n)[j]? = some ((l[b+j]?).getD ⟨false,[]⟩):=by
 unfold P6
 rw[Ap,List.getElem?_range h]
 rfl
theorem Ar5.rep {c:Fm} {k:Nat} {d:Dy} {a:G2} {D:Dy×List (List Ea)×List F3×List Int} {n:Int} (h:Ar5 c l k d a D) (ha:Y8 n d) (hn:0<=n/\n<=99) (hnow:NB c.now) (hl:∀p∈l,∀t∈p.items,ItB t):Y8 n D.1/\(∀q∈D.2.1,q.length<=257/\∀m∈q,Ah0 m)/\D.2.2.1.flatMap Ll=D.2.1.flatten.flatMap (L3 n)/\(∀t∈D.2.2.1,Afb t)/\(∀j,j<d.aud.length->j<(Ee a).toNat->(∀p,l[(Eg c.cfg.ags k).toNat+j]? = some p->p.op=false)->(D.2.1[j]?).getD []=[])/\D.2.1.length=d.aud.length:=by
 obtain⟨hb',h1,h2,h3,h4,rfl⟩:=h
 have hq:=Nm c.cfg (Et d c.now hb') (P6 l (Eg c.cfg.ags k).toNat (Ee a).toNat) c.now h1 h2 h3 h4
 have hB:=Oe d c.now hb'
 have hR:=Ku d.reg c.now hb'.reg
 have hA:Y8 n (Et d c.now hb'):=⟨by rw[hB.2.1,hR.2.2.2.2];exact (Abe ha.bk).1,by rw[hB.2.1,hR.2.1.1];exact ha.num,by rw[hB.2.1,hR.2.1.2];exact ha.rq⟩
 have hX:=hq.2.rep hA hn hnow (A4w hl)
 refine⟨hX.1,fun q h=>⟨(hq.1.2.2.2.2.2.1 q h).1,hX.2.1 q h⟩,hX.2.2.1,hX.2.2.2.1,fun j hj hc ho=>?_,by rw[hq.1.2.2.2.2.1,hB.2.2.2.2]⟩
 refine hX.2.2.2.2 j _ (by rw[hB.2.2.2.2];exact hj) (Ast hc) ?_
 cases hx:l[(Eg c.cfg.ags k).toNat+j]? with
 | none=>rfl
 | some x=>exact ho x hx
theorem Ak2 {a:Int} (h:a<=99):vnl a=1:=by
 unfold vnl
 rw[if_pos (by omega)]
theorem Avs (a b:List Int):Np (a++b)=Np a+Np b:=by
 unfold Np
 rw[List.map_append,List.sum_append]
section
variable {l:List F3} (h:∀t∈l,Afb t)
include h
theorem Avr:Np (l.flatMap Ll)=3*l.length:=by
 induction l with
 | nil=>rfl
 | cons t l ih =>
  obtain⟨h1,h2,h3⟩:=h t (List.mem_cons_self ..)
  rw[List.flatMap_cons,Avs,ih fun x hx=>h x (List.mem_cons_of_mem _ hx),Ll,Um,Um,Um,Ak2 h1.2,Ak2 h2.2,Ak2 h3.2,A6,show Np []=0 from rfl]
  omega
theorem A2i:∀a∈l.flatMap Ll,NB a:=fun a ha=>by
 obtain⟨t,ht,ha⟩:=List.mem_flatMap.1 ha
 obtain⟨h1,h2,h3⟩:=h t ht
 simp only[Ll,List.mem_cons,A8,or_false] at ha
 rcases ha with rfl | rfl | rfl<;>exact⟨by omega,by omega⟩
end
theorem Aps.told {S:Fm} {i j:Nat} {n:Int} {r:List (List Ea)} {en:List F3} {q:List Ea} (h:Aps S l i j r en q) (hc:Kf S) (hnow:NB S.now) (hr:∀x∈r,x.length<=257/\∀m∈x,Ah0 m) (he:∀t∈en,Afb t) (hcl:(∀p,l[(Eg S.cfg.ags i).toNat+j]? = some p->p.op=false)->(r[j]?).getD []=[]):Ab0 (q.map Q9).flatten q/\q.length<=259/\(∀m∈q,(m.kind=15->2<=m.args.length)/\(m.kind=14->1<=m.args.length))/\q.flatMap (L3 n)=((r[j]?).getD []).flatMap (L3 n)/\∀m∈q,m.kind=18->m=⟨18,[],S.now::(en.take 16).flatMap Ll,[]⟩:=by
 rcases h with⟨p,_,_,E,M,hE,m2,m3⟩ | ⟨h0,rfl⟩
 ·have m3:q=(((r[j]?).getD []++[M])++(if E.aud[j]? = some true then [(⟨18,[],S.now::(en.take 16).flatMap Ll,[]⟩:Ea)] else [])).filter fun m=>!Ov m:=m3
  have hj:((r[j]?).getD []).length<=257/\∀m∈(r[j]?).getD [],Ah0 m:=by
   cases hj:r[j]? with
   | none=>exact⟨Ae _,fun _ h=>absurd h A8⟩
   | some x=>exact hr x (Ac hj)
  generalize (r[j]?).getD []=y at m3 hj ⊢
  obtain⟨k1,k2,k3,k4,k5⟩:=m2
  have hM:Y7 M/\Hi M:=by
   have hv:=Acf fun v hv=>hc.view v hv
   have hvl:=hc.views
   have hnj:=hc.nj
   have hrq:=(hc.desk E (Ac hE)).1.rq
   have hd:M.data.length<=100:=by omega
   have hz:Hi M:=⟨by rw[k3];exact Ae _,by rw[k2];simp,by omega⟩
   have hs:Ta M.kind=some ⟨0,1,0,0,0,-1⟩:=by rw[k1];rfl
   exact⟨Alq hs (Al6 hs k3 (.inl rfl) hd (.inl ⟨rfl,by rw[k2];rfl⟩) (by rw[k2];intro a ha;rw[An.1 ha];exact hnow) (by rw[k2];have:=Asa [S.now];exact Ak this (by simp))) hz,hz⟩
  have hTr:Y7 (⟨18,[],S.now::(en.take 16).flatMap Ll,[]⟩:Ea)/\Hi (⟨18,[],S.now::(en.take 16).flatMap Ll,[]⟩:Ea):=by
   have he':∀t∈en.take 16,Afb t:=fun t ht=>he t (Aq ht)
   have hl:(en.take 16).length<=16:=by rw[A5];omega
   generalize en.take 16=es at he' hl
   have hv:=Avr he'
   have hvn:=Avt S.now
   have hel:=Apf es
   have hz:Hi (⟨18,[],S.now::es.flatMap Ll,[]⟩:Ea):=⟨Ae _,by rw[A6];omega,Ae _⟩
   have hs:Ta (⟨18,[],S.now::es.flatMap Ll,[]⟩:Ea).kind=some ⟨0,1,3,0,16,0⟩:=rfl
   refine⟨Alq hs (Al6 hs rfl (.inr rfl) (Ae _) (.inr ⟨es.length,by omega,by dsimp only;omega,by decide,by dsimp only;rw[A6];omega⟩) (fun a ha=>?_) (by rw[Um];omega)) hz,hz⟩
   rcases List.mem_cons.1 ha with rfl | ha
   ·exact hnow
   exact A2i he' a ha
  obtain⟨X,hX⟩:∃X:Ea,X=⟨18,[],S.now::(en.take 16).flatMap Ll,[]⟩:=⟨_,rfl⟩
  rw[<- hX] at m3 hTr ⊢
  generalize hT:(if E.aud[j]? = some true then [X] else [])=T at m3
  have hTq:T.length<=1/\T.flatMap (L3 n)=[]/\∀m∈T,m=X:=by
   rw[<- hT]
   split
   ·exact⟨Aj _,by rw[hX];rfl,fun m h=>An.1 h⟩
   exact⟨Ae _,rfl,fun _ h=>absurd h A8⟩
  have hMk:L3 n M=[]:=if_pos k1
  have hall:∀m∈y++[M]++T,Y7 m/\Hi m/\By m.data/\(m.kind=15->2<=m.args.length)/\(m.kind=14->1<=m.args.length)/\(m.kind=18->m=X):=fun m h=>by
   rcases A0.1 h with h | h
   ·rcases A0.1 h with h | h
    ·have h:=hj.2 m h
     exact⟨h.srv,h.sz,h.by',h.a15,h.a14,fun e=>absurd e h.nt.2⟩
    rw[An.1 h]
    exact⟨hM.1,hM.2,k5,fun e=>by omega,fun e=>by omega,fun e=>by omega⟩
   rw[hTq.2.2 m h]
   exact⟨hTr.1,hTr.2,by rw[hX];exact .nil,fun e=>(by rw[hX] at e;cases e),fun e=>(by rw[hX] at e;cases e),fun _=>rfl⟩
  have hq:q=y++[M]++T:=by
   rw[m3]
   exact List.filter_eq_self.2 fun m h=>A0h (hall m h).1.ok (hall m h).2.1
  have hlen:(y++[M]++T).length<=259:=by
   rw[Bo,Bo,List.length_singleton]
   omega
  rw[hq]
  have hf:=Aob (L:=y++[M]++T) fun m h=>⟨(hall m h).1,(hall m h).2.2.1⟩
  refine⟨⟨fun m hm=>(hall m hm).1,rfl,by omega,hf.1⟩,hlen,fun m hm=>⟨(hall m hm).2.2.2.1,(hall m hm).2.2.2.2.1⟩,?_,fun m hm=>(hall m hm).2.2.2.2.2⟩
  rw[List.flatMap_append,List.flatMap_append,hTq.2.1,List.append_nil]
  show _++(L3 n M++[])=_
  rw[hMk,List.append_nil,List.append_nil]
 rw[hcl h0]
 exact⟨⟨fun _ h=>absurd h A8,rfl,Ae _,.nil⟩,Ae _,fun _ h=>absurd h A8,rfl,fun _ h=>absurd h A8⟩
def Sn:List G2->Int->Int->Int
 | [],_,_=>-1
 | a::l,k,s=>if 0<=s/\s<a.se then k else Sn l (k+1) (s - a.se)
theorem At9 {l:List G2} {i:Nat} {e:G2} (h:l[i]? = some e) (k s:Int):Sn (l.drop i) k s=if 0<=s/\s<e.se then k else Sn (l.drop (i+1)) (k+1) (s - e.se):=by
 obtain⟨hi,he⟩:=Ab.1 h
 rw[List.drop_eq_getElem_cons hi,he,Sn]
theorem Adx (a:G2) (l:List G2):∀k,Eg (a::l) (k+1)=Ee a+Eg l k
 | 0=>by simp[Eg]
 | k+1=>by
  rw[Eg,Adx a l k,Eg]
  simp only[Bb]
  omega
theorem Afp:∀{l:List G2} {k:Nat} {a:G2} {j:Nat} (n:Int),(∀x∈l,1<=x.se/\x.se<=2)->l[k]? = some a->(j:Int)<Ee a->Sn l n (Eg l k+j)=n+k
 | [],k,a,j,n,_,h,_=>by cases h
 | x::l,0,a,j,n,hS,h,hj=>by
  have hx:=hS x (List.mem_cons_self ..)
  have hc:=(He x).2.2 hx
  have h:x=a:=by simpa using h
  subst h
  rw[Sn,Eg,if_pos (by omega)]
  simp
 | x::l,k+1,a,j,n,hS,h,hj=>by
  have hx:=hS x (List.mem_cons_self ..)
  have hc:=(He x).2.2 hx
  have hb:=(Iq l k).1
  have h:l[k]? = some a:=by simpa using h
  rw[Sn,Adx,if_neg (by omega),show Ee x+Eg l k+(j:Int) - x.se=Eg l k+j by omega,Afp (n+1) (fun y hy=>hS y (List.mem_cons_of_mem _ hy)) h hj]
  push_cast
  omega
def wnt (C:E5) (l:List (List Int)):Nat->List Int
 | 0=>[]
 | n+1=>wnt C l n++(Ady ((l[n]?).getD [])).flatMap (L3 (Sn C.ags 0 n))
structure A7v (C:E5) (o:P9):Prop where
  len:(o.ses.length:Int)=Eg C.ags C.ags.length
  said:∀s∈o.ses,∃L,Ab0 s L/\L.length<=259/\∀m∈L,(m.kind=15->2<=m.args.length)/\(m.kind=14->1<=m.args.length)
  tr:∃T:Int,∀s∈o.ses,∀m∈Ady s,m.kind=18->m=⟨18,[],T::(wnt C o.ses o.ses.length).take 48,[]⟩
theorem An9:∀(n:Nat) (l:List F3),(l.flatMap Ll).take (3*n)=(l.take n).flatMap Ll
 | 0,l=>by simp
 | n+1,[]=>by simp
 | n+1,e::l=>by
  rw[List.take_succ_cons,List.flatMap_cons,List.flatMap_cons,<- An9 n l,Ll,show 3*(n+1)=3*n+1+1+1 by omega]
  rfl
theorem Akh {α:Type} {l:List (List α)} {i:Nat}:(l.take (i+1)).flatten=(l.take i).flatten++(l[i]?).getD []:=by
 rw[List.take_add_one,List.flatten_append]
 cases l[i]? <;> simp
theorem Ayf {C:E5} {b:Gt} {e:I5} (hb:Qa b) (hC:b.city.cfg=C) (he:Lo e) (hk:e.kind=6) (hS:∀a∈C.ags,1<=a.se/\a.se<=2) (hD:∀(k:Nat) (d:Dy),b.city.desks[k]? = some d->Y8 k d) (hnow:0<=b.city.now):(Mo b e).2.2=true/\A7v C (Mo b e).2.1/\(∀(k:Nat) (d:Dy),(Mo b e).1.city.desks[k]? = some d->Y8 k d)/\0<=(Mo b e).1.city.now:=by
 have hq:=Gc b e hb he
 rw[<- K5 hb he] at hq
 generalize Mo b e=D at hq ⊢
 obtain⟨t1,t2,t3,l,S,hl,hTk,hTic,hsl,hout⟩:=hq.tick hk
 have hcfg:D.1.city.cfg=C:=hq.cfg.trans hC
 have hnb:NB D.1.city.now/\0<=D.1.city.now:=by
  have e:(if 1073741823<b.city.now then 1073741823 else b.city.now)<=1073741823/\0<=(if 1073741823<b.city.now then 1073741823 else b.city.now):=by split<;>omega
  rw[t3,Dx _]
  exact⟨⟨by omega,by omega⟩,by omega⟩
 have hit:∀p∈l,∀t∈p.items,ItB t:=fun p hp=>by
  obtain⟨k,hk⟩:=A3.1 hp
  have hkl:k<b.sess.length:=by rw[<- hl];exact (Ab.1 hk).1
  obtain⟨y,p',_,h2,h3⟩:=hTk k _ hkl (Aa hkl)
  rw[hk] at h2
  injection h2 with h2
  rw[h2]
  exact A65 h3
 obtain⟨rp,en,⟨ens,hen,henl,hA⟩,hrl,hSI⟩:=hTic
 have hdl:b.city.desks.length=C.ags.length:=by rw[hb.city.desks,hC]
 have hna:C.ags.length<=4:=by rw[<- hC];exact hb.city.na
 have rep:∀(k:Nat) (d:Dy) (a:G2),b.city.desks[k]? = some d->C.ags[k]? = some a->∃x r e s,D.1.city.desks[k]? = some x/\rp[k]? = some r/\ens[k]? = some e/\Y8 k x/\(∀q∈r,q.length<=257/\∀m∈q,Ah0 m)/\e.flatMap Ll=r.flatten.flatMap (L3 k)/\(∀t∈e,Afb t)/\(∀j,j<d.aud.length->j<(Ee a).toNat->(∀p,l[(Eg C.ags k).toNat+j]? = some p->p.op=false)->(r[j]?).getD []=[])/\r.length=d.aud.length/\s=([]:List Int):=fun k d a hd ha=>by
  have hkd:=(Ab.1 hd).1
  obtain⟨x,r,e',s',k1,k2,k3,k4⟩:=(hA k d a hd (by show b.city.cfg.ags[k]? = _;rw[hC];exact ha)).1 hkd
  have hR:=k4.rep (n:=k) (hD k d hd) (by omega) hnb.1 hit
  have h5:=hR.2.2.2.2.1
  rw[show Eg (⟨b.city.cfg,b.city.ref,D.1.city.now,b.city.desks,b.city.sigs,b.city.svcs,b.city.stuck,b.city.views⟩:Fm).cfg.ags k=Eg C.ags k by rw[<- hC]] at h5
  exact⟨x,r,e',[],k1,k2,k3,hR.1,hR.2.1,hR.2.2.1,hR.2.2.2.1,h5,hR.2.2.2.2.2,rfl⟩
 have henb:∀t∈en,Afb t:=fun t ht=>by
  rw[hen] at ht
  obtain⟨es,hes,ht⟩:=List.mem_flatten.1 ht
  obtain⟨k,hk⟩:=A3.1 hes
  have hkl:k<b.city.desks.length:=by rw[<- henl];exact (Ab.1 hk).1
  obtain⟨x,r,e',s,_,_,h3,_,_,_,h7,_⟩:=rep k _ _ (Aa hkl) (Aa (by omega))
  rw[hk] at h3
  injection h3 with h3
  rw[h3] at ht
  exact h7 t ht
 have key:∀(k:Nat) (a:G2),C.ags[k]? = some a->∃(e:List F3) (r:List (List Ea)),ens[k]? = some e/\e.flatMap Ll=r.flatten.flatMap (L3 k)/\(r.length:Int)=Ee a/\∀j:Nat,(j:Int)<Ee a->∃s q,D.2.1.ses[(Eg C.ags k).toNat+j]? = some s/\Ab0 s q/\q.length<=259/\(∀m∈q,(m.kind=15->2<=m.args.length)/\(m.kind=14->1<=m.args.length))/\q.flatMap (L3 k)=((r[j]?).getD []).flatMap (L3 k)/\∀m∈q,m.kind=18->m=⟨18,[],D.1.city.now::(en.take 16).flatMap Ll,[]⟩:=fun k a ha=>by
  have hkl:=(Ab.1 ha).1
  have hd:b.city.desks[k]? = some _:=Aa (by omega)
  obtain⟨x,r,e',_,k1,k2,k3,k4,k5,k6,k7,k8,k9,_⟩:=rep k _ a hd ha
  have hda:=hb.city.dl k _ a hd (by rw[hC];exact ha)
  refine⟨e',r,k3,k6,by omega,fun j hj=>?_⟩
  obtain⟨q,hq1,hq2⟩:=hSI k j a r (.inl (by show k<D.1.city.cfg.ags.length;rw[hcfg];exact hkl)) (by show D.1.city.cfg.ags[k]? = _;rw[hcfg];exact ha) hj k2
  have hq1:S.ses[(Eg D.1.city.cfg.ags k).toNat+j]? = some q:=hq1
  rw[hcfg] at hq1
  have hso:(Eg C.ags k).toNat+j<D.2.1.ses.length:=by
   have:=(Ab.1 hq1).1
   have hsl:S.ses.length=D.2.1.ses.length:=hsl
   omega
  have ho:=hout _ q _ hq1 (Aa hso)
  have h:=hq2.told (n:=k) hq.i.city hnb.1 k5 henb fun h0=>k8 j (by omega) (by omega) fun p hp=>h0 p (by show l[(Eg D.1.city.cfg.ags k).toNat+j]? = _;rw[hcfg];exact hp)
  rw[<- ho] at h
  exact⟨_,q,Aa hso,h⟩
 have place:∀s∈D.2.1.ses,∃(k:Nat) (a:G2) (j:Nat),C.ags[k]? = some a/\(j:Int)<Ee a/\D.2.1.ses[(Eg C.ags k).toNat+j]? = some s:=fun s hs=>by
  obtain⟨n,hn,rfl⟩:=List.mem_iff_getElem.1 hs
  have t2:(D.2.1.ses.length:Int)=_:=t2
  rw[hC] at t2
  obtain⟨k,a,j,ha,hj,rfl⟩:=Q5 (l:=C.ags) (s:=n) C.ags.length (by omega)
  exact⟨k,a,j,ha,hj,Aa hn⟩
 have inner:∀(k:Nat) (a:G2) (e:List F3) (r:List (List Ea)),C.ags[k]? = some a->(r.length:Int)=Ee a->(∀j:Nat,(j:Int)<Ee a->∃s q,D.2.1.ses[(Eg C.ags k).toNat+j]? = some s/\Ab0 s q/\q.flatMap (L3 k)=((r[j]?).getD []).flatMap (L3 k))->∀j:Nat,(j:Int)<=Ee a->wnt C D.2.1.ses ((Eg C.ags k).toNat+j)=wnt C D.2.1.ses (Eg C.ags k).toNat++(r.take j).flatten.flatMap (L3 k):=fun k a e r ha hr h j=>by
  induction j with
  | zero=>intro _;simp
  | succ j ih =>
   intro hj
   obtain⟨s,q,h1,h2,h3⟩:=h j (by omega)
   have hb0:=(Iq C.ags k).1
   have ho:Sn C.ags 0 (((Eg C.ags k).toNat+j:Nat):Int)=k:=by
    have:=Afp 0 hS ha (j:=j) (by omega)
    rw[show (((Eg C.ags k).toNat+j:Nat):Int)=Eg C.ags k+j by omega,this]
    omega
   rw[<- Af,wnt,ih (by omega),h1,ho,show (some s).getD []=s from rfl,h2.all,h3,Akh,List.flatMap_append,List.append_assoc]
 have outer:∀k,k<=C.ags.length->wnt C D.2.1.ses (Eg C.ags k).toNat=(ens.take k).flatten.flatMap Ll:=fun k=>by
  induction k with
  | zero=>intro _;simp[Eg,wnt]
  | succ k ih =>
   intro hk
   have ha:=Aa (show k<C.ags.length by omega)
   obtain⟨e',r,h1,h2,h3,h4⟩:=key k _ ha
   have h5:=inner k _ e' r ha h3 (fun j hj=>by obtain⟨s,q,a1,a2,_,_,a3,_⟩:=h4 j hj;exact⟨s,q,a1,a2,a3⟩) r.length (by omega)
   have hb0:=(Iq C.ags k).1
   rw[show (Eg C.ags (k+1)).toNat=(Eg C.ags k).toNat+r.length by rw[Eg,ha];dsimp only;omega,h5,ih (by omega),Bf (Aj _),Akh,h1,List.flatMap_append,<- h2]
   rfl
 have hW:wnt C D.2.1.ses D.2.1.ses.length=en.flatMap Ll:=by
  have t2:(D.2.1.ses.length:Int)=_:=t2
  rw[hC] at t2
  have h:=outer C.ags.length (Aj _)
  rw[Bf (by omega),<- hen] at h
  rw[<- h]
  congr 1
  omega
 refine⟨t1,⟨by rw[t2,hC],fun s hs=>?_,D.1.city.now,fun s hs m hm h18=>?_⟩,fun k d hd=>?_,hnb.2⟩
 ·obtain⟨k,a,j,ha,hj,h⟩:=place s hs
  obtain⟨e',r,_,_,_,h4⟩:=key k a ha
  obtain⟨s',q,h5,h6,h7,h8,_⟩:=h4 j hj
  rw[h] at h5
  injection h5 with h5
  rw[h5]
  exact⟨q,h6,h7,h8⟩
 ·obtain⟨k,a,j,ha,hj,h⟩:=place s hs
  obtain⟨e',r,_,_,_,h4⟩:=key k a ha
  obtain⟨s',q,h5,h6,_,_,_,h9⟩:=h4 j hj
  rw[h] at h5
  injection h5 with h5
  rw[h5,h6.all] at hm
  rw[hW,show 48=3*16 from rfl,An9]
  exact h9 m hm h18
 have hl1:k<C.ags.length:=by
  have:=(Ab.1 hd).1
  have h1:=hq.i.city.desks
  rw[hcfg] at h1
  omega
 obtain⟨x,r,e',s,k1,_,_,k4,_⟩:=rep k _ _ (Aa (by omega)) (Aa hl1)
 rw[k1] at hd
 injection hd with hd
 rw[<- hd]
 exact k4
structure Sr (C:E5) (b:Gt):Prop where
  br:Qa b
  cfg:b.city.cfg=C
  all:∀(k:Nat) (d:Dy),b.city.desks[k]? = some d->Y8 k d
  now:0<=b.city.now
theorem Sr.other {C:E5} {b:Gt} {e:I5} (h:Sr C b) (he:Lo e) (hk:e.kind≠6):Sr C (Mo b e).1/\(Mo b e).2.2=false:=by
 have hq:=Gc b e h.br he
 rw[<- K5 h.br he] at hq
 generalize Mo b e=D at hq ⊢
 refine⟨?_,hq.none hk⟩
 by_cases h3:e.kind<=3
 ·have hf:=hq.few h3
  have hi:=hq.i
  rw[hf] at hi ⊢
  exact⟨hi,h.cfg,h.all,h.now⟩
 have hK:=(hq.keep (by omega) hk).2
 refine⟨hq.i,hq.cfg.trans h.cfg,fun k d hd=>?_,by rw[hK.1];exact h.now⟩
 have hl:k<b.city.desks.length:=by
  have:=(Ab.1 hd).1
  have h1:=hq.i.city.desks
  rw[hq.cfg] at h1
  have h2:=h.br.city.desks
  omega
 obtain⟨y,hy⟩:=hK.2 k _ (Aa hl)
 rw[hy] at hd
 injection hd with hd
 have hA:=h.all k b.city.desks[k] (Aa hl)
 rw[<- hd]
 exact⟨hA.bk,hA.num,hA.rq⟩
theorem Aw6 {c:E5} (hp:L7 c=true) {a:G2} (ha:a∈c.ags):0<=a.rq:=by
 unfold L7 at hp
 simp only[Ah] at hp
 have h:=Am.1 hp.1.2 a ha
 simp only[Ae6,Ev,Ah,decide_eq_true_eq] at h
 omega
end
section
def Amz (x:Er) (F:Nat):Prop:=x.op=false\/∃F' T s ps,F'<=F/\Vb x.st.buf x.st.gar F' T s ps
theorem Amz.mono {x:Er} {F G:Nat} (h:Amz x F) (hg:F<=G):Amz x G:=by
 rcases h with h | ⟨F',T,s,ps,h1,h2⟩
 ·exact .inl h
 exact .inr ⟨F',T,s,ps,by omega,h2⟩
theorem Vb.puts:∀{fs:List (List Int)} {b:List Int} {g:Bool} {F T:Nat} {s:List Int} {ps:List Pc},Vb b g F T s ps->(∀f∈fs,FrP f)->∃ps',Vb ((b++fs.flatten).take 256) g (F+fs.length) T s ps'
 | [],b,g,F,T,s,ps,h,_=>⟨ps,by rw[List.flatten_nil,List.append_nil,Bf h.len];exact h⟩
 | f::fs,b,g,F,T,s,ps,h,hf=>by
  obtain⟨ps1,h1⟩:=h.put (hf f (List.mem_cons_self ..))
  obtain⟨ps2,h2⟩:=Vb.puts h1 fun x hx=>hf x (List.mem_cons_of_mem _ hx)
  refine⟨ps2,?_⟩
  have e:(((b++f).take 256)++fs.flatten).take 256=(b++(f::fs).flatten).take 256:=by
   rw[List.flatten_cons,<- List.append_assoc,List.take_append,List.take_append (l₁:=b++f),List.take_take,Nat.min_self,A5]
   congr 2
   omega
  rw[e,show F+1+fs.length=F+(f::fs).length by rw[A6];omega] at h2
  exact h2
variable {b:Gt} {s:Er}
theorem A10 {e:I5} {n:Nat} (hb:Qa b) (he:Lo e) (hn:EvF e n) {k:Nat} {F:Nat} (hs:b.sess[k]? = some s) (h:Amz s F):∃s',(Mo b e).1.sess[k]? = some s'/\Amz s' (F+if e.se=k then n else 0):=by
 have hq:=Gc b e hb he
 rw[<- K5 hb he] at hq
 generalize Mo b e=D at hq ⊢
 have hse:=hb.ses s (Ac hs)
 by_cases h3:e.kind<=3
 ·rw[hq.few h3]
  show ∃s',(Td b.sess e)[k]? = some s'/\_
  by_cases hk:e.se=k
  ·rw[Sc (s:=s) (by omega) (by rw[hk];exact hs),hk,if_pos rfl]
   refine⟨_,Bg (by have:=(Ab.1 hs).1;omega),?_⟩
   by_cases k1:e.kind=1
   ·have q:=(S8 s hse.1).2.2.2
    rw[Alr hse he.1 k1]
    cases ho:s.op
    ·rw[q.1 ho]
     exact .inr ⟨0,0,[],[],Ae _,Vb.nil false⟩
    rw[q.2 ho]
    exact h.mono (by omega)
   by_cases k2:e.kind=2
   ·rw[Aqr hse he.1 k2,(Xx s).2.2]
    exact .inl rfl
   by_cases k3:e.kind=3
   ·have q:=(Xw s e.bytes hse.1 he.1).2.2
    rw[Aqq hse he.1 k3]
    cases ho:s.op
    ·rw[q.1 ho]
     exact h.mono (by omega)
    obtain⟨f,hf,_⟩:=q.2 ho
    rw[hf]
    rcases hn with⟨hn,_⟩ | ⟨_,fs,h1,h2,hp⟩
    ·exact absurd k3 hn
    rcases h with h | ⟨F',T,t,ps,hF,hB⟩
    ·rw[ho] at h;cases h
    obtain⟨ps',hB'⟩:=hB.puts hp
    rw[<- h1] at hB'
    exact .inr ⟨_,T,t,ps',by omega,hB'⟩
   have e1:Uz s e=s:=by simp[Uz,k1,k2,k3]
   rw[e1]
   exact h.mono (by omega)
  rw[if_neg hk,Nat.add_zero]
  refine⟨s,?_,h⟩
  by_cases hin:0<=e.se/\e.se<b.sess.length
  ·have hg:b.sess[e.se.toNat]? = some b.sess[e.se.toNat]:=Aa (by omega)
   rw[Sc hin.1 hg,A9 (by omega)]
   exact hs
  rw[Yr hin]
  exact hs
 by_cases h6:e.kind=6
 ·obtain⟨_,_,_,l,S,hl,hTk,_⟩:=hq.tick h6
  obtain⟨y,p,hy,_,hT⟩:=hTk k s (Ab.1 hs).1 hs
  refine⟨y,hy,?_⟩
  cases ho:s.op
  ·have e1:=congrArg Prod.fst (hT.1 ho)
   have e1:y=s:=e1
   rw[e1]
   exact .inl ho
  obtain⟨d,hd,e1⟩:=hT.2 ho
  have e1:y=⟨true,false,d.1⟩:=congrArg Prod.fst e1
  rcases h with h | ⟨F',T,t,ps,hF,hB⟩
  ·rw[ho] at h;cases h
  obtain⟨T',t',ps',hB'⟩:=hB.tick hd
  rw[e1]
  exact .inr ⟨F',T',t',ps',by omega,hB'⟩
 rw[(hq.keep (by omega) h6).1]
 exact⟨s,hs,h.mono (by omega)⟩
def Qu (b:Gt) (l:List I5):Gt:=l.foldl (fun b e=>(Mo b e).1) b
theorem Agx (b:Gt):Qu b []=b:=rfl
theorem Rd (b:Gt) (e:I5) (l:List I5):Qu b (e::l)=Qu (Mo b e).1 l:=rfl
theorem Aoh (b:Gt) (l m:List I5):Qu b (l++m)=Qu (Qu b l) m:=List.foldl_append ..
theorem Sr.step {C:E5} {e:I5} (hS:∀a∈C.ags,1<=a.se/\a.se<=2) (h:Sr C b) (he:Lo e):Sr C (Mo b e).1:=by
 by_cases hk:e.kind=6
 ·obtain⟨_,_,h3,h4⟩:=Ayf h.br h.cfg he hk hS h.all h.now
  have hq:=Gc b e h.br he
  rw[<- K5 h.br he] at hq
  exact⟨hq.i,hq.cfg.trans h.cfg,h3,h4⟩
 exact (h.other he hk).1
theorem Sr.run {C:E5} (hS:∀a∈C.ags,1<=a.se/\a.se<=2):∀{l:List I5} {b:Gt},Sr C b->(∀e∈l,Lo e)->Sr C (Qu b l)
 | [],b,h,_=>h
 | e::l,b,h,hl=>Sr.run (l:=l) hS (h.step hS (hl e (List.mem_cons_self ..))) fun x hx=>hl x (List.mem_cons_of_mem _ hx)
theorem Asn {C:E5} (hS:∀a∈C.ags,1<=a.se/\a.se<=2):∀{L:List (I5×Nat)} {b:Gt},Sr C b->(∀x∈L,Lo x.1/\EvF x.1 x.2)->∀{k:Nat} {s:Er} {F:Nat},b.sess[k]? = some s->Amz s F->∃s',(Qu b (L.map Prod.fst)).sess[k]? = some s'/\Amz s' (F+FW k L)
 | [],b,_,_,k,s,F,hs,h=>⟨s,hs,h⟩
 | x::L,b,hI,hL,k,s,F,hs,h=>by
  obtain⟨h1,h2⟩:=hL x (List.mem_cons_self ..)
  obtain⟨s1,g1,g2⟩:=A10 hI.br h1 h2 hs h
  obtain⟨s2,g3,g4⟩:=Asn hS (L:=L) (hI.step hS h1) (fun y hy=>hL y (List.mem_cons_of_mem _ hy)) g1 g2
  refine⟨s2,g3,?_⟩
  rwa[show F+(if x.1.se=k then x.2 else 0)+FW k L=F+FW k (x::L) by simp only[FW,List.map_cons,List.sum_cons];omega] at g4
def Qt (n:Nat) (s:Er):Prop:=s.op=false\/Drn n s.st
def Akq (s:Er):Prop:=s.op=false\/(Drn 0 s.st/\s.dr=false)
def Kb:I5:=⟨6,0,0,0,[]⟩
theorem Kk:Lo Kb:=Hr rfl
theorem Az3 (hb:Qa b) {k n:Nat} (hs:b.sess[k]? = some s) (h:Qt (n+1) s):∃s',(Mo b Kb).1.sess[k]? = some s'/\Qt n s'/\(s'.op=false\/s'.dr=false):=by
 have hq:=Gc b Kb hb Kk
 rw[<- K5 hb Kk] at hq
 generalize Mo b Kb=D at hq ⊢
 obtain⟨_,_,_,l,S,hl,hTk,_⟩:=hq.tick rfl
 obtain⟨y,p,hy,_,hT⟩:=hTk k s (Ab.1 hs).1 hs
 refine⟨y,hy,?_⟩
 cases ho:s.op
 ·have e1:y=s:=congrArg Prod.fst (hT.1 ho)
  rw[e1]
  exact⟨.inl ho,.inl ho⟩
 obtain⟨d,hd,e1⟩:=hT.2 ho
 have e1:y=⟨true,false,d.1⟩:=congrArg Prod.fst e1
 rcases h with h | h
 ·rw[ho] at h;cases h
 rw[e1]
 exact⟨.inr (h.take hd),.inr rfl⟩
theorem Aw3 {C:E5} (hS:∀a∈C.ags,1<=a.se/\a.se<=2):∀(n:Nat) {b:Gt},Sr C b->∀{k m:Nat} {s:Er},b.sess[k]? = some s->Qt (m+n) s->(s.op=false\/s.dr=false\/0<n)->∃s',(Qu b (List.replicate n Kb)).sess[k]? = some s'/\Qt m s'/\(s'.op=false\/s'.dr=false)
 | 0,b,_,k,m,s,hs,h,hd=>⟨s,hs,h,by rcases hd with h | h | h;exact .inl h;exact .inr h;exact absurd h (Nat.lt_irrefl 0)⟩
 | n+1,b,hI,k,m,s,hs,h,_=>by
  obtain⟨s1,g1,g2,g3⟩:=Az3 hI.br hs h
  rw[List.replicate_succ,Rd]
  exact Aw3 hS n (hI.step hS Kk) g1 g2 (by rcases g3 with g | g;exact .inl g;exact .inr (.inl g))
theorem Amz.qt {F:Nat} (h:Amz s F) (hF:F<=48):Qt 8 s:=by
 rcases h with h | ⟨F',T,t,ps,h1,h2⟩
 ·exact .inl h
 exact .inr (.inl ⟨t,ps,h2.st,h2.few (by omega)⟩)
theorem As6 (g:Bool):Drn 0 ⟨[],g⟩:=.inl ⟨[],[],(Vb.nil g).st,by rw[Z0];exact Aj _⟩
end
section
def Uw (l:List Fs):List E8:=(l.filter fun p=>p.op).flatMap Fs.items
theorem Aa6 (l m:List Fs):Uw (l++m)=Uw l++Uw m:=by simp[Uw]
variable {p:Fs}
theorem Ajk (h:p.op=false):Uw [p]=[]:=by simp[Uw,h]
theorem Ajl (h:p.op=true):Uw [p]=p.items:=by simp[Uw,h]
variable {cfg:E5} {e:List F3} {s:List Int}
theorem ItR.few {ses now:Int} {x y:Dy} {l:List E8} {r:List Ea} (h:ItR cfg ses now x l y r e s):(l=[]->y=x)/\∀t,l=[t]->∃d,HdR cfg x ses t now d/\y=d.1:=by
 induction h with
 | nil=>exact⟨fun _=>rfl,fun t h=>by cases h⟩
 | @app l y z r e s t m n k h1 h2 ih =>
  refine⟨fun h=>by simp at h,fun t' h=>?_⟩
  have hl:l=[]:=by
   have:=congrArg List.length h
   simp at this
   exact this
  subst hl
  have ht:t=t':=by simpa using h
  subst ht
  have:=ih.1 rfl
  subst this
  exact⟨_,h2,rfl⟩
variable {now:Int} {l:List Fs}
theorem Zr.few {x y:Dy} {r:List (List Ea)} (h:Zr cfg now x l y r e s):(Uw l=[]->y=x)/\∀t,Uw l=[t]->∃ses d,HdR cfg x ses t now d/\y=d.1:=by
 induction h with
 | nil=>exact⟨fun _=>rfl,fun t h=>by cases h⟩
 | closed h1 h2 ih=>rw[Aa6,Ajk h2,List.append_nil];exact ih
 | opened h1 h2 h3 ih =>
  have h4:=h3.few
  rw[Aa6,Ajl h2]
  refine⟨fun h=>?_,fun t h=>?_⟩
  ·obtain⟨a,b⟩:=List.append_eq_nil_iff.1 h
   rw[h4.1 b,ih.1 a]
  rcases List.append_eq_singleton_iff.1 h with⟨a,b⟩ | ⟨a,b⟩
  ·have e0:=ih.1 a
   obtain⟨d,hd,e1⟩:=h4.2 t b
   rw[e0] at hd
   exact⟨_,d,hd,e1⟩
  have e0:=h4.1 b
  obtain⟨ses,d,hd,e1⟩:=ih.2 t a
  exact⟨ses,d,hd,by rw[e0,e1]⟩
def Ath (x:Dy) (now:Int) (z:Dy):Prop:=z.reg=x.reg/\z.draws=x.draws/\∃h1 h2,z.reqs=Ih x.reqs now h1 h2
variable {x:Dy} {D:Dy×List (List Ea)×List F3×List Int}
theorem Wl.none (h:Wl cfg x l now D) (ht:Uw (l.take x.aud.length)=[]):Ath x now D.1:=by
 obtain⟨b,y,r,h1,h2,_,_,hS,e,_⟩:=h
 have:=hS.few.1 ht
 subst this
 rw[e]
 exact⟨rfl,rfl,h1,h2,rfl⟩
theorem Wl.one {t:E8} (h:Wl cfg x l now D) (ht:Uw (l.take x.aud.length)=[t]):Ath x now D.1\/∃b m y sl,OkR ⟨x.reg,x.reqs,x.draws,b⟩ t now m y sl:=by
 obtain⟨b,y,r,h1,h2,_,_,hS,e,_⟩:=h
 obtain⟨ses,d,⟨hd,hp,e0⟩,e1⟩:=hS.few.2 t ht
 have hq:=(Kz cfg ⟨x.reg,x.reqs,x.draws,b⟩ ses t now hd hp).2
 rw[e0] at hq
 obtain⟨E,hE,e2,_⟩:=hq
 cases hE with
 | bad _ _ =>
  have:y=⟨x.reg,x.reqs,x.draws,b⟩:=e1.trans e2
  subst this
  rw[e]
  exact .inl ⟨rfl,rfl,h1,h2,rfl⟩
 | reg h _ _ | ask h _ _ _ | asked h _ _ _ | no h _ | aud h _ _ _ | reset h _ _ | tell h _ _ _=>exact .inr ⟨b,_,_,_,h⟩
theorem Agj (h:∀p∈l,p.items=[]):Uw l=[]:=by
 unfold Uw
 rw[List.flatMap_eq_nil_iff]
 exact fun p hp=>h p (Bn.1 hp).1
theorem An3 {its:List E8}:∀{l:List Fs} {j:Nat},(∀(i:Nat) (p:Fs),l[i]? = some p->(i≠j->p.items=[])/\(i=j->p.items=its))->Uw l=[]\/Uw l=its
 | [],j,_=>.inl rfl
 | p::l,0,h=>by
  have h0:=(h 0 p rfl).2 rfl
  have h1:Uw l=[]:=Agj fun q hq=>by
   obtain⟨i,hi⟩:=A3.1 hq
   exact (h (i+1) q hi).1 (by omega)
  rw[show p::l=[p]++l from rfl,Aa6,h1,List.append_nil]
  cases ho:p.op
  ·exact .inl (Ajk ho)
  rw[Ajl ho];exact .inr h0
 | p::l,j+1,h=>by
  have h0:p.items=[]:=(h 0 p rfl).1 (by omega)
  rw[show p::l=[p]++l from rfl,Aa6,show Uw [p]=[] from Agj fun q hq=>by rw[An.1 hq];exact h0,List.nil_append]
  exact An3 (j:=j) fun i q hi=>⟨fun hn=>(h (i+1) q hi).1 (by omega),fun he=>(h (i+1) q hi).2 (by omega)⟩
theorem Apa {α:Type} {l:List α} {n i:Nat} {p:α} (h:(l.take n)[i]? = some p):l[i]? = some p:=by
 rw[List.getElem?_take] at h
 split at h
 ·exact h
 cases h
theorem As0 {b n i:Nat} (h:(P6 l b n)[i]? = some p):i<n/\p=(l[b+i]?).getD ⟨false,[]⟩:=by
 have hi:i<n:=by
  have:=(Ab.1 h).1
  rwa[Ag8] at this
 rw[Ast hi] at h
 exact⟨hi,by injection h with h;exact h.symm⟩
theorem A16 {l m:List Fs} {b n:Nat} (h:∀j,j<n->l[b+j]? = m[b+j]?):P6 l b n=P6 m b n:=by
 unfold P6
 exact List.map_congr_left fun j hj=>by rw[h j (List.mem_range.1 hj)]
variable {m:Ea}
theorem OkR.chk {it:E8} {now sl:Int} {y:Dy} (h:OkR x it now m y sl):Ar4 x.reg.toks x.reg.num m.tok now sl:=by
 obtain⟨h1,h2,r,h3,_⟩:=h.op
 have hq:=(M3 x.reg m now h1 h2).1
 rw[h3] at hq
 exact (hq rfl).2.2
theorem MkX.ok (h:MkX m) {s:F5} (hs:Rg m.kind=some s):Ol m:=by
 have q:=(Gm m.kind).2.1 s hs
 have hb:=X4 hs
 obtain⟨p1,p2,p3⟩:=h.pl hs
 exact⟨by rw[q],by rw[q,h.tl,hb.2.2.1];rfl,.inr (by rw[q,h.dat,hb.2.2.2.1];rfl),by rw[q];exact p2,by rw[h.dat];exact Ae _,p1,by rw[q];exact Ak p3.l2 (by decide)⟩
theorem MkX.dec (h:MkX m) {s:F5} (hs:Rg m.kind=some s) {h0:(m.tok++msArgs s m.args++m.data).length<=1000000}:Fd m.kind (m.tok++msArgs s m.args++m.data) h0=(m,0):=by
 have q:=(Gm m.kind).2.1 s hs
 exact (Pm m.kind _ h0).2 m rfl (h.ok hs) (by rw[q,List.append_assoc])
theorem Aqn {k:Int} {p:List Int} {e:Nd×List E8} (hk:1<=k/\k<=22) (hp:p.length<=200) (h:TkR 4 ⟨Gn k p,false⟩ e):e.2=[⟨0,k,p⟩]:=by
 obtain⟨u,h1,_⟩:=h
 have e1:=Aj3 (L:=[(k,p)]) fun x hx=>by rw[An.1 hx];exact⟨hk,hp⟩
 simp only[List.map_cons,List.map_nil,List.flatten_cons,List.flatten_nil,List.append_nil] at e1
 have e2:Kv (⟨Gn k p,false⟩:Nd).buf=[(⟨0,k,p⟩,(p.length:Int)+10)]:=e1
 rw[e2,N6,if_neg (by simp),if_neg (by simp),N6] at h1
 have h2:=congrArg (fun z=>z.2.2) h1
 exact h2.symm
theorem Aj1 {s y:Er} (h:Akq s) (ht:Ayu s (y,p)):p=⟨s.op,[]⟩:=by
 cases ho:s.op
 ·exact congrArg Prod.snd (ht.1 ho)
 obtain⟨d,hd,e1⟩:=ht.2 ho
 rcases h with h | ⟨h1,h2⟩
 ·rw[ho] at h;cases h
 have e2:p=⟨true,(if s.dr then [⟨15,0,[]⟩] else [])++d.2⟩:=congrArg Prod.snd e1
 rw[e2,h2,h1.nil hd]
 rfl
def A5l (p q:Dy):Prop:=p.reg=q.reg/\p.reqs=q.reqs/\p.draws=q.draws
def A1o (l:List Fq) (k:Nat) (tok:List Int) (now:Int):Prop:=∃(j:Nat) (t:Fq),l[j]? = some t/\t.used=true/\sB tok=sB (IntKind.u8.wrap k::IntKind.u8.wrap j::t.sec)/\(t.unt=0\/now<=t.unt)
variable {k:Nat}
theorem Ar4.held {l:List Fq} {tok:List Int} {now sl:Int} (h:Ar4 l k tok now sl) (hb:By tok):A1o l k tok now:=by
 obtain⟨t,x,y,r,h1,h2,h3,h4,h5,h6,h7⟩:=h
 have hx:=hb x (by rw[h3];simp)
 have hy:=hb y (by rw[h3];simp)
 rw[Dx x] at h4
 rw[Dx y] at h5
 refine⟨sl.toNat,t,h1,h2,?_,?_⟩
 ·rw[h3,Ul (by omega),Ul (by omega),<- h4,<- h5,show ((y.toNat:Nat):Int)=y by omega]
  unfold sB at h6 ⊢
  rw[List.map_cons,List.map_cons,h6]
  rfl
 unfold Yi at h7
 simp at h7
 omega
theorem Akk {b:Gt} {D:Gt} {S:Wm} (hT:A2v b.city l (D.city,S)) {a:G2} {d p:Dy} (hd:b.city.desks[k]? = some d) (ha:b.city.cfg.ags[k]? = some a) (hp:D.city.desks[k]? = some p):∃hb r e s,DtR b.city.cfg (Et d D.city.now hb) (P6 l (Eg b.city.cfg.ags k).toNat (Ee a).toNat) D.city.now (p,r,e,s):=by
 obtain⟨rp,en,⟨ens,_,_,hA⟩,_,_⟩:=hT
 obtain⟨x,r,e,s,k1,_,_,hb,k4⟩:=(hA k d a hd ha).1 (Ab.1 hd).1
 have k1:D.city.desks[k]? = some x:=k1
 rw[hp] at k1
 injection k1 with k1
 subst k1
 exact⟨hb,r,e,s,k4⟩
theorem Auz {C:E5} (hS:∀a∈C.ags,1<=a.se/\a.se<=2) {b:Gt} (hI:Sr C b) (hQ:∀(k:Nat) (s:Er),b.sess[k]? = some s->Akq s) {si:Nat} (hs:b.sess[si]? = some ⟨true,false,⟨[],false⟩⟩) (hm:MkX m) {d:List Int} (hd:FrQ m d) (hde:Lo ⟨3,si,0,0,d⟩) {p q:Dy} (hp:(Mo b Kb).1.city.desks[k]? = some p) (hq:(Mo (Mo b ⟨3,si,0,0,d⟩).1 Kb).1.city.desks[k]? = some q):A5l p q\/((k:Int)=Sn C.ags 0 si/\A1o p.reg.toks k m.tok (Mo (Mo b ⟨3,si,0,0,d⟩).1 Kb).1.city.now):=by
 obtain⟨s,hsh,hso⟩:=hm.sh
 have hb:=X4 hsh
 have hpl:=hm.pl hsh
 have hdP:=A1j hm hd
 have hX:=Gc b Kb hI.br Kk
 rw[<- K5 hI.br Kk] at hX
 have hF:=Gc b ⟨3,si,0,0,d⟩ hI.br hde
 rw[<- K5 hI.br hde] at hF
 have hf:=hF.few (by show (3:Int)<=3;decide)
 have hFi:=hF.i
 rw[hf] at hq hFi ⊢
 have hdl:d.length<=32:=by
  rcases hdP with h | h
  ·rw[h];exact Ae _
  exact h.l2
 have hses:Td b.sess ⟨3,si,0,0,d⟩=b.sess.set si ⟨true,false,⟨d,false⟩⟩:=by
  have hse:=hI.br.ses _ (Ac hs)
  have e1:((si:Int)).toNat=si:=by omega
  rw[Sc (s:=⟨true,false,⟨[],false⟩⟩) (by show (0:Int)<=si;omega) (by show b.sess[((si:Int)).toNat]? = _;rw[e1];exact hs),Aqq hse hde.1 rfl]
  obtain⟨f,hf1,hf2⟩:=(Xw ⟨true,false,⟨[],false⟩⟩ d hse.1 hde.1).2.2.2 rfl
  have hf3:f=false:=by
   cases f
   ·rfl
   rcases hf2 rfl with h | h
   ·cases h
   simp at h;omega
  have e2:Je ⟨true,false,⟨[],false⟩⟩ (⟨3,si,0,0,d⟩:I5).bytes hse.1 hde.1=⟨true,false,⟨d,false⟩⟩:=by
   rw[hf1,hf3,List.nil_append,Bf (by omega)]
  rw[e2]
  show b.sess.set ((si:Int)).toNat _=_
  rw[e1]
 have hf0:(⟨b.city,Td b.sess ⟨3,si,0,0,d⟩⟩:Gt)=⟨b.city,b.sess.set si ⟨true,false,⟨d,false⟩⟩⟩:=by rw[hses]
 rw[hf0] at hFi
 dsimp only at hq ⊢
 rw[hf0] at hq ⊢
 have hZ:=Gc _ Kb hFi Kk
 rw[<- K5 hFi Kk] at hZ
 generalize Mo b Kb=X at hX hp
 generalize Mo ⟨b.city,b.sess.set si ⟨true,false,⟨d,false⟩⟩⟩ Kb=Z at hZ hq ⊢
 obtain⟨_,_,xn,lx,Sx,hlx,hTx,hCx,_⟩:=hX.tick rfl
 obtain⟨_,_,zn,lz,Sz,hlz,hTz,hCz,_⟩:=hZ.tick rfl
 have hnow:Z.1.city.now=X.1.city.now:=by
  have xn:X.1.city.now=_:=xn
  have zn:Z.1.city.now=_:=zn
  rw[xn,zn]
 have hlz:lz.length=b.sess.length:=by
  have hlz:lz.length=(b.sess.set si ⟨true,false,⟨d,false⟩⟩).length:=hlz
  rwa[List.length_set] at hlz
 have hX1:∀(i:Nat) (s:Er),b.sess[i]? = some s->lx[i]? = some ⟨s.op,[]⟩:=fun i s hi=>by
  obtain⟨y,p,_,h2,h3⟩:=hTx i s (Ab.1 hi).1 hi
  rw[h2,Aj1 (hQ i s hi) h3]
 have hZ1:∀(i:Nat) (s:Er),i≠si->b.sess[i]? = some s->lz[i]? = some ⟨s.op,[]⟩:=fun i s hn hi=>by
  obtain⟨y,p,_,h2,h3⟩:=hTz i s (by show i<(b.sess.set si _).length;rw[List.length_set];exact (Ab.1 hi).1) (by show (b.sess.set si _)[i]? = _;rw[A9 (Ne.symm hn)];exact hi)
  rw[h2,Aj1 (hQ i s hi) h3]
 have heq:∀i,i≠si->lz[i]? = lx[i]?:=fun i hn=>by
  by_cases hi:i<b.sess.length
  ·rw[hX1 i _ (Aa hi),hZ1 i _ hn (Aa hi)]
  rw[Ar (by omega),Ar (by omega)]
 have hsl:=(Ab.1 hs).1
 have hX0:∀(i:Nat) (p:Fs),lx[i]? = some p->p.items=[]:=fun i p hi=>by
  have hil:i<b.sess.length:=by rw[<- hlx];exact (Ab.1 hi).1
  rw[hX1 i _ (Aa hil)] at hi
  injection hi with hi
  rw[<- hi]
 obtain⟨its,hits,hits2⟩:∃its,(∀p,lz[si]? = some p->p.items=its)/\(its=[]\/its=[⟨0,m.kind,m.tok++msArgs s m.args++m.data⟩]):=by
  obtain⟨y,p,_,h2,h3⟩:=hTz si _ (by show si<(b.sess.set si _).length;rw[List.length_set];exact hsl) (Bg hsl)
  obtain⟨E,hE,e1⟩:=h3.2 rfl
  have e2:p=⟨true,[]++E.2⟩:=congrArg Prod.snd e1
  have h2:lz[si]? = some p:=h2
  refine⟨E.2,fun p' hp'=>by rw[h2] at hp';injection hp' with hp';rw[<- hp',e2];rfl,?_⟩
  rcases hd s hsh hpl.1 (by have:=hm.al;omega) hso with h | h
  ·left
   have hE:TkR 4 ⟨d,false⟩ E:=hE
   rw[h] at hE
   exact (As6 false).nil hE
  right
  have hE:TkR 4 ⟨d,false⟩ E:=hE
  rw[h] at hE
  exact Aqn ⟨hb.1,by omega⟩ (by have:=hpl.2.2.l2;omega) hE
 have hkC:k<C.ags.length:=by
  have h1:=(Ab.1 hp).1
  have h2:=hX.i.city.desks
  rw[hX.cfg,hI.cfg] at h2
  omega
 have hkd:k<b.city.desks.length:=by
  have h2:=hI.br.city.desks
  rw[hI.cfg] at h2
  omega
 have ha:C.ags[k]? = some C.ags[k]:=Aa hkC
 have hd0:b.city.desks[k]? = some b.city.desks[k]:=Aa hkd
 have hAd:=hI.all k _ hd0
 generalize b.city.desks[k]=d0 at hd0 hAd
 generalize C.ags[k]=a at ha
 obtain⟨xb,xr,xe,xs,hDx⟩:=Akk (b:=b) (D:=X.1) hCx hd0 (by rw[hI.cfg];exact ha) hp
 obtain⟨zb,zr,ze,zs,hDz⟩:=Akk (b:=⟨b.city,b.sess.set si ⟨true,false,⟨d,false⟩⟩⟩) (D:=Z.1) hCz hd0 (by show b.city.cfg.ags[k]? = _;rw[hI.cfg];exact ha) hq
 rw[hnow] at hDz ⊢
 have hDz:DtR b.city.cfg (Et d0 X.1.city.now xb) (P6 lz (Eg b.city.cfg.ags k).toNat (Ee a).toNat) X.1.city.now (q,zr,ze,zs):=hDz
 have hnum:(Et d0 X.1.city.now xb).reg.num=k:=by
  rw[(Oe d0 X.1.city.now xb).2.1,(Ku d0.reg X.1.city.now xb.reg).2.1.1]
  exact hAd.num
 rw[hI.cfg] at hDx hDz
 generalize Et d0 X.1.city.now xb=B at hDx hDz hnum
 generalize X.1.city.now=N at hDx hDz ⊢
 by_cases hr:(Eg C.ags k).toNat<=si/\si<(Eg C.ags k).toNat+(Ee a).toNat
 ·obtain⟨x1,x2,x3,x4,hDx⟩:=hDx
  obtain⟨z1,z2,z3,z4,hDz⟩:=hDz
  have hTX:=(Nm C B (P6 lx (Eg C.ags k).toNat (Ee a).toNat) N x1 x2 x3 x4).2
  have hTZ:=(Nm C B (P6 lz (Eg C.ags k).toNat (Ee a).toNat) N z1 z2 z3 z4).2
  rw[hDx] at hTX
  rw[hDz] at hTZ
  have hIx:Ath B N p:=hTX.none (Agj fun w hw=>by
   obtain⟨i,hi⟩:=A3.1 hw
   obtain⟨_,e⟩:=As0 (Apa hi)
   cases hg:lx[(Eg C.ags k).toNat+i]? with
   | none=>rw[hg] at e;rw[e];rfl
   | some u=>rw[hg] at e;rw[e];exact hX0 _ u hg)
  have htz:=An3 (its:=its) (l:=(P6 lz (Eg C.ags k).toNat (Ee a).toNat).take B.aud.length) (j:=si - (Eg C.ags k).toNat) fun i w hi=>by
   obtain⟨h1,e⟩:=As0 (Apa hi)
   refine⟨fun hn=>?_,fun he=>?_⟩
   ·cases hg:lz[(Eg C.ags k).toNat+i]? with
    | none=>rw[hg] at e;rw[e];rfl
    | some u =>
     rw[hg] at e
     rw[e]
     rw[heq _ (by omega)] at hg
     exact hX0 _ u hg
   rw[show (Eg C.ags k).toNat+i=si by omega] at e
   cases hg:lz[si]? with
   | none=>rw[List.getElem?_eq_none_iff] at hg;omega
   | some u=>rw[hg] at e;rw[e];exact hits u hg
  have same:Ath B N q->A5l p q:=fun h=>by
   obtain⟨a1,a2,a3,a4,a5⟩:=hIx
   obtain⟨b1,b2,b3,b4,b5⟩:=h
   exact⟨a1.trans b1.symm,a5.trans b5.symm,a2.trans b2.symm⟩
  have hten:Uw ((P6 lz (Eg C.ags k).toNat (Ee a).toNat).take B.aud.length)=[]\/Uw ((P6 lz (Eg C.ags k).toNat (Ee a).toNat).take B.aud.length)=[⟨0,m.kind,m.tok++msArgs s m.args++m.data⟩]:=by
   rcases htz with h | h
   ·exact .inl h
   rcases hits2 with h2 | h2
   ·exact .inl (h.trans h2)
   exact .inr (h.trans h2)
  rcases hten with ht | ht
  ·exact .inl (same (hTZ.none ht))
  rcases hTZ.one ht with h | ⟨au,m',y,sl,hO⟩
  ·exact .inl (same h)
  refine .inr ⟨?_,?_⟩
  ·have:=Afp 0 hS ha (j:=si - (Eg C.ags k).toNat) (by omega)
   have h0:=(Iq C.ags k).1
   rw[show Eg C.ags k+((si - (Eg C.ags k).toNat:Nat):Int)=si by omega] at this
   omega
  have hmm:m'=m:=by
   obtain⟨h0,hdec⟩:=hO.dec
   rw[hm.dec hsh] at hdec
   injection hdec with e1 _
   exact e1.symm
  have hch:=hO.chk
  rw[hmm] at hch
  have hch:Ar4 B.reg.toks B.reg.num m.tok N sl:=hch
  rw[hnum] at hch
  obtain⟨a1,_⟩:=hIx
  rw[a1]
  exact hch.held hm.tb
 left
 rw[A16 (l:=lz) (m:=lx) fun j hj=>heq _ (by omega)] at hDz
 obtain⟨x1,x2,x3,x4,hDx⟩:=hDx
 obtain⟨z1,z2,z3,z4,hDz⟩:=hDz
 have e:(p,xr,xe,xs)=(q,zr,ze,zs):=hDx.symm.trans hDz
 have e:p=q:=congrArg Prod.fst e
 rw[e]
 exact⟨rfl,rfl,rfl⟩
end
theorem hY8 (x:Int):Ac6 [T.lit (.int .u8 x)]=true:=rfl
theorem U4:Atp Tryz.prog 216 2=true:=by kernel_rfl
theorem Amb:Atp Tryz.prog 64 3=true:=by kernel_rfl
theorem Mn:Atp Tryz.prog 166 5=true:=by kernel_rfl
section
variable (a:List Fq) (b:List Fq) (ha:a.length<=1000000) (hb:b.length<=1000000)
include ha hb
theorem Jm:Ct 70 [.mTok a,.mTok b] (fun d:Bool=>.lit (.bool d)) (fun d=>a=b->d=true):=by
 refine Ex Tryz.func70 ?_
 refine Bq<|.seq ?_
 refine Bq ?_
 refine Br ?_ ?_<;>intro h12
 ·refine Bq ?_
  exact .ret (fin Dz false (fun e=>by subst e;exfalso;simp_all))
 refine Bp<|.seq<|.R<|.block ?_
 refine Bs a.length (fun i1 (y1:Unit)=>⟨[(1,.mTok b),(13,.mTok a),(14,.lit (.int .i64 a.length)),(15,.lit (.int .i64 i1))],[]⟩) (fun i1 y1=>True) () (wk Dz []) (trivial) fun i1 y1 hi1 hy1=>?_
 refine Bq<|.seq ?_
 refine Br ?_ ?_<;>intro h16
 ·refine Bp<|.seq<|.block ?_
  obtain⟨e1,H1⟩:=gx a i1
  refine Bt H1 ?_
  obtain⟨e2,H2⟩:=gx b i1
  refine Bt (Hq hY8 H1 H2) ?_
  refine Bt (Hq hY8 H1 H2) ?_
  refine Br ?_ ?_<;>intro h65
  ·refine Bt (Hq hY8 H1 H2) ?_
   exact .ret (fin (Hq hY8 H1 H2) false (fun e=>by subst e;exfalso;simp_all))
  refine Bp<|.H1 (Hq hY8 H1 H2) ?_
  exact⟨by omega,(),trivial,wk (Hq (Dx ((i1:Int)+1)) H1 H2) []⟩
 refine Bu<|.R ?_
 exact .ret (fin Dz true (fun _=>rfl))
def Mm:Bool:=(Ep (Jm a b ha hb)).choose
theorem Tx:PP 70 [] [.mTok a,.mTok b] [] (.lit (.bool (Mm a b ha hb))):=(Ep (Jm a b ha hb)).choose_spec.1
theorem T7:a=b->(Mm a b ha hb)=true:=(Ep (Jm a b ha hb)).choose_spec.2
end
section
variable (a:List G6) (b:List G6) (ha:a.length<=1000000) (hb:b.length<=1000000)
include ha hb
theorem Jl:Ct 71 [.mVeh a,.mVeh b] (fun d:Bool=>.lit (.bool d)) (fun d=>a=b->d=true):=by
 refine Ex Tryz.func71 ?_
 refine Bt U4<|.seq ?_
 refine Bt U4 ?_
 refine Br ?_ ?_<;>intro h11
 ·refine Bt U4 ?_
  exact .ret (fin U4 false (fun e=>by subst e;exfalso;simp_all))
 refine Bp<|.seq<|.H U4<|.block ?_
 refine Bs a.length (fun i1 (y1:Unit)=>⟨[(1,.mVeh b),(12,.mVeh a),(13,.lit (.int .i64 a.length)),(14,.lit (.int .i64 i1))],[]⟩) (fun i1 y1=>True) () (wk Dz []) (trivial) fun i1 y1 hi1 hy1=>?_
 refine Bt U4<|.seq ?_
 refine Br ?_ ?_<;>intro h15
 ·refine Bp<|.seq<|.block ?_
  obtain⟨e1,H1⟩:=gx a i1
  refine Bt (Fa U4 H1) ?_
  obtain⟨e2,H2⟩:=gx b i1
  refine C3 (Hq U4 H1 H2) ?_
  refine Br ?_ ?_<;>intro h24
  ·refine Bt (Hq U4 H1 H2) ?_
   exact .ret (fin (Hq U4 H1 H2) false (fun e=>by subst e;exfalso;simp_all))
  refine Bp<|.H1 (Hq U4 H1 H2) ?_
  exact⟨by omega,(),trivial,wk (Hq (Dx ((i1:Int)+1)) H1 H2) []⟩
 refine Bu<|.H U4 ?_
 exact .ret (fin U4 true (fun _=>rfl))
def Ml:Bool:=(Ep (Jl a b ha hb)).choose
theorem Tw:PP 71 [] [.mVeh a,.mVeh b] [] (.lit (.bool (Ml a b ha hb))):=(Ep (Jl a b ha hb)).choose_spec.1
theorem T6:a=b->(Ml a b ha hb)=true:=(Ep (Jl a b ha hb)).choose_spec.2
end
section
variable (a:G2) (b:G2) (ha:a.sec.length<=1000000/\a.lims.length<=1000000) (hb:b.sec.length<=1000000/\b.lims.length<=1000000)
include ha hb
theorem H0:Ct 69 [a.g,b.g] (fun d:Bool=>.lit (.bool d)) (fun d=>a=b->d=true):=by
 refine Ex Tryz.func69 ?_
 refine Bq<|.seq ?_
 refine Bq ?_
 refine Br ?_ ?_<;>intro h13
 ·refine Bq ?_
  exact .ret (fin Dz false (fun e=>by subst e;exfalso;simp_all))
 refine Bp<|.seq<|.R<|.block ?_
 refine Bs a.lims.length (fun i1 (y1:Unit)=>⟨[(2,.ptr 0 0),(3,.ptr 1 0),(15,.mI a.lims),(16,.lit (.int .i64 a.lims.length)),(17,.lit (.int .i64 i1))],[.box 60 (a.a false),.box 60 (b.a false)]⟩) (fun i1 y1=>True) () (wk Dz [0,1]) (trivial) fun i1 y1 hi1 hy1=>?_
 refine Bq<|.seq ?_
 refine Br ?_ ?_<;>intro h18
 ·refine Bp<|.seq<|.block ?_
  obtain⟨e1,H1⟩:=gx a.lims i1
  refine Bt H1 ?_
  obtain⟨e2,H2⟩:=gx b.lims i1
  refine Bt (Fa H1 H2) ?_
  refine Br ?_ ?_<;>intro h28
  ·refine Bt (Fa H1 H2) ?_
   exact .ret (fin (Fa H1 H2) false (fun e=>by subst e;exfalso;simp_all))
  refine Bp<|.H1 (Fa H1 H2) ?_
  exact⟨by omega,(),trivial,wk (Hq (Dx ((i1:Int)+1)) H1 H2) [0,1]⟩
 refine Bu<|.H hY8 ?_
 refine Bz (Fj ?_);simp[go_sem,hY8]
 exact⟨_,by first | rfl | simp[go_sem],(fun e=>by subst e;simp)⟩
def J2:Bool:=(Ep (H0 a b ha hb)).choose
theorem Pa:PP 69 [] [a.g,b.g] [] (.lit (.bool (J2 a b ha hb))):=(Ep (H0 a b ha hb)).choose_spec.1
theorem Pk:a=b->(J2 a b ha hb)=true:=(Ep (H0 a b ha hb)).choose_spec.2
end
section
variable (a:Jg) (b:Jg) (ha:a.ag.sec.length<=1000000/\a.ag.lims.length<=1000000) (hb:b.ag.sec.length<=1000000/\b.ag.lims.length<=1000000) (ha1:a.toks.length<=1000000) (hb1:b.toks.length<=1000000) (ha2:a.vehs.length<=1000000) (hb2:b.vehs.length<=1000000)
include ha hb ha1 hb1 ha2 hb2
theorem Jk:Ct 47 [a.g,b.g] (fun d:Bool=>.lit (.bool d)) (fun d=>a=b->d=true):=by
 refine Ex Tryz.func47 ?_
 refine Bt Amb ?_
 refine B7 (by rfl) fun K1 hK1=>?_
 simp[go_sem,Amb]
 refine Pv ?_
 simp[go_sem,Amb]
 first | refine .lo (Pa a.ag b.ag (by first | assumption | omega) (by first | assumption | omega)) rfl (by simp[AV.cln,Fu]) ?_ | refine .skip ?_
 simp[go_sem,Amb]
 refine Pv ?_
 simp[go_sem,Amb]
 first | refine .lo (Tx a.toks b.toks (by first | assumption | omega) (by first | assumption | omega)) rfl (by simp[AV.cln,Fu]) ?_ | refine .skip ?_
 simp[go_sem,Amb]
 refine Pv ?_
 simp[go_sem,Amb]
 first | refine .lo (Tw a.vehs b.vehs (by first | assumption | omega) (by first | assumption | omega)) rfl (by simp[AV.cln,Fu]) ?_ | refine .skip ?_
 simp[go_sem,Amb]
 refine hK1 _ ?_;clear hK1
 refine Bz (Fj ?_);simp[go_sem,Amb]
 exact⟨_,by first | rfl | simp[go_sem],(fun e=>by subst e;simp[Pk _ _ _ _ rfl,T7 _ _ _ _ rfl,T6 _ _ _ _ rfl])⟩
def Mk:Bool:=(Ep (Jk a b ha hb ha1 hb1 ha2 hb2)).choose
theorem Tv:PP 47 [] [a.g,b.g] [] (.lit (.bool (Mk a b ha hb ha1 hb1 ha2 hb2))):=(Ep (Jk a b ha hb ha1 hb1 ha2 hb2)).choose_spec.1
theorem Jr:a=b->(Mk a b ha hb ha1 hb1 ha2 hb2)=true:=(Ep (Jk a b ha hb ha1 hb1 ha2 hb2)).choose_spec.2
end
section
variable (a:List Ew) (b:List Ew) (ha:a.length<=1000000/\∀r∈a,r.legs.length<=1000000) (hb:b.length<=1000000/\∀r∈b,r.legs.length<=1000000)
include ha hb
theorem Jj:Ct 48 [.mReq a,.mReq b] (fun d:Bool=>.lit (.bool d)) (fun d=>a=b->d=true):=by
 refine Ex Tryz.func48 ?_
 refine Bt Mn<|.seq ?_
 refine Bt Mn ?_
 refine Br ?_ ?_<;>intro h14
 ·refine Bt Mn ?_
  exact .ret (fin Mn false (fun e=>by subst e;exfalso;simp_all))
 refine Bp<|.seq<|.H Mn<|.block ?_
 refine Bs a.length (fun i1 (y1:Unit)=>⟨[(1,.mReq b),(15,.mReq a),(16,.lit (.int .i64 a.length)),(17,.lit (.int .i64 i1))],[]⟩) (fun i1 y1=>True) () (wk Dz []) (trivial) fun i1 y1 hi1 hy1=>?_
 refine Bt Mn<|.seq ?_
 refine Br ?_ ?_<;>intro h18
 ·refine Bp<|.seq<|.block ?_
  obtain⟨e1,H1⟩:=gx a i1
  refine Bt (Fa Mn H1) ?_
  obtain⟨e2,H2⟩:=gx b i1
  refine Bt (Hq Mn H1 H2)<|.seq ?_
  have hl1:=ha.2 e1 (Ac H1)
  have hl2:=hb.2 e2 (Ac H2)
  refine Bt (Hq Mn H1 H2) ?_
  refine Br ?_ ?_<;>intro h60
  ·refine Bt (Hq Mn H1 H2) ?_
   exact .ret (fin (Hq Mn H1 H2) false (fun e=>by subst e;exfalso;simp_all))
  refine Bp<|.H (Hq Mn H1 H2)<|.block ?_
  refine Bs e1.legs.length (fun i2 (y2:Unit)=>⟨[(1,.mReq b),(7,.ptr 0 0),(15,.mReq a),(16,.lit (.int .i64 a.length)),(17,.lit (.int .i64 i1)),(62,.mLeg e1.legs),(63,.lit (.int .i64 e1.legs.length)),(64,.lit (.int .i64 i2))],[.box 164 (e2.a false)]⟩) (fun i2 y2=>True) () (wk (Fa H1 H2) [1]) (trivial) fun i2 y2 hi2 hy2=>?_
  refine Bt (Hq Mn H1 H2)<|.seq ?_
  refine Br ?_ ?_<;>intro h65
  ·refine Bp<|.seq<|.block ?_
   obtain⟨e3,H3⟩:=gx e1.legs i2
   refine Bt (Tf Mn H1 H2 H3) ?_
   obtain⟨e4,H4⟩:=gx e2.legs i2
   refine C3 (X9 Mn H1 H2 H3 H4) ?_
   refine Br ?_ ?_<;>intro h75
   ·refine Bt (X9 Mn H1 H2 H3 H4) ?_
    exact .ret (fin (X9 Mn H1 H2 H3 H4) false (fun e=>by subst e;exfalso;simp_all))
   refine Bp<|.H1 (X9 Mn H1 H2 H3 H4) ?_
   exact⟨by omega,(),trivial,wk (X9 (Dx ((i2:Int)+1)) H1 H2 H3 H4) [0]⟩
  refine Bu<|.H1 (Hq Mn H1 H2) ?_
  exact⟨by omega,(),trivial,wk (Hq (Dx ((i1:Int)+1)) H1 H2) []⟩
 refine Bu<|.H Mn ?_
 exact .ret (fin Mn true (fun _=>rfl))
def Mj:Bool:=(Ep (Jj a b ha hb)).choose
theorem Tu:PP 48 [] [.mReq a,.mReq b] [] (.lit (.bool (Mj a b ha hb))):=(Ep (Jj a b ha hb)).choose_spec.1
theorem Jq:a=b->(Mj a b ha hb)=true:=(Ep (Jj a b ha hb)).choose_spec.2
end
section
variable (a:Dy) (b:Dy) (ha:L8 a) (hb:L8 b)
include ha hb
theorem Ji:Ct 19 [a.g,b.g] (fun d:Bool=>.lit (.bool d)) (fun d=>a=b->d=true):=by
 refine Ex Tryz.func19 ?_
 refine Bq<|.seq ?_
 have qa1:a.reg.ag.sec.length<=1000000/\a.reg.ag.lims.length<=1000000:=⟨ha.reg.sec,ha.reg.lims⟩
 have qb1:b.reg.ag.sec.length<=1000000/\b.reg.ag.lims.length<=1000000:=⟨hb.reg.sec,hb.reg.lims⟩
 have qa2:=ha.reg.toks
 have qb2:=hb.reg.toks
 have qa3:=ha.reg.vehs
 have qb3:=hb.reg.vehs
 have qa4:a.reqs.length<=1000000/\∀r∈a.reqs,r.legs.length<=1000000:=⟨Ak ha.reqs (by decide),ha.legs⟩
 have qb4:b.reqs.length<=1000000/\∀r∈b.reqs,r.legs.length<=1000000:=⟨Ak hb.reqs (by decide),hb.legs⟩
 have qa5:=ha.aud
 have qb5:=hb.aud
 have qa6:=ha.draws
 have qb6:=hb.draws
 refine B7 (by rfl) fun K1 hK1=>?_
 simp[go_sem]
 refine .l (Tv a.reg b.reg (by first | assumption | omega) (by first | assumption | omega) (by first | assumption | omega) (by first | assumption | omega) (by first | assumption | omega) (by first | assumption | omega)) ?_
 simp[go_sem]
 refine Pv ?_
 simp[go_sem]
 first | refine .lo (Tu a.reqs b.reqs (by first | assumption | omega) (by first | assumption | omega)) rfl (by simp[AV.cln,Fu]) ?_ | refine .skip ?_
 simp[go_sem]
 refine hK1 _ ?_;clear hK1
 refine Br ?_ ?_<;>intro h40
 ·refine Bq ?_
  exact .ret (fin Dz false (fun e=>by subst e;exfalso;simp_all[Jr _ _ _ _ _ _ _ _ rfl,Jq _ _ _ _ rfl]))
 refine Bp<|.seq<|.R<|.block ?_
 refine Bs a.draws.length (fun i1 (y1:Unit)=>⟨[(2,.ptr 0 0),(3,.ptr 1 0),(42,.mYs a.draws),(43,.lit (.int .i64 a.draws.length)),(44,.lit (.int .i64 i1))],[.box 70 (a.a false),.box 70 (b.a false)]⟩) (fun i1 y1=>True) () (wk Dz [0,1]) (trivial) fun i1 y1 hi1 hy1=>?_
 refine Bq<|.seq ?_
 refine Br ?_ ?_<;>intro h45
 ·refine Bp<|.seq<|.block ?_
  obtain⟨e1,H1⟩:=gx a.draws i1
  refine Bt H1 ?_
  obtain⟨e2,H2⟩:=gx b.draws i1
  refine C3 (Hq hY8 H1 H2) ?_
  refine Br ?_ ?_<;>intro h57
  ·refine Bt (Hq hY8 H1 H2) ?_
   exact .ret (fin (Hq hY8 H1 H2) false (fun e=>by subst e;exfalso;simp_all[Jr _ _ _ _ _ _ _ _ rfl,Jq _ _ _ _ rfl]))
  refine Bp<|.H1 (Hq hY8 H1 H2) ?_
  exact⟨by omega,(),trivial,wk (Hq (Dx ((i1:Int)+1)) H1 H2) [0,1]⟩
 refine Bu<|.seq<|.R<|.block ?_
 refine Bs a.aud.length (fun i2 (y2:Unit)=>⟨[(3,.ptr 0 0),(60,.mB a.aud),(61,.lit (.int .i64 a.aud.length)),(62,.lit (.int .i64 i2))],[.box 70 (b.a false)]⟩) (fun i2 y2=>True) () (wk Dz [1]) (trivial) fun i2 y2 hi2 hy2=>?_
 refine Bq<|.seq ?_
 refine Br ?_ ?_<;>intro h63
 ·refine Bp<|.seq<|.block ?_
  obtain⟨e3,H3⟩:=gx a.aud i2
  refine Bt H3 ?_
  obtain⟨e4,H4⟩:=gx b.aud i2
  refine Bt (Fa H3 H4) ?_
  refine Br ?_ ?_<;>intro h73
  ·refine Bt (Fa H3 H4) ?_
   exact .ret (fin (Fa H3 H4) false (fun e=>by subst e;exfalso;simp_all[Jr _ _ _ _ _ _ _ _ rfl,Jq _ _ _ _ rfl]))
  refine Bp<|.H1 (Fa H3 H4) ?_
  exact⟨by omega,(),trivial,wk (Hq (Dx ((i2:Int)+1)) H3 H4) [0]⟩
 refine Bu<|.R ?_
 exact .ret (fin Dz true (fun _=>rfl))
def Jo:Bool:=(Ep (Ji a b ha hb)).choose
theorem Tt:PP 19 [] [a.g,b.g] [] (.lit (.bool (Jo a b ha hb))):=(Ep (Ji a b ha hb)).choose_spec.1
theorem T5:a=b->(Jo a b ha hb)=true:=(Ep (Ji a b ha hb)).choose_spec.2
end
section
variable (c:E5) (s:Int) (hl:c.ags.length<=4) (hs:0<=s/\s<=100) (hA:∀x∈c.ags,1<=x.se/\x.se<=2)
include hl hs hA
theorem Kg:Ct 16 [c.g,.lit (.int .i64 s)] (fun d:Int×Int=>.tup [.lit (.int .i64 d.1),.lit (.int .i64 d.2)]) (fun d=>d.1=Sn c.ags 0 s):=by
 refine Ex Tryz.func16 ?_
 refine Bq<|.seq ?_
 refine Bq<|.block ?_
 refine Bs c.ags.length (fun i1 (y1:Int)=>⟨[(1,.lit (.int .i64 y1)),(9,.mAg c.ags),(10,.lit (.int .i64 c.ags.length)),(11,.lit (.int .i64 i1))],[]⟩) (fun i1 y1=>Sn (c.ags.drop i1) i1 y1=Sn c.ags 0 s/\s - 2*i1<=y1/\y1<=s) (s) (wk Dz []) (⟨rfl,by simp,by omega⟩) fun i1 y1 hi1 hy1=>?_
 refine Bq<|.seq ?_
 refine Br ?_ ?_<;>intro h12
 ·refine Bp<|.seq<|.block ?_
  obtain⟨e1,H1⟩:=gx c.ags i1
  refine Bt H1<|.seq ?_
  have hA1:=hA e1 (Ac H1)
  have hd1:=At9 H1 (i1:Int) y1
  refine Bt H1 ?_
  refine Br ?_ ?_<;>intro h23
  ·refine Bt H1 ?_
   exact .ret (fin H1 (i1,y1) (by rw[hd1,if_pos (by omega)] at hy1;exact hy1.1))
  refine Bp ?_
  have hw2:=Dx (y1 - e1.se:Int)
  refine B0 (Fa H1 hw2) ?_
  refine B0 (Fa H1 hw2) ?_
  exact⟨by omega,((y1 - e1.se)),⟨by rw[hd1,if_neg (by omega)] at hy1;rw[<- hy1.1];push_cast;rfl,by omega,by omega⟩,wk (Hq (Dx ((i1:Int)+1)) H1 hw2) []⟩
 refine Bu<|.R ?_
 exact .ret (fin Dz ((-1),(-1)) (by have h:=hy1.1;rw[List.drop_of_length_le (by omega)] at h;exact h))
def Kl:Int×Int:=(Ep (Kg c s hl hs hA)).choose
theorem Vo:PP 16 [] [c.g,.lit (.int .i64 s)] [] (.tup [.lit (.int .i64 (Kl c s hl hs hA).1),.lit (.int .i64 (Kl c s hl hs hA).2)]):=(Ep (Kg c s hl hs hA)).choose_spec.1
theorem Vw:(Kl c s hl hs hA).1=Sn c.ags 0 s:=(Ep (Kg c s hl hs hA)).choose_spec.2
theorem A7u:∃o,PP 16 [] [c.g,.lit (.int .i64 s)] [] (.tup [.lit (.int .i64 (Sn c.ags 0 s)),.lit (.int .i64 o)]):=by
 have h:=Vo c s hl hs hA
 rw[Vw] at h
 exact⟨_,h⟩
end
section
theorem A0s {c:E5} (hb:Adg c) (hp:L7 c=true) (hJ:∀j∈c.juns,Ou j/\j.phs.length<=8) (hA:∀a∈c.ags,a.sec.length<=1000000/\a.lims.length<=1000000/\a.rq<=3) (hl1:c.juns.length<=4) (hl2:c.ags.length<=4) (hS:∀x∈c.ags,1<=x.se/\x.se<=2):Sr c (Gf c hb hp hJ hA hl1 hl2 hS):=by
 obtain⟨q1,q2,q3,q4,q5,q6⟩:=Q8 c hb hp hJ hA hl1 hl2 hS
 generalize Gf c hb hp hJ hA hl1 hl2 hS=B at q1 q2 q3 q4 q5 q6
 refine⟨q1,q2,fun k d hd=>?_,by rw[q3];decide⟩
 have hk:k<c.ags.length:=by
  have h:=q1.city.desks
  rw[q2] at h
  rw[<- h]
  exact (Ab.1 hd).1
 have ha:=Aa hk
 obtain⟨h1,h2,h3⟩:=q6 k _ ha
 rw[h3] at hd
 injection hd with hd
 have hr:=Aw7 hp (Ac ha)
 have hq:=Aw6 hp (Ac ha)
 have hN:=Xv k c.ags[k] h1 h2
 rw[<- hd]
 refine⟨?_,by rw[(R6 k _ h1 h2).1,hN.1],by rw[(R6 k _ h1 h2).1,hN.2.1];exact hq⟩
 rw[(R6 k _ h1 h2).1,hN.2.2.2.2]
 exact⟨by show 0<=c.ags[k].bu;omega,by show c.ags[k].bu<=c.ags[k].bu;omega,by show 0<=c.ags[k].ra;omega,by show c.ags[k].ra<=1000;omega,by show c.ags[k].bu<=1000;omega⟩
theorem A09 (s:Int) (L:List (I5×Nat)) (j:Nat):FW s (L.take j)<=FW s L:=by
 have:=Ay7 s (L.take j) (L.drop j)
 rw[List.take_append_drop] at this
 omega
variable {b:Gt}
theorem A0l {e:I5} (hb:Qa b) (he:Lo e):(Mo b e).1.sess.length=b.sess.length:=by
 have hq:=Gc b e hb he
 rw[<- K5 hb he] at hq
 exact hq.len
theorem Abc {C:E5} (hS:∀a∈C.ags,1<=a.se/\a.se<=2):∀{l:List I5} {b:Gt},Sr C b->(∀e∈l,Lo e)->(Qu b l).sess.length=b.sess.length
 | [],b,_,_=>rfl
 | e::l,b,h,hl=>by
  rw[Rd,Abc hS (h.step hS (hl e (List.mem_cons_self ..))) fun x hx=>hl x (List.mem_cons_of_mem _ hx)]
  exact A0l h.br (hl e (List.mem_cons_self ..))
variable {C:E5}
theorem Auv (hS:∀a∈C.ags,1<=a.se/\a.se<=2) (hI:Sr C b) {si:Nat} (hsi:si<b.sess.length):(Qu b [⟨2,si,0,0,[]⟩,⟨1,si,0,0,[]⟩]).sess=b.sess.set si ⟨true,false,⟨[],false⟩⟩:=by
 have e1:((si:Int)).toNat=si:=by omega
 have E2:Lo ⟨2,si,0,0,[]⟩:=Hr rfl
 have E1:Lo ⟨1,si,0,0,[]⟩:=Hr rfl
 have hI2:=hI.step hS E2
 rw[Rd,Rd,Agx]
 have q2:=Gc b ⟨2,si,0,0,[]⟩ hI.br E2
 rw[<- K5 hI.br E2] at q2
 have f2:=q2.few (by show (2:Int)<=3;decide)
 have hs:b.sess[si]? = some b.sess[si]:=Aa hsi
 have s2:Td b.sess ⟨2,si,0,0,[]⟩=b.sess.set si ⟨false,false,⟨[],false⟩⟩:=by
  rw[Sc (s:=b.sess[si]) (by show (0:Int)<=si;omega) (by show b.sess[((si:Int)).toNat]? = _;rw[e1];exact hs),Aqr (hI.br.ses _ (Ac hs)) E2.1 rfl,(Xx _).2.2]
  show b.sess.set ((si:Int)).toNat _=_
  rw[e1]
 rw[s2] at f2
 have hI3:Sr C ⟨b.city,b.sess.set si ⟨false,false,⟨[],false⟩⟩⟩:=by rw[f2] at hI2;exact hI2
 rw[f2]
 show (Mo ⟨b.city,b.sess.set si ⟨false,false,⟨[],false⟩⟩⟩ ⟨1,si,0,0,[]⟩).1.sess=_
 have q1:=Gc _ ⟨1,si,0,0,[]⟩ hI3.br E1
 rw[<- K5 hI3.br E1] at q1
 have f1:=q1.few (by show (1:Int)<=3;decide)
 rw[f1]
 show Td (b.sess.set si ⟨false,false,⟨[],false⟩⟩) ⟨1,si,0,0,[]⟩=_
 have hs2:(b.sess.set si ⟨false,false,⟨[],false⟩⟩)[si]? = some ⟨false,false,⟨[],false⟩⟩:=Bg hsi
 have hse:=hI3.br.ses _ (Ac hs2)
 rw[Sc (s:=⟨false,false,⟨[],false⟩⟩) (by show (0:Int)<=si;omega) (by show (b.sess.set si _)[((si:Int)).toNat]? = _;rw[e1];exact hs2),Alr hse E1.1 rfl,(S8 _ hse.1).2.2.2.1 rfl]
 show (b.sess.set si _).set ((si:Int)).toNat _=_
 rw[e1,List.set_set]
theorem Ark (hS:∀a∈C.ags,1<=a.se/\a.se<=2) {B:Gt} (hI:Sr C B) (h0:∀s∈B.sess,s=⟨false,false,⟨[],false⟩⟩) {evs:List I5} (hE:∀e∈evs,Lo e) {k:E6} (hk:k.l.length<=300) (hp:15<=k.pos\/(k.l.length:Int)<=k.pos) (hsc:ScE k evs) (j:Nat):∀(i:Nat) (s:Er),(Qu (Qu B (evs.take j)) (List.replicate 8 Kb)).sess[i]? = some s->Akq s:=fun i s hi=>by
 obtain⟨n,⟨L,hL,hLe,hLF⟩,hn⟩:=hsc
 have hEj:∀e∈evs.take j,Lo e:=fun e he=>hE e (Aq he)
 have hI1:=hI.run hS hEj
 have hT:∀e∈List.replicate 8 Kb,Lo e:=fun e he=>by rw[List.eq_of_mem_replicate he];exact Kk
 have hil:i<B.sess.length:=by
  rw[<- Abc hS hI hEj,<- Abc hS hI1 hT]
  exact (Ab.1 hi).1
 have hb:B.sess[i]? = some B.sess[i]:=Aa hil
 rw[h0 _ (List.getElem_mem hil)] at hb
 obtain⟨s1,g1,g2⟩:=Asn hS (L:=L.take j) hI (fun x hx=>by
  have hx:=Aq hx
  exact⟨hE _ (by rw[<- hL];exact List.mem_map_of_mem hx),hLe x hx⟩) hb (F:=0) (.inl rfl)
 rw[List.map_take,hL] at g1
 have hF:0+FW i (L.take j)<=48:=by
  have h1:=A09 (i:Int) L j
  have h2:FW i L<=3+n:=hLF i
  have h3:n<=45:=by
   rcases hn with h | h
   ·omega
   rcases hp with h4 | h4
   ·omega
   omega
  omega
 obtain⟨s2,g3,g4,g5⟩:=Aw3 hS 8 hI1 (m:=0) g1 (g2.qt hF) (.inr (.inr (by decide)))
 rw[hi] at g3
 injection g3 with g3
 subst g3
 rcases g4 with h | h
 ·exact .inl h
 rcases g5 with h2 | h2
 ·exact .inl h2
 exact .inr ⟨h,h2⟩
structure A5x (C:E5) (b:Gt) (si:Nat):Prop where
  i:Sr C b
  q:∀(k:Nat) (s:Er),b.sess[k]? = some s->Akq s
  s:b.sess[si]? = some ⟨true,false,⟨[],false⟩⟩
theorem Arj (hS:∀a∈C.ags,1<=a.se/\a.se<=2) (hI:Sr C b) (hQ:∀(k:Nat) (s:Er),b.sess[k]? = some s->Akq s) {si:Nat} (hsi:si<b.sess.length):A5x C (Qu b [⟨2,si,0,0,[]⟩,⟨1,si,0,0,[]⟩]) si:=by
 have hs:=Auv hS hI hsi
 refine⟨hI.run hS fun e he=>?_,fun k s hk=>?_,by rw[hs];exact Bg hsi⟩
 ·simp at he
  rcases he with rfl | rfl<;>exact Hr rfl
 rw[hs] at hk
 by_cases h:k=si
 ·subst h
  rw[Bg hsi] at hk
  injection hk with hk
  rw[<- hk]
  exact .inr ⟨As6 false,rfl⟩
 rw[A9 (Ne.symm h)] at hk
 exact hQ k s hk
theorem Kj (b:Gt) (e:I5) (hb:Qa b) (he:Lo e):PP 14 [] [b.g,e.g] [] (.tup [.agg ((Mo b e).1.a false),.agg ((Mo b e).2.1.a false),.lit (.bool (Mo b e).2.2)]):=by
 rw[K5 hb he]
 exact Adq b e hb he
end
theorem A14 {st:St}:st.raw (.const (.pointer none))=.lit (.pointer none):=rfl
attribute [go_sem] A14
theorem Uq:PP 10 [] [.nil 0] [.box 84 [.nil 1,.li 0]] (.ptr 0 0):=by
 refine Em Tryz.func10 ?_
 iterate 2 refine Bw ?_
 exact .ret (rW Dz [0])
theorem Vp (l:List Int):PP 10 [] [.mI l] [.box 84 ((⟨l,0⟩:E6).a false)] (.ptr 0 0):=by
 refine Em Tryz.func10 ?_
 iterate 2 refine Bw ?_
 exact .ret (rW Dz [0])
theorem Wn (l:List Int):Ct 8 [.mI l] (fun d:Bool=>.lb d) (fun d=>d=decide (l.length<=300)):=by
 refine Ex Tryz.func8 ?_
 iterate 2 refine Bq ?_
 refine Bz (Fj ?_);simp[go_sem]
 exact⟨_,rfl,(by simp;omega)⟩
theorem Wo (l:List Int):PP 8 [] [.mI l] [] (.lb (decide (l.length<=300))):=by
 obtain⟨_,h,d,rfl,hd⟩:=Wn l
 rwa[hd] at h
theorem Ue  : Ct 9 [] (fun d:Bool=>.lb d) (fun d=>d=true):=by
 refine Ex Tryz.func9 ?_
 obtain⟨C,hC,_,hc2,hcq⟩:=Jb ⟨[],0⟩ 63 (by simp) (Int.le_refl 0)
 have hc1:=hc2.2.1 rfl
 obtain⟨b,f,hR,h10⟩:=Auy hcq.b (hcq.pl (by decide)) hcq.hj hcq.ha (by have:=hcq.nj;omega) (by have:=hcq.na;omega) hcq.hs hc1.1 hc1.2
 have hL:∀e∈([⟨1,0,0,0,[]⟩,⟨6,0,0,0,[]⟩]:List I5),Lo e:=fun e he=>by rcases List.mem_cons.1 he with rfl | he;exact Hr rfl;rw[An.1 he];exact Hr rfl
 have hv:=Ali C.1 [⟨1,0,0,0,[]⟩,⟨6,0,0,0,[]⟩] hcq.b (hcq.pl (by decide)) hcq.hj hcq.ha (by have:=hcq.nj;omega) (by have:=hcq.na;omega) hcq.hs (by simp) hL
 rw[Al4,show ([⟨1,0,0,0,[]⟩,⟨6,0,0,0,[]⟩]:List I5).take 400=[⟨1,0,0,0,[]⟩,⟨6,0,0,0,[]⟩] from rfl,hR] at hv
 have h10i:(10:Int)<b.length:=by omega
 refine Bq ?_
 refine Dk 5 1 (by rfl) fun K1 hK1=>?_
 simp[go_sem]
 refine .by (Uq) (Rc.refl _) (by simp) ?_
 simp[go_sem]
 refine .o [0] (hC) ?_
 simp[go_sem]
 refine .l (hv) ?_
 simp[go_sem]
 refine hK1 _ ?_;clear hK1
 refine Bt Dz ?_
 exact .ret (fin h10i true rfl)
theorem Asf:PP 9 [] [] [] (.lb true):=by
 obtain⟨Y1,cY1,qY1⟩:=Ep (Ue)
 have h:=cY1
 rwa[qY1] at h
section
variable {w:World} {v:Value}
theorem Ata {b off:Nat} (h:w.cell? ⟨b,off,none⟩=some v):∃cur ty fz,w.heap[b]? = some (.cells cur ty fz)/\cur[off]? = some v:=by
 unfold World.cell? at h
 split at h
 ·rename_i cur ty fz h1
  exact⟨cur,ty,fz,h1,by simpa using h⟩
 simp at h
theorem Apv.tree {A:Option Addr} {len cap:Nat} {zs:List Int} (h:Apv w A len cap zs) (S:Nat->Prop) (hS:∀b,b<w.heap.size->S b):∃xs:List Int,Gq w.heap S (.sl 1 (tI xs)) (.slice A len cap):=by
 by_cases h0:len=0
 ·subst h0
  exact⟨[],.nil 1 A cap⟩
 obtain⟨b,off,rfl,hb,h1⟩:=h.at_ 0 (by omega)
 obtain⟨cur,ty,fz,hc,_⟩:=Ata h1
 have hlen:len<=cap/\zs.length=cap:=by
  rcases h with⟨h,_⟩ | ⟨x,_,h2,_,h3,_⟩
  ·cases h
  exact⟨h2,h3⟩
 refine⟨zs.take len,?_⟩
 have hl:(tI (zs.take len)).length=len:=by simp[tI];omega
 have key:∀(i:Nat) (e:List T),(tI (zs.take len))[i]? = some e->i<len/\e=[.li (zs.getD i 0)]:=fun i e he=>by
  have hi:i<len:=by have:=(Ab.1 he).1;omega
  refine⟨hi,?_⟩
  simp only[tI,Ap,Ag hi] at he
  rw[Aa (show i<zs.length by omega)] at he
  simp only[Ai,Option.some.injEq] at he
  rw[<- he,Ad,Aa (show i<zs.length by omega)]
  rfl
 have:=Gq.sl (h:=w.heap) (S:=S) 1 (tI (zs.take len)) b off cap cur ty fz (fun i _=>.int .i64 (zs.getD i 0)) hc (hS b hb) (by omega) (fun i e he=>by rw[(key i e he).2];rfl) (fun i e j x he hx=>by
  obtain⟨hi,rfl⟩:=key i e he
  have hj:j=0:=by have:=(Ab.1 hx).1;simp at this;omega
  subst hj
  obtain⟨b',off',e',_,h2⟩:=h.at_ i hi
  cases e'
  obtain⟨cur',ty',fz',hc',hv⟩:=Ata h2
  rw[hc] at hc'
  cases hc'
  simpa using hv) (fun i e j x he hx=>by
  obtain⟨hi,rfl⟩:=key i e he
  have hj:j=0:=by have:=(Ab.1 hx).1;simp at this;omega
  subst hj
  simp at hx
  subst hx
  exact .lit _ rfl)
 rwa[hl] at this
def C0 (w:World):VC:=⟨w.heap,(St.mk [] []).o,fun _=>none,w.heap.size,fun _=>False,fun _=>True,fun _=>True⟩
theorem A7x {b:Nat} (h:b<w.heap.size):(C0 w).S false b:=⟨h,(fun⟨id,h,_⟩=>by cases h),.inr (.inr ⟨trivial,fun h=>by cases h⟩)⟩
theorem E7.top {P:Program} {f:FuncId} {args:List AV} (h:E7 P f [] args [] (.lit v)) (w:World) (us:Array Value) (hl:us.size=args.length) (hv:∀(t:Nat) (c:AV) (u:Value),args[t]? = some c->us[t]? = some u->Ec (C0 w) c u) :
  Calls P f us w fun e w'=>e=.returned v/\Below w.heap.size w w':=by
 let E:Gs:=⟨w,fun _=>.gone,fun _=>none,fun _=>True,fun _=>True,args.length,[],fun _=>none⟩
 have hM:E.M=fun _=>False:=by
  funext b
  exact propext ⟨fun⟨id,h,_⟩=>h rfl,fun h=>h.elim⟩
 have hC:E.C (fun _=>none) ⟨Ic 0 args,[]⟩ w=C0 w:=by
  show VC.mk _ _ _ _ E.M _ _=_
  rw[hM]
  rfl
 have r0:Eu E (fun _=>none) ⟨Ic 0 args,[]⟩ ⟨us,[]⟩ w:=by
  refine⟨hl,fun t=>?_,rfl,fun id=>trivial,fun i j b hi=>absurd rfl hi,fun i b hi=>absurd rfl hi,Kp.refl _ _,⟨(fun id ty cs h=>by cases h),(fun id ty k fr fz es h=>by cases h)⟩,(fun b o h=>by cases h),List.nodup_nil,fun D h=>by cases h⟩
  rw[hC]
  show Ec _ (E9 (Ic 0 args) t) _
  rw[Lx,Nat.sub_zero,Ad]
  cases hx:args[t]? with
  | none=>exact .any _
  | some x =>
   have ht:t<us.size:=by rw[hl];exact (Ab.1 hx).1
   rw[if_pos (Ae _),Av,Al ht]
   exact hv t x _ hx (Al ht)
 refine (h.2 E (fun _=>none) us rfl (by funext i;simp[E,St.o]) rfl r0).mono ?_
 rintro e w' ⟨u,β',rfl,r⟩
 have h0:=r.sl 0
 have h1:u=v:=by
  simp[E9] at h0
  cases h0
  rfl
 refine⟨by rw[h1],?_⟩
 obtain⟨k1,k2,k3,k4,k5⟩:=r.kp
 exact⟨k1,k2,k3,k4,fun b hb=>k5 b hb (fun⟨id,h,_⟩=>h rfl)⟩
end
section
def bkX (y:List F9×List G2×Int×Int×Int×Int×Bool×Int×List Dy×List Ib×List Fx×List Int×List Gp×List Er):Gt:=⟨⟨⟨y.1,y.2.1,y.2.2.1,y.2.2.2.1,y.2.2.2.2.1,y.2.2.2.2.2.1⟩,y.2.2.2.2.2.2.1,y.2.2.2.2.2.2.2.1,y.2.2.2.2.2.2.2.2.1,y.2.2.2.2.2.2.2.2.2.1,y.2.2.2.2.2.2.2.2.2.2.1,y.2.2.2.2.2.2.2.2.2.2.2.1,y.2.2.2.2.2.2.2.2.2.2.2.2.1⟩,y.2.2.2.2.2.2.2.2.2.2.2.2.2⟩
theorem A7f {m:Ea} (h:MkQ m):∃d:List Int,PP 18 [] [m.g] [] (.imm true 1 (tY d))/\d.length<=210/\By d/\FrQ m d:=by
 obtain⟨d,h1,h2,h3,h4⟩:=Me m (by rw[h.1];decide) (Ak h.2.2.1 (by decide)) (by rw[h.2.2.2];exact Ae _)
 exact⟨d,E7.froz (es:=tY d) (by rw[A2];exact h1.bright (by simp[T.plain])),h2,h3 h.2.1 (by rw[h.2.2.2];exact Qz),h4⟩
theorem Az6 {l:List G2} (hS:∀a∈l,1<=a.se/\a.se<=2) {si:Nat} (h:(si:Int)<(l.map G2.se).sum):0<=Sn l 0 si/\Sn l 0 si<l.length:=by
 have h1:=Aad hS l.length (Aj _)
 rw[List.take_length] at h1
 obtain⟨i,a,j,g1,g2,g3⟩:=Q5 l.length (by rw[h1];exact h)
 have h2:=Afp 0 hS g1 g2
 have h0:=(Iq l i).1
 rw[show Eg l i+(j:Int)=(si:Int) by omega] at h2
 have:=(Ab.1 g1).1
 omega
variable {B:Gt} {l:List I5} {i n:Nat} {b:Gt}
theorem Awr {e:I5} (h:b=Qu B (l.take (min i n))) (he:l[i]? = some e) (hi:i<n):(Mo b e).1=Qu B (l.take (min (i+1) n)):=by
 rw[h,show min i n=i by omega,show min (i+1) n=i+1 by omega,List.take_add_one,he,Aoh]
 rfl
theorem Awq (h:b=Qu B (l.take (min i n))) (hi:¬i<n):b=Qu B (l.take (min (i+1) n)):=by
 rw[h,show min i n=min (i+1) n by omega]
theorem Av7:∀{l:List G2},(∀a∈l,1<=a.se/\a.se<=2)->0<=(l.map G2.se).sum
 | [],_=>by simp
 | a::l,h=>by
  have h1:=h a (List.mem_cons_self ..)
  have h2:=Av7 (l:=l) fun x hx=>h x (List.mem_cons_of_mem _ hx)
  rw[List.map_cons,List.sum_cons]
  omega
theorem Azm:∀{l:List G2},(∀a∈l,1<=a.se/\a.se<=2)->1<=l.length->1<=(l.map G2.se).sum
 | [],_,h=>by simp at h
 | a::l,h,_=>by
  have h1:=h a (List.mem_cons_self ..)
  have h2:=Av7 (l:=l) fun x hx=>h x (List.mem_cons_of_mem _ hx)
  rw[List.map_cons,List.sum_cons]
  omega
theorem Aur {y u:Bool} {A B:List UInt8} {n now:Int} {j0 i:Nat} (hy:j0<i->y=true) (h:j0=i->u=true/\A=B/\(n=0\/now<=n)) (hj:j0<i+1):(y||(u&&(A == B)&&(n == 0||decide (now<=n))))=true:=by
 by_cases hlt:j0<i
 ·rw[hy hlt,Bool.true_or]
 obtain⟨h1,h2,h3⟩:=h (by omega)
 have h4:(n == 0||decide (now<=n))=true:=by simpa using h3
 rw[h1,h2,h4]
 simp
section
variable (a:Int) (s:Int) (b:List Int) (h:b.length<=1000000)
include a s h
theorem Uf:Ct 20 [.lit (.int .i64 a),.lit (.int .i64 s),.mY b] (fun d:List Int=>.mY d) (fun d=>d=IntKind.u8.wrap a::IntKind.u8.wrap s::b):=by
 refine Ex Tryz.func20 ?_
 have e2:2+b.length=b.length+1+1:=by omega
 refine Bq ?_
 refine Bt Dz ?_
 refine B2 Dz 0 ?_
 refine Bz (Fj ?_);simp[go_sem,e2]
 exact⟨([IntKind.u8.wrap a,IntKind.u8.wrap s])++b,by rfl,by rfl⟩
theorem A5v:PP 20 [] [.lit (.int .i64 a),.lit (.int .i64 s),.mY b] [] (.mY (IntKind.u8.wrap a::IntKind.u8.wrap s::b)):=by
 obtain⟨_,h1,d,rfl,hd⟩:=Uf a s b h
 rwa[hd] at h1
end
theorem Awo {i:Nat} (h:b=Qu B (List.replicate i Kb)):(Mo b Kb).1=Qu B (List.replicate (i+1) Kb):=by
 rw[h,List.replicate_succ',Aoh]
 rfl
theorem Hz (l:List Int) (m0:Int):Ct 3 [.mI l,.lit (.int .i64 m0)] (fun d:Bool=>.lit (.bool d)) (fun d=>d=true):=by
 refine Ex Tryz.func3 ?_
 refine Bq<|.seq ?_
 refine B8 Dz (Wo l) ?_
 refine Br ?_ ?_<;>intro h30
 ·refine B8 Dz (Asf) ?_
  refine Bz (Fj ?_);simp[go_sem]
  exact⟨true,by first | rfl | simp[go_sem],rfl⟩
 refine Bp<|.L Dz (Vp l) ?_
 obtain⟨C,hC,hcl,hc2,hcq⟩:=Jb ⟨l,0⟩ 63 h30 (Int.le_refl 0)
 have hna:=hcq.na
 have hph:∀j∈C.1.juns,j.phs.length<=8/\1<=j.phs.length:=fun j hj=>⟨(hcq.hj j hj).2,A4v (hcq.jun j hj)⟩
 refine B3 (fun K kk=>by simp[go_sem];refine .o [0] (hC) ?_;simp[go_sem];exact kk) ?_
 have hBv:=Aa4 C.1 hcq.b (hcq.pl (by decide)) hcq.hj hcq.ha (by have:=hcq.nj;omega) (by have:=hcq.na;omega) hcq.hs
 have hBq:=Q8 C.1 hcq.b (hcq.pl (by decide)) hcq.hj hcq.ha (by have:=hcq.nj;omega) (by have:=hcq.na;omega) hcq.hs
 have hBI:=A0s hcq.b (hcq.pl (by decide)) hcq.hj hcq.ha (by have:=hcq.nj;omega) (by have:=hcq.na;omega) hcq.hs
 generalize Gf C.1 hcq.b (hcq.pl (by decide)) hcq.hj hcq.ha (by have:=hcq.nj;omega) (by have:=hcq.na;omega) hcq.hs=B at hBv hBq hBI
 refine B8 Dz (hBv) ?_
 obtain⟨S,hS,hSl,hsE,hsl,hsq⟩:=Ns C.2 C.1 true (by rw[hcl];exact h30) hc2.1 hcq
 obtain⟨n0,hn0⟩:∃n:Nat,n=S.1.length*2 / 3:=⟨_,rfl⟩
 refine B3 (fun K kk=>by simp[go_sem];refine .o [0] (hS) ?_;simp[go_sem];exact kk)<|.seq ?_
 refine Bq<|.block ?_
 refine Bs S.1.length (fun i1 (y1:(List F9)×(List G2)×Int×Int×Int×Int×Bool×Int×(List Dy)×(List Ib)×(List Fx)×(List Int)×(List Gp)×(List Er))=>⟨[(1,.lit (.int .i64 m0)),(5,.ptr 0 0),(6,.ptr 1 0),(7,.ptr 2 0),(8,.mEv S.1),(41,.mEv S.1),(42,.lit (.int .i64 S.1.length)),(43,.lit (.int .i64 i1))],[.box 84 [.mI S.2.l,.lit (.int .i64 S.2.pos)],.box 30 (C.1.a false),.box 40 [.mJun y1.1,.mAg y1.2.1,.lit (.int .i64 y1.2.2.1),.lit (.int .i64 y1.2.2.2.1),.lit (.int .i64 y1.2.2.2.2.1),.lit (.int .i64 y1.2.2.2.2.2.1),.lit (.bool y1.2.2.2.2.2.2.1),.lit (.int .i64 y1.2.2.2.2.2.2.2.1),.mDesk y1.2.2.2.2.2.2.2.2.1,.mSig y1.2.2.2.2.2.2.2.2.2.1,.mSvc y1.2.2.2.2.2.2.2.2.2.2.1,.mI y1.2.2.2.2.2.2.2.2.2.2.2.1,.mView y1.2.2.2.2.2.2.2.2.2.2.2.2.1,.mSess y1.2.2.2.2.2.2.2.2.2.2.2.2.2]]⟩) (fun i1 y1=>Sr C.1 (bkX y1)/\bkX y1=Qu B (S.1.take (min i1 n0))) (B.city.cfg.juns,B.city.cfg.ags,B.city.cfg.per,B.city.cfg.cap,B.city.cfg.hold,B.city.cfg.lock,B.city.ref,B.city.now,B.city.desks,B.city.sigs,B.city.svcs,B.city.stuck,B.city.views,B.sess) (wQ [0,1,2] ?_ ?_) (⟨hBI,by simp[Agx];rfl⟩) fun i1 y1 hi1 hy1=>?_
 ·simp[go_sem]
 ·simp[go_sem]
 refine Bq<|.seq ?_
 refine Br ?_ ?_<;>intro h44
 ·refine Bp<|.seq<|.block ?_
  obtain⟨e1,H1⟩:=gx S.1 i1
  refine Bt H1 ?_
  have hw9:IntKind.i64.wrap ((S.1.length:Int)*2)=(S.1.length:Int)*2:=Dx _
  have hJ:IntKind.i64.wrap (Int.tdiv ((S.1.length:Int)*2) 3)=(n0:Int):=by rw[Int.tdiv_eq_ediv_of_nonneg (by omega),Dx _];omega
  refine Bt (Hq H1 hw9 hJ) ?_
  refine Br ?_ ?_<;>intro h53
  ·have hEe:=hsq e1 (Ac H1)
   have hDI:=hy1.1.step hcq.hs hEe
   have hDn:=Awr hy1.2 H1 (by omega)
   have hDv:=Kj (bkX y1) e1 hy1.1.br hEe
   obtain⟨D,hD⟩:∃D,Mo (bkX y1) e1=D:=⟨_,rfl⟩
   rw[hD] at hDv
   rw[hD] at hDI hDn
   refine Dj (Hq H1 hw9 hJ) (hDv) ?_
   refine B0 (Hq H1 hw9 hJ) ?_
   refine⟨by omega,(D.1.city.cfg.juns,D.1.city.cfg.ags,D.1.city.cfg.per,D.1.city.cfg.cap,D.1.city.cfg.hold,D.1.city.cfg.lock,D.1.city.ref,D.1.city.now,D.1.city.desks,D.1.city.sigs,D.1.city.svcs,D.1.city.stuck,D.1.city.views,D.1.sess),?_,wQ [0,1,2] ?_ ?_⟩
   ·exact⟨hDI,hDn⟩
   all_goals simp[go_sem,Dx ((i1:Int)+1),H1,hw9,hJ]
  refine Bp<|.H1 (Hq H1 hw9 hJ) ?_
  refine⟨by omega,(y1.1,y1.2.1,y1.2.2.1,y1.2.2.2.1,y1.2.2.2.2.1,y1.2.2.2.2.2.1,y1.2.2.2.2.2.2.1,y1.2.2.2.2.2.2.2.1,y1.2.2.2.2.2.2.2.2.1,y1.2.2.2.2.2.2.2.2.2.1,y1.2.2.2.2.2.2.2.2.2.2.1,y1.2.2.2.2.2.2.2.2.2.2.2.1,y1.2.2.2.2.2.2.2.2.2.2.2.2.1,y1.2.2.2.2.2.2.2.2.2.2.2.2.2),?_,wQ [0,1,2] ?_ ?_⟩
  ·exact⟨hy1.1,Awq hy1.2 (by omega)⟩
  all_goals simp[go_sem,Dx ((i1:Int)+1),H1,hw9,hJ]
 refine Bu<|.seq<|.R<|.block ?_
 refine Bs 8 (fun i2 (y2:(List F9)×(List G2)×Int×Int×Int×Int×Bool×Int×(List Dy)×(List Ib)×(List Fx)×(List Int)×(List Gp)×(List Er))=>⟨[(1,.lit (.int .i64 m0)),(5,.ptr 0 0),(6,.ptr 1 0),(7,.ptr 2 0),(62,.lit (.int .i64 i2))],[.box 84 [.mI S.2.l,.lit (.int .i64 S.2.pos)],.box 30 (C.1.a false),.box 40 [.mJun y2.1,.mAg y2.2.1,.lit (.int .i64 y2.2.2.1),.lit (.int .i64 y2.2.2.2.1),.lit (.int .i64 y2.2.2.2.2.1),.lit (.int .i64 y2.2.2.2.2.2.1),.lit (.bool y2.2.2.2.2.2.2.1),.lit (.int .i64 y2.2.2.2.2.2.2.2.1),.mDesk y2.2.2.2.2.2.2.2.2.1,.mSig y2.2.2.2.2.2.2.2.2.2.1,.mSvc y2.2.2.2.2.2.2.2.2.2.2.1,.mI y2.2.2.2.2.2.2.2.2.2.2.2.1,.mView y2.2.2.2.2.2.2.2.2.2.2.2.2.1,.mSess y2.2.2.2.2.2.2.2.2.2.2.2.2.2]]⟩) (fun i2 y2=>Sr C.1 (bkX y2)/\bkX y2=Qu (Qu B (S.1.take n0)) (List.replicate i2 Kb)) (y1.1,y1.2.1,y1.2.2.1,y1.2.2.2.1,y1.2.2.2.2.1,y1.2.2.2.2.2.1,y1.2.2.2.2.2.2.1,y1.2.2.2.2.2.2.2.1,y1.2.2.2.2.2.2.2.2.1,y1.2.2.2.2.2.2.2.2.2.1,y1.2.2.2.2.2.2.2.2.2.2.1,y1.2.2.2.2.2.2.2.2.2.2.2.1,y1.2.2.2.2.2.2.2.2.2.2.2.2.1,y1.2.2.2.2.2.2.2.2.2.2.2.2.2) (wQ [0,1,2] ?_ ?_) (⟨hy1.1,by rw[hy1.2,show min i1 n0=n0 by omega];rfl⟩) fun i2 y2 hi2 hy2=>?_
 ·simp[go_sem]
 ·simp[go_sem]
 refine Bq<|.seq ?_
 refine Br ?_ ?_<;>intro h63
 ·refine Bp<|.seq<|.block ?_
  have hDI:=hy2.1.step hcq.hs Kk
  have hDn:=Awo hy2.2
  have hDv:=Kj (bkX y2) Kb hy2.1.br Kk
  obtain⟨D,hD⟩:∃D,Mo (bkX y2) Kb=D:=⟨_,rfl⟩
  rw[hD] at hDv
  rw[hD] at hDI hDn
  refine Dj Dz (hDv) ?_
  refine Ci ?_
  refine⟨by omega,(D.1.city.cfg.juns,D.1.city.cfg.ags,D.1.city.cfg.per,D.1.city.cfg.cap,D.1.city.cfg.hold,D.1.city.cfg.lock,D.1.city.ref,D.1.city.now,D.1.city.desks,D.1.city.sigs,D.1.city.svcs,D.1.city.stuck,D.1.city.views,D.1.sess),?_,wQ [0,1,2] ?_ ?_⟩
  ·exact⟨hDI,hDn⟩
  all_goals simp[go_sem,Dx ((i2:Int)+1)]
 refine Bu<|.seq ?_
 have hyE:bkX y2=Qu (Qu B (S.1.take n0)) (List.replicate 8 Kb):=by have h:=hy2.2;rwa[show i2=8 by omega] at h
 have hTe:∀e∈List.replicate 8 Kb,Lo e:=fun e he=>by rw[List.eq_of_mem_replicate he];exact Kk
 have hSe:∀e∈S.1.take n0,Lo e:=fun e he=>hsq e (Aq he)
 have hyl:(bkX y2).sess.length=B.sess.length:=by rw[hyE,Abc hcq.hs (hBI.run hcq.hs hSe) hTe,Abc hcq.hs hBI hSe]
 have hBl:=hBq.2.2.2.1
 have hsum:=Azm hcq.hs hna.1
 have hst:=(hc2.2.2 l rfl)
 have hql:∀(k:Nat) (s:Er),(bkX y2).sess[k]? = some s->Akq s:=by rw[hyE];exact Ark hcq.hs hBI hBq.2.2.2.2.1 hsq (k:=C.2) (by rw[hcl];exact h30) (by have h9:C.2.l=l:=hcl;rw[h9];unfold Th at hst;dsimp only at hst;omega) (hsE.2 rfl) n0
 have hyl2:((bkX y2).sess.length:Int)=(C.1.ags.map G2.se).sum:=by rw[hyl];exact hBl
 have hyb:=hy2.1.br.n
 have hyz:y2.2.2.2.2.2.2.2.2.2.2.2.2.2.length=(bkX y2).sess.length:=rfl
 refine Bq ?_
 refine Cs ?_ ?_<;>intro h75<;>simp[go_sem] at h75
 ·exfalso;have h9:=congrArg List.length h75;rw[hyz] at h9;simp only[List.length_nil] at h9;omega
 refine Bp ?_
 have hMq:=Km m0 (y2.2.2.2.2.2.2.2.2.2.2.2.2.2.length:Int) (by omega) (by omega)
 have hMv:=Ki m0 (y2.2.2.2.2.2.2.2.2.2.2.2.2.2.length:Int) (by omega) (by omega)
 generalize Iz m0 (y2.2.2.2.2.2.2.2.2.2.2.2.2.2.length:Int) (by omega) (by omega)=MR at hMq hMv
 obtain⟨si,hsi⟩:∃si:Nat,MR=(si:Int):=⟨MR.toNat,by omega⟩
 rw[hsi] at hMq hMv
 refine B8 Dz (hMv) ?_
 obtain⟨O2,hov⟩:=A7u C.1 (si:Int) (by omega) (by omega) hcq.hs
 refine B8 Dz (hov) ?_
 have hor:=Az6 hcq.hs (si:=si) (by rw[<- hyl2];omega)
 obtain⟨M,hM,hMl,hMx,hMk⟩:=Hg S.2 C.1 (Sn C.1.ags 0 (si:Int)) true (by rw[hSl,hcl];exact h30) hsE.1 hcq.nj hph
 have hMX:=hMx.2.2 hor.1 (by omega)
 refine B3 (fun K kk=>by simp[go_sem];refine .o [0] (hM) ?_;simp[go_sem];exact kk) ?_
 have hAS:=Arj hcq.hs hy2.1 hql (si:=si) (by omega)
 rw[Rd,Rd,Agx] at hAS
 have hI1:=hy2.1.step hcq.hs (Hr rfl:Lo ⟨2,(si:Int),0,0,[]⟩)
 have hD1v:=Kj (bkX y2) ⟨2,(si:Int),0,0,[]⟩ hy2.1.br (Hr rfl)
 obtain⟨D1,hD1⟩:∃D,Mo (bkX y2) ⟨2,(si:Int),0,0,[]⟩=D:=⟨_,rfl⟩
 rw[hD1] at hD1v
 rw[hD1] at hAS hI1
 refine B8 Dz (hD1v) ?_
 have hD2v:=Kj D1.1 ⟨1,(si:Int),0,0,[]⟩ hI1.br (Hr rfl)
 obtain⟨D2,hD2⟩:∃D,Mo D1.1 ⟨1,(si:Int),0,0,[]⟩=D:=⟨_,rfl⟩
 rw[hD2] at hD2v
 rw[hD2] at hAS
 refine B8 Dz (hD2v) ?_
 have hXv:=Kj D2.1 Kb hAS.i.br Kk
 obtain⟨X,hX⟩:∃D,Mo D2.1 Kb=D:=⟨_,rfl⟩
 rw[hX] at hXv
 have hXI:=hAS.i.step hcq.hs Kk
 rw[hX] at hXI
 refine B8 Dz (hXv) ?_
 obtain⟨FR,hFR,hfl,hfB,hfQ⟩:=A7f hMk
 have hFE:Lo ⟨3,(si:Int),0,0,FR⟩:=⟨by dsimp only;omega,hfB⟩
 have hFI:=hAS.i.step hcq.hs hFE
 have hFv:=Kj D2.1 ⟨3,(si:Int),0,0,FR⟩ hAS.i.br hFE
 obtain⟨F,hF⟩:∃D,Mo D2.1 ⟨3,(si:Int),0,0,FR⟩=D:=⟨_,rfl⟩
 rw[hF] at hFv
 rw[hF] at hFI
 refine Cy (fun K kk=>by simp[go_sem];refine .l (hFR) ?_;simp[go_sem];refine .l (hFv) ?_;simp[go_sem];exact kk) ?_
 have hZv:=Kj F.1 Kb hFI.br Kk
 obtain⟨Z,hZ⟩:∃D,Mo F.1 Kb=D:=⟨_,rfl⟩
 rw[hZ] at hZv
 have hZI:=hFI.step hcq.hs Kk
 rw[hZ] at hZI
 refine B8 Dz (hZv)<|.seq ?_
 have hXd:=hXI.br.city.desks
 have hZd:=hZI.br.city.desks
 rw[hXI.cfg] at hXd
 rw[hZI.cfg] at hZd
 refine Bq ?_
 refine Cs ?_ ?_<;>intro h148<;>simp[go_sem] at h148
 ·exfalso;omega
 refine Bp<|.seq<|.R<|.block ?_
 refine Bs X.1.city.desks.length (fun i3 (y3:Unit)=>⟨[(12,.lit (.int .i64 (Sn C.1.ags 0 (si:Int)))),(14,.ptr 0 0),(15,.ptr 1 0),(18,.ptr 2 0),(152,.lit (.int .i64 X.1.city.desks.length)),(153,.lit (.int .i64 i3))],[.box 56 (M.1.a false),.box 40 (X.1.a false),.box 40 (Z.1.a false)]⟩) (fun i3 y3=>True) () (wQ [3,4,6] ?_ ?_) (trivial) fun i3 y3 hi3 hy3=>?_
 ·simp[go_sem]
 ·simp[go_sem]
 refine Bq<|.seq ?_
 refine Br ?_ ?_<;>intro h154
 ·refine Bp<|.seq<|.block<|.R ?_
  obtain⟨e2,H2⟩:=gx X.1.city.desks i3
  obtain⟨e3,H3⟩:=gx Z.1.city.desks i3
  refine C3 (Fa H2 H3) ?_
  refine Bt (Fa H2 H3)<|.seq ?_
  have hB2:L8 (⟨e2.reg,e2.reqs,e2.draws,[]⟩:Dy):=by have h:=(hXI.br.city.desk e2 (Ac H2)).1.b;exact⟨h.reg,h.reqs,h.legs,h.draws,h.draw,Ae _⟩
  have hB3:L8 (⟨e3.reg,e3.reqs,e3.draws,[]⟩:Dy):=by have h:=(hZI.br.city.desk e3 (Ac H3)).1.b;exact⟨h.reg,h.reqs,h.legs,h.draws,h.draw,Ae _⟩
  have hSv:=Tt ⟨e2.reg,e2.reqs,e2.draws,[]⟩ ⟨e3.reg,e3.reqs,e3.draws,[]⟩ hB2 hB3
  have hSq:=T5 ⟨e2.reg,e2.reqs,e2.draws,[]⟩ ⟨e3.reg,e3.reqs,e3.draws,[]⟩ hB2 hB3
  generalize Jo ⟨e2.reg,e2.reqs,e2.draws,[]⟩ ⟨e3.reg,e3.reqs,e3.draws,[]⟩ hB2 hB3=SB at hSv hSq
  have hlaw:=Auz hcq.hs hAS.i hAS.q hAS.s hMX hfQ hFE (k:=i3) (p:=e2) (q:=e3) (by rw[hX];exact H2) (by rw[hF,hZ];exact H3)
  rw[hF,hZ] at hlaw
  refine B8 (Fa H2 H3) (hSv) ?_
  refine Br ?_ ?_<;>intro h172
  ·refine Bu<|.H1 (Fa H2 H3) ?_
   refine⟨by omega,(),?_,wQ [0,1,2] ?_ ?_⟩
   ·trivial
   all_goals simp[go_sem,Dx ((i3:Int)+1),H2,H3]
  refine Bp ?_
  have hheld:=hlaw.resolve_left (fun h=>by have e:SB=true:=hSq (by rw[h.1,h.2.1,h.2.2]);simp[e] at h172)
  obtain⟨hown,j0,t0,g1,g2,g3,g4⟩:=hheld
  refine Bt (Fa H2 H3) ?_
  refine Bt (Fa H2 H3)<|.seq ?_
  have hj0:=(Ab.1 g1).1
  have htl:=(hXI.br.city.desk e2 (Ac H2)).1.b.reg.toks
  refine Bt (Fa H2 H3)<|.block ?_
  refine Bs e2.reg.toks.length (fun i4 (y4:Bool)=>⟨[(12,.lit (.int .i64 (Sn C.1.ags 0 (si:Int)))),(14,.ptr 0 0),(15,.ptr 1 0),(18,.ptr 2 0),(21,.lit (.int .i64 i3)),(24,.lit (.bool ((i3:Int) == (Sn C.1.ags 0 (si:Int))))),(25,.lit (.bool y4)),(152,.lit (.int .i64 X.1.city.desks.length)),(153,.lit (.int .i64 i3)),(183,.mTok e2.reg.toks),(184,.lit (.int .i64 e2.reg.toks.length)),(185,.lit (.int .i64 i4))],[.box 56 (M.1.a false),.box 40 (X.1.a false),.box 40 (Z.1.a false)]⟩) (fun i4 y4=>j0<i4->y4=true) (false) (wQ [0,1,2] ?_ ?_) (by omega) fun i4 y4 hi4 hy4=>?_
  ·simp[go_sem,H2,H3]
  ·simp[go_sem,H2,H3]
  refine Bt (Fa H2 H3)<|.seq ?_
  refine Br ?_ ?_<;>intro h186
  ·refine Bp<|.seq<|.block ?_
   obtain⟨e4,H4⟩:=gx e2.reg.toks i4
   refine Bt (Hq H2 H3 H4) ?_
   have hTv:=A5v (i3:Int) (i4:Int) e4.sec ((hXI.br.city.desk e2 (Ac H2)).1.b.reg.tsec e4 (Ac H4))
   obtain⟨TB,hTB⟩:∃T,T=(IntKind.u8.wrap (i3:Int)::IntKind.u8.wrap (i4:Int)::e4.sec):=⟨_,rfl⟩
   rw[<- hTB] at hTv
   refine VX.draw1 (by kernel_rfl) (by rfl) (by kernel_rfl) fun K1 hK1=>?_
   simp +contextual[go_sem,hY8,H2,H3,H4]
   refine Nf (by simp[go_sem]) (by simp[go_sem]) ?_
   simp +contextual[go_sem,hY8,H2,H3,H4]
   first | refine .lo (hTv) rfl (by simp[AV.cln,Fu]) ?_ | refine .skip ?_
   simp +contextual[go_sem,hY8,H2,H3,H4]
   refine hK1 _ _ (by kernel_rfl) ?_;clear hK1
   refine B0 (Hq H2 H3 H4) ?_
   refine⟨by omega,(y4||(e4.used&&((Aa8 (tY M.1.tok)).toList == (Aa8 (tY TB)).toList)&&(e4.unt == 0||decide (Z.1.city.now<=e4.unt)))),?_,wQ [0,1,2] ?_ ?_⟩
   ·exact Aur hy4 (fun e=>by subst e;rw[g1] at H4;injection H4 with H4;subst H4;exact⟨g2,by rw[Aa7,Aa7,hTB];exact g3,g4⟩)
   all_goals simp[go_sem,Dx ((i4:Int)+1),H2,H3,H4]
  refine Bu ?_
  have hy9:y4=true:=hy4 (by omega)
  subst hy9
  have hok:((i3:Int) == Sn C.1.ags 0 (si:Int))=true:=by rw[beq_iff_eq];exact hown
  refine Bt (Hq H2 H3 hok) ?_
  refine Cs ?_ ?_<;>intro h226<;>simp[go_sem] at h226
  refine Bp<|.H1 (Hq H2 H3 hok) ?_
  refine⟨by omega,(),?_,wQ [0,1,2] ?_ ?_⟩
  ·trivial
  all_goals simp[go_sem,Dx ((i3:Int)+1),H2,H3,hok]
 refine Bu<|.L Dz (Asf) ?_
 refine Bz (Fj ?_);simp[go_sem]
 exact⟨true,by first | rfl | simp[go_sem],rfl⟩
def J1 (l:List Int) (m0:Int):Bool:=(Ep (Hz l m0)).choose
theorem O9 (l:List Int) (m0:Int):PP 3 [] [.mI l,.lit (.int .i64 m0)] [] (.lit (.bool (J1 l m0))):=(Ep (Hz l m0)).choose_spec.1
theorem Pj (l:List Int) (m0:Int):(J1 l m0)=true:=(Ep (Hz l m0)).choose_spec.2
theorem authority_walk (A:Option Addr) (len cap:Nat) (zs:List Int) (n:Int) (w:World) (hA:Apv w A len cap zs) (hn:(Lit.int .i64 n).wf=true) :
 Calls Tryz.prog 3 #[.slice A len cap,.int .i64 n] w fun e w'=>e=.returned (.bool true)/\Below w.heap.size w w':=by
 obtain⟨xs,hx⟩:=hA.tree ((C0 w).S false) (fun b h=>A7x h)
 have h:=O9 xs n
 rw[Pj] at h
 refine h.top w _ rfl fun t c u hc hu=>?_
 match t,hc,hu with
 | 0,hc,hu =>
  simp at hc hu
  subst hc;subst hu
  exact .imm _ _ _ _ hx
 | 1,hc,hu =>
  simp at hc hu
  subst hc;subst hu
  exact .lit _
 | t+2,hc,hu=>simp at hc
end
end Go.Proofs.YtkkimgjinbaemaaGreat
