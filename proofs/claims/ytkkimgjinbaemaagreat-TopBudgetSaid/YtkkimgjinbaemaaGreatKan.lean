/- The walk. -/
import Derived.Test.YtkkimgjinbaemaaGreatKam
noncomputable section
namespace Go.Proofs.YtkkimgjinbaemaaGreat
open Go.RowKit
set_option linter.unusedVariables false
set_option linter.unusedSimpArgs false
set_option linter.defProp false
set_option linter.unusedSectionVars false
set_option maxRecDepth 100000
set_option maxHeartbeats 4000000
section
def Axj (t:Ff):D0:=by
 classical
 exact if h:t.pay.length<=1000000 then (E6 t.kind t.pay h).1 else ⟨0,[],[],[]⟩
def Acl (b:List Int):List D0:=(Kk b).map fun x=>Axj x.1
theorem Anr.all {b:List Int} {L:List D0} (h:Anr b L):Acl b=L:=by
 unfold Acl
 rw[h.eq,Aik h.srv,List.map_map]
 have e:∀m∈L,((fun x:Ff×Int=>Axj x.1)∘fun m=>(itM m,((Kl m).1.length:Int)+10)) m=id m:=fun m hm=>by
  have hl:=Ti m
  show Axj (itM m)=m
  unfold Axj
  have hp:(Kl m).1.length<=1000000:=by omega
  refine (dif_pos (c:=(itM m).pay.length<=1000000) hp).trans ?_
  exact congrArg Prod.fst (Aqq (h.srv m hm) hp)
 rw[List.map_congr_left e,List.map_id]
def Ae4 (o:P1) (p n:Nat):Nat:=(((o.ses.drop p).take n).map fun s=>Lb (Acl s)).sum
structure Axt (n:Int) (o:P1):Prop where
  len:(o.ses.length:Int)=n
  said:∀s∈o.ses,∃L,Anr s L/\L.length<=259
theorem Atk:∀{X:List (List Int)} {r:List (List D0)},X.length=r.length->(∀(j:Nat) (s:List Int),X[j]? = some s->Lb (Acl s)<=Lb ((r[j]?).getD []))->(X.map fun s=>Lb (Acl s)).sum<=Lb r.flatten
 | [],_,_,_=>Ae _
 | s::X,[],h,_=>by simp at h
 | s::X,q::r,hl,h=>by
  have h0:Lb (Acl s)<=Lb q:=h 0 s rfl
  have h1:=Atk (X:=X) (r:=r) (by simpa using hl) fun j s hs=>h (j+1) s hs
  rw[List.map_cons,List.sum_cons,List.flatten_cons,Lp]
  omega
variable {C:Fc} {b:Jf} {e:Mr}
theorem Avl (hb:Ts b) (hC:b.city.cfg=C) (he:Pc e) (hk:e.kind=6) (hS:∀a∈C.ags,1<=a.se/\a.se<=2) (hD:∀(k:Nat) (d:Dx),b.city.desks[k]? = some d->BkI d.reg.bk):(Zh b e).2.2=true/\Axt (En C.ags C.ags.length) (Zh b e).2.1/\∀(k:Nat) (d:Dx) (a:H0),b.city.desks[k]? = some d->C.ags[k]? = some a->∃x,(Zh b e).1.city.desks[k]? = some x/\BkS (Na d.reg.bk) x.reg.bk (Ae4 (Zh b e).2.1 (En C.ags k).toNat a.se.toNat):=by
 have hq:=Mn b e hb he
 rw[<- Abx hb he] at hq
 generalize Zh b e=D at hq ⊢
 obtain⟨t1,t2,_,l,S,hl,hTk,hTic,hsl,hout⟩:=hq.tick hk
 have hcfg:D.1.city.cfg=C:=hq.cfg.trans hC
 obtain⟨rp,en,⟨ens,_,_,hA⟩,hrl,hSI⟩:=hTic
 have key:∀(k:Nat) (d:Dx) (a:H0),b.city.desks[k]? = some d->C.ags[k]? = some a->∃(x:Dx) (r:List (List D0)),D.1.city.desks[k]? = some x/\BkS (Na d.reg.bk) x.reg.bk (Lb r.flatten)/\(r.length:Int)=Ek a/\∀j:Nat,(j:Int)<Ek a->∃s q,D.2.1.ses[(En C.ags k).toNat+j]? = some s/\Anr s q/\q.length<=259/\Lb q<=Lb ((r[j]?).getD []):=fun k d a hd ha=>by
  obtain⟨x,r,e',s',k1,k2,_,k4⟩:=(hA k d a hd (by show b.city.cfg.ags[k]? = _;rw[hC];exact ha)).1 (Ab.1 hd).1
  have hB:=k4.bk (hD k d hd)
  refine⟨x,r,k1,hB.1,?_,fun j hj=>?_⟩
  ·show (r.length:Int)=_
   rw[show r.length=d.aud.length from hB.2.2]
   exact hb.city.dl k d a hd (by rw[hC];exact ha)
  obtain⟨q,hq1,hq2⟩:=hSI k j a r (.inl (by show k<D.1.city.cfg.ags.length;rw[hcfg];exact (Ab.1 ha).1)) (by show D.1.city.cfg.ags[k]? = _;rw[hcfg];exact ha) hj k2
  have hq1:S.ses[(En D.1.city.cfg.ags k).toNat+j]? = some q:=hq1
  rw[hcfg] at hq1
  have hso:(En C.ags k).toNat+j<D.2.1.ses.length:=by
   have:=(Ab.1 hq1).1
   have hsl:S.ses.length=D.2.1.ses.length:=hsl
   omega
  have ho:=hout _ q _ hq1 (Aa hso)
  have h:=hq2.said hB.2.1
  rw[<- ho] at h
  exact⟨_,q,Aa hso,h⟩
 have hdl:b.city.desks.length=C.ags.length:=by rw[hb.city.desks,hC]
 refine⟨t1,⟨by rw[t2,hC],fun s hs=>?_⟩,fun k d a hd ha=>?_⟩
 ·obtain⟨n,hn,rfl⟩:=List.mem_iff_getElem.1 hs
  have t2:(D.2.1.ses.length:Int)=_:=t2
  rw[hC] at t2
  obtain⟨k,a,j,ha,hj,rfl⟩:=Zx (l:=C.ags) (s:=n) C.ags.length (by omega)
  have hkl:=(Ab.1 ha).1
  obtain⟨x,r,_,_,_,h4⟩:=key k _ a (Aa (by omega)) ha
  obtain⟨s,q,h5,h6,h7,_⟩:=h4 j hj
  rw[Aa hn] at h5
  injection h5 with h5
  rw[h5]
  exact⟨q,h6,h7⟩
 obtain⟨x,r,h1,h2,h3,h4⟩:=key k d a hd ha
 have hse:=hS a (Ac ha)
 have hcn:=(Gw a).2.2 hse
 refine⟨x,h1,h2.mono ?_⟩
 have hlen:(En C.ags k).toNat+a.se.toNat<=D.2.1.ses.length:=by
  obtain⟨s,q,h5,_⟩:=h4 (a.se.toNat - 1) (by omega)
  have:=(Ab.1 h5).1
  omega
 refine Atk (by rw[A5,Bc];omega) fun j s hs=>?_
 have hj:j<a.se.toNat:=by
  have:=(Ab.1 hs).1
  rw[A5] at this
  omega
 obtain⟨s',q,h5,h6,_,h7⟩:=h4 j (by omega)
 rw[Ag hj,Bd,h5] at hs
 injection hs with hs
 rw[<- hs,h6.all]
 exact h7
structure An0 (C:Fc) (i:Nat) (a:H0) (b:Jf) (n:Nat) (T:Int):Prop where
  br:Ts b
  cfg:b.city.cfg=C
  all:∀(k:Nat) (d:Dx),b.city.desks[k]? = some d->BkI d.reg.bk
  dk:∃d,b.city.desks[i]? = some d/\d.reg.bk.ra=a.ra/\d.reg.bk.bu=a.bu/\n+d.reg.bk.lv<=a.bu+T
variable {i:Nat} {a:H0}
theorem An0.other {n:Nat} {T:Int} (h:An0 C i a b n T) (he:Pc e) (hk:e.kind≠6):An0 C i a (Zh b e).1 n T/\(Zh b e).2.2=false:=by
 have hq:=Mn b e h.br he
 rw[<- Abx h.br he] at hq
 generalize Zh b e=D at hq ⊢
 refine⟨?_,hq.none hk⟩
 by_cases h3:e.kind<=3
 ·have hf:=hq.few h3
  have hi:=hq.i
  rw[hf] at hi ⊢
  exact⟨hi,h.cfg,h.all,h.dk⟩
 have hK:=(hq.keep (by omega) hk).2
 refine⟨hq.i,hq.cfg.trans h.cfg,fun k d hd=>?_,?_⟩
 ·have hl:k<b.city.desks.length:=by
   have:=(Ab.1 hd).1
   have h1:=hq.i.city.desks
   rw[hq.cfg] at h1
   have h2:=h.br.city.desks
   omega
  obtain⟨y,hy⟩:=hK.2 k _ (Aa hl)
  rw[hy] at hd
  injection hd with hd
  rw[<- hd]
  exact h.all k b.city.desks[k] (Aa hl)
 obtain⟨d,d1,d2⟩:=h.dk
 obtain⟨y,hy⟩:=hK.2 i d d1
 exact⟨_,hy,d2⟩
theorem An0.tick {n:Nat} {T:Int} (h:An0 C i a b n T) (ha:C.ags[i]? = some a) (hS:∀a∈C.ags,1<=a.se/\a.se<=2) (he:Pc e) (hk:e.kind=6):An0 C i a (Zh b e).1 (n+Ae4 (Zh b e).2.1 (En C.ags i).toNat a.se.toNat) (T+a.ra)/\(Zh b e).2.2=true/\Axt (En C.ags C.ags.length) (Zh b e).2.1:=by
 obtain⟨h1,h2,h3⟩:=Avl h.br h.cfg he hk hS h.all
 have hq:=Mn b e h.br he
 rw[<- Abx h.br he] at hq
 generalize Zh b e=D at hq h1 h2 h3 ⊢
 refine⟨⟨hq.i,hq.cfg.trans h.cfg,fun k d hd=>?_,?_⟩,h1,h2⟩
 ·have hl1:k<C.ags.length:=by
   have:=(Ab.1 hd).1
   have h1:=hq.i.city.desks
   rw[hq.cfg,h.cfg] at h1
   omega
  have hl:k<b.city.desks.length:=by
   have h2:=h.br.city.desks
   rw[h.cfg] at h2
   omega
  obtain⟨x,hx,hB⟩:=h3 k _ _ (Aa hl) (Aa hl1)
  rw[hx] at hd
  injection hd with hd
  rw[<- hd]
  exact hB.I (Afh (h.all k _ (Aa hl))).1
 obtain⟨d,d1,d2,d3,d4⟩:=h.dk
 obtain⟨x,hx,hB⟩:=h3 i d a d1 ha
 have hr:=Afh (h.all i d d1)
 have:=hB.2.2.2
 exact⟨x,hx,hB.1.trans (hr.2.1.trans d2),hB.2.1.trans (hr.2.2.1.trans d3),by push_cast;omega⟩
theorem Akk {C:Fc} {i:Nat} {a:H0} (ha:C.ags[i]? = some a) (hS:∀a∈C.ags,1<=a.se/\a.se<=2):∀(l:List Mr) {b:Jf} {n:Nat} {T:Int},An0 C i a b n T->(∀e∈l,Pc e)->(∀o∈Oh b l,Axt (En C.ags C.ags.length) o)/\∀k,k<(Oh b l).length->((n+(((Oh b l).take (k+1)).map fun o=>Ae4 o (En C.ags i).toNat a.se.toNat).sum:Nat):Int)<=a.bu+(T+((k:Int)+1)*a.ra)
 | [],b,n,T,h,hl=>by
  rw[Oh]
  exact⟨fun _ h=>absurd h A8,fun k hk=>absurd hk (Nat.not_lt_zero k)⟩
 | e::l,b,n,T,h,hl=>by
  have he:=hl e (List.mem_cons_self ..)
  have hl':∀e∈l,Pc e:=fun e h=>hl e (List.mem_cons_of_mem _ h)
  rw[Oh]
  by_cases hk:e.kind=6
  ·obtain⟨h1,h2,h3⟩:=h.tick ha hS he hk
   have ih:=Akk ha hS l h1 hl'
   rw[if_pos h2]
   refine⟨fun o ho=>(List.mem_cons.1 ho).elim (fun e=>e▸h3) (ih.1 o),fun k hk=>?_⟩
   obtain⟨d,d1,d2,d3,d4⟩:=h1.dk
   have d5:=(h1.all i d d1).lv
   rw[List.take_succ_cons,List.map_cons,List.sum_cons]
   cases k with
   | zero =>
    rw[List.take_zero,List.map_nil,List.sum_nil]
    simp only[Nat.add_zero,Int.ofNat_zero,Int.natCast_zero,Int.zero_add,Int.one_mul]
    push_cast at d4 ⊢
    omega
   | succ k =>
    have:=ih.2 k (by rw[A6] at hk;omega)
    have e:(((k+1:Nat):Int)+1)*a.ra=((k:Int)+1)*a.ra+a.ra:=by rw[Int.natCast_add,Int.natCast_one,Int.add_mul,Int.one_mul]
    rw[e]
    push_cast at this ⊢
    omega
  obtain⟨h1,h2⟩:=h.other he hk
  rw[if_neg (by rw[h2];decide)]
  exact Akk ha hS l h1 hl'
theorem Amu {c:Fc} (hp:Mo c=true) (ha:a∈c.ags):0<=a.ra/\a.ra<=a.bu/\a.bu<=1000:=by
 unfold Mo at hp
 simp only[Ah] at hp
 have h:=Am.1 hp.1.2 a ha
 simp only[Afq,Ev,Ah,decide_eq_true_eq] at h
 omega
theorem Apf {c:Fc} (hb:Ab4 c) (hp:Mo c=true) (hJ:∀j∈c.juns,Nv j/\j.phs.length<=8) (hA:∀a∈c.ags,a.sec.length<=1000000/\a.lims.length<=1000000/\a.rq<=3) (hl1:c.juns.length<=4) (hl2:c.ags.length<=4) (hS:∀x∈c.ags,1<=x.se/\x.se<=2) {l:List Mr} (hE:∀e∈l,Pc e) (ha:c.ags[i]? = some a) :
 (∀o∈Oh (Fq c hb hp hJ hA hl1 hl2 hS) l,Axt (En c.ags c.ags.length) o)/\∀k,k<(Oh (Fq c hb hp hJ hA hl1 hl2 hS) l).length->(((((Oh (Fq c hb hp hJ hA hl1 hl2 hS) l).take (k+1)).map fun o=>Ae4 o (En c.ags i).toNat a.se.toNat).sum:Nat):Int)<=a.bu+((k:Int)+1)*a.ra:=by
 obtain⟨q1,q2,q3,q4,q5,q6⟩:=Um c hb hp hJ hA hl1 hl2 hS
 generalize Fq c hb hp hJ hA hl1 hl2 hS=B at q1 q2 q3 q4 q5 q6
 have hn:∀(k:Nat) (a:H0) (h1:a.sec.length<=1000000) (h2:a.lims.length<=1000000),(Fw k a h1 h2).reg.bk=⟨a.bu,a.ra,a.bu⟩:=fun k a h1 h2=>by
  rw[(Y8 k a h1 h2).1,(Wm k a h1 h2).2.2.2.2]
  rfl
 have hI:An0 c i a B 0 0:=by
  refine⟨q1,q2,fun k d hd=>?_,?_⟩
  ·have hk:k<c.ags.length:=by
    have h:=q1.city.desks
    rw[q2] at h
    rw[<- h]
    exact (Ab.1 hd).1
   have ha:=Aa hk
   obtain⟨h1,h2,h3⟩:=q6 k _ ha
   rw[h3] at hd
   injection hd with hd
   have hr:=Amu hp (Ac ha)
   rw[<- hd,hn]
   exact⟨by dsimp only;omega,by dsimp only;omega,by dsimp only;omega,by dsimp only;omega,by dsimp only;omega⟩
  obtain⟨h1,h2,h3⟩:=q6 i a ha
  refine⟨_,h3,?_⟩
  rw[hn]
  exact⟨rfl,rfl,by simp⟩
 have h:=Akk ha hS l hI hE
 refine⟨h.1,fun k hk=>?_⟩
 have:=h.2 k hk
 rw[Bm,Int.zero_add] at this
 exact this
end
theorem Ayo {st:St}:st.raw (.const (.pointer none))=.lit (.pointer none):=rfl
attribute [go_sem] Ayo
theorem S2:PP 10 [] [.nil 0] [.box 84 [.nil 1,.li 0]] (.ptr 0 0):=by
 refine Ei Tryz.func10 ?_
 iterate 2 refine Bw ?_
 exact .ret (rW Dy [0])
theorem Ua (l:List Int):PP 10 [] [.mI l] [.box 84 ((⟨l,0⟩:E9).a false)] (.ptr 0 0):=by
 refine Ei Tryz.func10 ?_
 iterate 2 refine Bw ?_
 exact .ret (rW Dy [0])
theorem Vi (l:List Int):Ct 8 [.mI l] (fun d:Bool=>.lb d) (fun d=>d=decide (l.length<=300)):=by
 refine Er Tryz.func8 ?_
 iterate 2 refine Bq ?_
 refine Bz (Fk ?_);simp[go_sem]
 exact⟨_,rfl,(by simp;omega)⟩
theorem Vj (l:List Int):PP 8 [] [.mI l] [] (.lb (decide (l.length<=300))):=by
 obtain⟨_,h,d,rfl,hd⟩:=Vi l
 rwa[hd] at h
theorem At4:∀(l:List Mr) (b:Jf),(Oh b l).length<=l.length
 | [],b=>by simp[Oh]
 | e::l,b=>by
  have:=At4 l (Zh b e).1
  rw[Oh]
  split<;>simp<;>omega
theorem Sr  : Ct 9 [] (fun d:Bool=>.lb d) (fun d=>d=true):=by
 refine Er Tryz.func9 ?_
 obtain⟨C,hC,_,hc2,hcq⟩:=I5 ⟨[],0⟩ 63 (by simp) (Int.le_refl 0)
 have hc1:=hc2.2 rfl
 obtain⟨b,f,hR,h10⟩:=Ash hcq.b (hcq.pl (by decide)) hcq.hj hcq.ha (by have:=hcq.nj;omega) (by have:=hcq.na;omega) hcq.hs hc1.1 hc1.2
 have hL:∀e∈([⟨1,0,0,0,[]⟩,⟨6,0,0,0,[]⟩]:List Mr),Pc e:=fun e he=>by rcases List.mem_cons.1 he with rfl | he;exact Jh rfl;rw[An.1 he];exact Jh rfl
 have hv:=Zu C.1 [⟨1,0,0,0,[]⟩,⟨6,0,0,0,[]⟩] hcq.b (hcq.pl (by decide)) hcq.hj hcq.ha (by have:=hcq.nj;omega) (by have:=hcq.na;omega) hcq.hs (by simp) hL
 rw[Z9,show ([⟨1,0,0,0,[]⟩,⟨6,0,0,0,[]⟩]:List Mr).take 400=[⟨1,0,0,0,[]⟩,⟨6,0,0,0,[]⟩] from rfl,hR] at hv
 have h10i:(10:Int)<b.length:=by omega
 refine Bq ?_
 refine Dj 5 1 (by rfl) fun K1 hK1=>?_
 simp[go_sem]
 refine .by (S2) (Qg.refl _) (by simp) ?_
 simp[go_sem]
 refine .o [0] (hC) ?_
 simp[go_sem]
 refine .l (hv) ?_
 simp[go_sem]
 refine hK1 _ ?_;clear hK1
 refine Bu Dy ?_
 exact .ret (Ep h10i true rfl)
theorem Ap6:PP 9 [] [] [] (.lb true):=by
 obtain⟨Y1,cY1,qY1⟩:=Em (Sr)
 have h:=cY1
 rwa[qY1] at h
section
variable {w:World} {v:Value}
theorem Aqt {b off:Nat} (h:w.cell? ⟨b,off,none⟩=some v):∃cur ty fz,w.heap[b]? = some (.cells cur ty fz)/\cur[off]? = some v:=by
 unfold World.cell? at h
 split at h
 ·rename_i cur ty fz h1
  exact⟨cur,ty,fz,h1,by simpa using h⟩
 simp at h
theorem Ant.tree {A:Option Addr} {len cap:Nat} {zs:List Int} (h:Ant w A len cap zs) (S:Nat->Prop) (hS:∀b,b<w.heap.size->S b):∃xs:List Int,Gh w.heap S (.sl 1 (tI xs)) (.slice A len cap):=by
 by_cases h0:len=0
 ·subst h0
  exact⟨[],.nil 1 A cap⟩
 obtain⟨b,off,rfl,hb,h1⟩:=h.at_ 0 (by omega)
 obtain⟨cur,ty,fz,hc,_⟩:=Aqt h1
 have hlen:len<=cap/\zs.length=cap:=by
  rcases h with⟨h,_⟩ | ⟨x,_,h2,_,h3,_⟩
  ·cases h
  exact⟨h2,h3⟩
 refine⟨zs.take len,?_⟩
 have hl:(tI (zs.take len)).length=len:=by simp[tI];omega
 have key:∀(i:Nat) (e:List T),(tI (zs.take len))[i]? = some e->i<len/\e=[.li (zs.getD i 0)]:=fun i e he=>by
  have hi:i<len:=by have:=(Ab.1 he).1;omega
  refine⟨hi,?_⟩
  simp only[tI,Ap,Ag hi] at he
  rw[Aa (show i<zs.length by omega)] at he
  simp only[Ai,Option.some.injEq] at he
  rw[<- he,Ad,Aa (show i<zs.length by omega)]
  rfl
 have:=Gh.sl (h:=w.heap) (S:=S) 1 (tI (zs.take len)) b off cap cur ty fz (fun i _=>.int .i64 (zs.getD i 0)) hc (hS b hb) (by omega) (fun i e he=>by rw[(key i e he).2];rfl) (fun i e j x he hx=>by
  obtain⟨hi,rfl⟩:=key i e he
  have hj:j=0:=by have:=(Ab.1 hx).1;simp at this;omega
  subst hj
  obtain⟨b',off',e',_,h2⟩:=h.at_ i hi
  cases e'
  obtain⟨cur',ty',fz',hc',hv⟩:=Aqt h2
  rw[hc] at hc'
  cases hc'
  simpa using hv) (fun i e j x he hx=>by
  obtain⟨hi,rfl⟩:=key i e he
  have hj:j=0:=by have:=(Ab.1 hx).1;simp at this;omega
  subst hj
  simp at hx
  subst hx
  exact .lit _ rfl)
 rwa[hl] at this
def C0 (w:World):VC:=⟨w.heap,(St.mk [] []).o,fun _=>none,w.heap.size,fun _=>False,fun _=>True,fun _=>True⟩
theorem A28 {b:Nat} (h:b<w.heap.size):(C0 w).S false b:=⟨h,(fun⟨id,h,_⟩=>by cases h),.inr (.inr ⟨trivial,fun h=>by cases h⟩)⟩
theorem Ey.top {P:Program} {f:FuncId} {args:List AV} (h:Ey P f [] args [] (.lit v)) (w:World) (us:Array Value) (hl:us.size=args.length) (hv:∀(t:Nat) (c:AV) (u:Value),args[t]? = some c->us[t]? = some u->Ea (C0 w) c u) :
  Calls P f us w fun e w'=>e=.returned v/\Below w.heap.size w w':=by
 let E:Gi:=⟨w,fun _=>.gone,fun _=>none,fun _=>True,fun _=>True,args.length,[],fun _=>none⟩
 have hM:E.M=fun _=>False:=by
  funext b
  exact propext ⟨fun⟨id,h,_⟩=>h rfl,fun h=>h.elim⟩
 have hC:E.C (fun _=>none) ⟨Hr 0 args,[]⟩ w=C0 w:=by
  show VC.mk _ _ _ _ E.M _ _=_
  rw[hM]
  rfl
 have r0:Eo E (fun _=>none) ⟨Hr 0 args,[]⟩ ⟨us,[]⟩ w:=by
  refine⟨hl,fun t=>?_,rfl,fun id=>trivial,fun i j b hi=>absurd rfl hi,fun i b hi=>absurd rfl hi,Kp.refl _ _,⟨(fun id ty cs h=>by cases h),(fun id ty k fr fz es h=>by cases h)⟩,(fun b o h=>by cases h),List.nodup_nil,fun D h=>by cases h⟩
  rw[hC]
  show Ea _ (Ez (Hr 0 args) t) _
  rw[K8,Nat.sub_zero,Ad]
  cases hx:args[t]? with
  | none=>exact .any _
  | some x =>
   have ht:t<us.size:=by rw[hl];exact (Ab.1 hx).1
   rw[if_pos (Ae _),Av,Al ht]
   exact hv t x _ hx (Al ht)
 refine (h.2 E (fun _=>none) us rfl (by funext i;simp[E,St.o]) rfl r0).mono ?_
 rintro e w' ⟨u,β',rfl,r⟩
 have h0:=r.sl 0
 have h1:u=v:=by
  simp[Ez] at h0
  cases h0
  rfl
 refine⟨by rw[h1],?_⟩
 obtain⟨k1,k2,k3,k4,k5⟩:=r.kp
 exact⟨k1,k2,k3,k4,fun b hb=>k5 b hb (fun⟨id,h,_⟩=>h rfl)⟩
end
section
variable (c:Fc) (a:Int) (k:Nat) (hk:k<=c.ags.length) (ha:a=k) (hl:c.ags.length<=4) (hA:∀x∈c.ags,1<=x.se/\x.se<=2)
include hk ha hl hA
theorem Jy:Ct 23 [c.g,.lit (.int .i64 a)] (fun d:Int=>.lit (.int .i64 d)) (fun d=>d=En c.ags k):=by
 refine Er Tryz.func23 ?_
 refine Bq ?_
 refine Bq<|.seq ?_
 refine Bq<|.block ?_
 refine Bs c.ags.length (fun i1 (y1:Int)=>⟨[(1,.lit (.int .i64 a)),(5,.lit (.int .i64 y1)),(9,.mAg c.ags),(10,.lit (.int .i64 c.ags.length)),(11,.lit (.int .i64 i1))],[]⟩) (fun i1 y1=>y1=En c.ags (min i1 k)/\0<=y1/\y1<=2*i1) (0) (wk Dy []) (⟨by rw[Nat.zero_min];rfl,by simp,by simp⟩) fun i1 y1 hi1 hy1=>?_
 refine Bq<|.seq ?_
 refine Br ?_ ?_<;>intro h12
 ·refine Bp<|.seq<|.block ?_
  obtain⟨e1,H1⟩:=gx c.ags i1
  refine Bu H1 ?_
  have hA1:=(Gw e1).2.2 (hA e1 (Ac H1))
  have hA2:=hA e1 (Ac H1)
  have hs1:=Mf H1
  refine Bu H1 ?_
  refine Br ?_ ?_<;>intro h18
  ·have hw2:=Dw (y1+e1.se:Int)
   refine B0 (Fa H1 hw2) ?_
   refine B0 (Fa H1 hw2) ?_
   exact⟨by omega,((y1+e1.se)),⟨by have h1:=hy1.1;rw[Nat.min_eq_left (by omega)] at h1;rw[Nat.min_eq_left (by omega),hs1];omega,by omega,by omega⟩,wk (Jb (Dw ((i1:Int)+1)) H1 hw2) []⟩
  refine Bp<|.H1 H1 ?_
  exact⟨by omega,(y1),⟨by have h1:=hy1.1;rw[Nat.min_eq_right (by omega)] at h1 ⊢;exact h1,by omega,by omega⟩,wk (Fa (Dw ((i1:Int)+1)) H1) []⟩
 refine Bt<|.R ?_
 exact .ret (Ep Dy y1 (by rw[hy1.1,Nat.min_eq_right (by omega)]))
def Nd:Int:=(Em (Jy c a k hk ha hl hA)).choose
theorem T8:PP 23 [] [c.g,.lit (.int .i64 a)] [] (.lit (.int .i64 (Nd c a k hk ha hl hA))):=(Em (Jy c a k hk ha hl hA)).choose_spec.1
theorem Ui:(Nd c a k hk ha hl hA)=En c.ags k:=(Em (Jy c a k hk ha hl hA)).choose_spec.2
end
theorem Ack {l:List H0} {i:Nat}:∀k:Nat,i<=k->En l i<=En l k
 | 0,h=>by rw[Nat.le_zero.1 h];exact Int.le_refl _
 | k+1,h=>by
  by_cases e:i=k+1
  ·rw[e];exact Int.le_refl _
  have ih:=Ack (l:=l) k (Nat.lt_succ_iff.1 (Nat.lt_of_le_of_ne h e))
  rw[En]
  cases ha:l[k]? with
  | none=>simp only;omega
  | some a=>have:=Gw a;simp only;omega
theorem Are (l:List H0) (hS:∀a∈l,1<=a.se/\a.se<=2) {i:Nat} {a:H0} (h:l[i]? = some a):En l i+a.se<=En l l.length:=by
 have h1:=Ack (l:=l) (i:=i+1) l.length (Ab.1 h).1
 rw[Mf h,(Gw a).2.2 (hS a (Ac h))] at h1
 exact h1
theorem Ax9 {m:D0} (h:Zc m=true):Lb [m]=1:=by simp[Lb,h]
section
variable (l:List Int)
include l
theorem Ik:Ct 6 [.mI l] (fun d:Bool=>.lit (.bool d)) (fun d=>d=true):=by
 refine Er Tryz.func6 ?_
 refine Bq<|.seq ?_
 refine B8 Dy (Vj l) ?_
 refine Br ?_ ?_<;>intro h20
 ·refine B8 Dy (Ap6) ?_
  refine Bz (Fk ?_);simp[go_sem]
  exact⟨true,by rfl,rfl⟩
 refine Bp<|.L Dy (Ua l) ?_
 obtain⟨C,hC,hcl,hc2,hcq⟩:=I5 ⟨l,0⟩ 63 h20 (Int.le_refl 0)
 obtain⟨S,hS,_,_,hsl,hsq⟩:=Mu C.2 C.1 false (by rw[hcl];exact h20) hc2.1 hcq
 have hna:=hcq.na
 have hv1:=Zu C.1 S.1 hcq.b (hcq.pl (by decide)) hcq.hj hcq.ha (by have:=hcq.nj;omega) (by have:=hcq.na;omega) hcq.hs (by omega) hsq
 rw[Z9] at hv1
 have hLw:=fun (i:Nat) (a:H0) (ha:C.1.ags[i]? = some a)=>Apf hcq.b (hcq.pl (by decide)) hcq.hj hcq.ha (by have:=hcq.nj;omega) (by have:=hcq.na;omega) hcq.hs (l:=S.1.take 400) (fun e he=>hsq e (Aq he)) ha
 have hAn:=At4 (S.1.take 400) (Fq C.1 hcq.b (hcq.pl (by decide)) hcq.hj hcq.ha (by have:=hcq.nj;omega) (by have:=hcq.na;omega) hcq.hs)
 generalize Oh (Fq C.1 hcq.b (hcq.pl (by decide)) hcq.hj hcq.ha (by have:=hcq.nj;omega) (by have:=hcq.na;omega) hcq.hs) (S.1.take 400)=A at hv1 hLw hAn
 rw[A5] at hAn
 refine Da Dy [0] hC ?_
 refine Cw (fun K kk=>by simp[go_sem];refine .o [0] (hS) ?_;simp[go_sem];refine .l (hv1) ?_;simp[go_sem];exact kk)<|.seq ?_
 refine Bq<|.block ?_
 refine Bs C.1.ags.length (fun i1 (y1:Unit)=>⟨[(4,.ptr 0 0),(5,.mOut A),(32,.mAg C.1.ags),(33,.lit (.int .i64 C.1.ags.length)),(34,.lit (.int .i64 i1))],[.box 30 (C.1.a false)]⟩) (fun i1 y1=>True) () (wQ [1] ?_ ?_) (trivial) fun i1 y1 hi1 hy1=>?_
 ·simp[go_sem]
 ·simp[go_sem]
 refine Bq<|.seq ?_
 refine Br ?_ ?_<;>intro h35
 ·refine Bp<|.seq<|.block ?_
  obtain⟨e1,H1⟩:=gx C.1.ags i1
  refine Bu H1 ?_
  have hA1:=hcq.hs e1 (Ac H1)
  obtain⟨hO,hN⟩:=hLw i1 e1 H1
  have hB0:=Kb C.1.ags i1
  have hBt:=Are C.1.ags hcq.hs H1
  have hR:=Amu (hcq.pl (by decide)) (Ac H1)
  have hbv:=T8 C.1 i1 i1 (by omega) rfl (by omega) hcq.hs
  rw[Ui] at hbv
  obtain⟨p,hp⟩:∃p:Nat,En C.1.ags i1=(p:Int):=⟨_,(Int.toNat_of_nonneg hB0.1).symm⟩
  rw[hp] at hbv hBt hB0 hN
  rw[Int.toNat_natCast] at hN
  refine B8 H1 (hbv) ?_
  refine Bu H1<|.block ?_
  refine Bs A.length (fun i2 (y2:Int)=>⟨[(4,.ptr 0 0),(5,.mOut A),(7,.ptr 1 0),(8,.lit (.int .i64 (p:Int))),(9,.lit (.int .i64 y2)),(32,.mAg C.1.ags),(33,.lit (.int .i64 C.1.ags.length)),(34,.lit (.int .i64 i1)),(42,.mOut A),(43,.lit (.int .i64 A.length)),(44,.lit (.int .i64 i2))],[.box 30 (C.1.a false),.box 60 (e1.a false)]⟩) (fun i2 y2=>y2=((((A.take i2).map fun o=>Ae4 o p e1.se.toNat).sum:Nat):Int)/\y2<=518*i2) (0) (wQ [0,1] ?_ ?_) (⟨rfl,by simp⟩) fun i2 y2 hi2 hy2=>?_
  ·simp[go_sem,H1]
  ·simp[go_sem,H1]
  refine Bu H1<|.seq ?_
  refine Br ?_ ?_<;>intro h45
  ·refine Bp<|.seq<|.block ?_
   obtain⟨e2,H2⟩:=gx A i2
   refine Bu (Fa H1 H2)<|.seq ?_
   have hO2:=hO e2 (Ac H2)
   have hOl:=hO2.len
   obtain⟨X,hX⟩:∃X,X=(e2.ses.drop p).take e1.se.toNat:=⟨_,rfl⟩
   have hXl:(X.length:Int)=e1.se:=by rw[hX,A5,Bc];omega
   have hT:List.drop p (List.take (↑p+e1.se).toNat (tYs e2.ses))=tYs X:=by rw[hX,List.take_drop,show (↑p+e1.se).toNat=p+e1.se.toNat by omega,tYs,tYs,List.map_drop,List.map_take]
   have hw3:=Dw ((p:Int)+e1.se:Int)
   refine Bu (Jb H1 H2 hw3) ?_
   refine Cl ?_ ?_<;>intro h56<;>simp[go_sem] at h56
   ·exfalso;omega
   refine Bp<|.seq<|.H (P6 H1 H2 hw3 hT)<|.block ?_
   refine Bs X.length (fun i3 (y3:Int)=>⟨[(4,.ptr 0 0),(5,.mOut A),(7,.ptr 1 0),(8,.lit (.int .i64 (p:Int))),(9,.lit (.int .i64 y3)),(10,.lit (.int .i64 i2)),(32,.mAg C.1.ags),(33,.lit (.int .i64 C.1.ags.length)),(34,.lit (.int .i64 i1)),(42,.mOut A),(43,.lit (.int .i64 A.length)),(44,.lit (.int .i64 i2)),(64,.mYs X),(65,.lit (.int .i64 X.length)),(66,.lit (.int .i64 i3))],[.box 30 (C.1.a false),.box 60 (e1.a false)]⟩) (fun i3 y3=>y3=y2+((((X.take i3).map fun s=>Lb (Acl s)).sum:Nat):Int)/\y3<=y2+259*i3) (y2) (wQ [0,1] ?_ ?_) (⟨by simp,by simp⟩) fun i3 y3 hi3 hy3=>?_
   ·simp[go_sem,H1,H2,hw3]
   ·simp[go_sem,H1,H2,hw3]
   refine Bu (Jb H1 H2 hw3)<|.seq ?_
   refine Br ?_ ?_<;>intro h67
   ·refine Bp<|.seq<|.block ?_
    obtain⟨e4,H4⟩:=gx X i3
    refine Bu (P6 H1 H2 hw3 H4) ?_
    obtain⟨L,hL,hLn⟩:=hO2.said e4 (Ay (Aq (by rw[<- hX];exact Ac H4)))
    have hsd:=T7 e4 L hL.srv hL.eq hL.len hL.by'
    rw[Uh] at hsd
    refine B8 (P6 H1 H2 hw3 H4) (hsd)<|.seq ?_
    refine Bu (P6 H1 H2 hw3 H4) ?_
    refine Cl ?_ ?_<;>intro h76<;>simp[go_sem] at h76
    refine Bp<|.H (P6 H1 H2 hw3 H4)<|.block ?_
    refine Bs L.length (fun i4 (y4:Int)=>⟨[(4,.ptr 0 0),(5,.mOut A),(7,.ptr 1 0),(8,.lit (.int .i64 (p:Int))),(9,.lit (.int .i64 y4)),(10,.lit (.int .i64 i2)),(32,.mAg C.1.ags),(33,.lit (.int .i64 C.1.ags.length)),(34,.lit (.int .i64 i1)),(42,.mOut A),(43,.lit (.int .i64 A.length)),(44,.lit (.int .i64 i2)),(64,.mYs X),(65,.lit (.int .i64 X.length)),(66,.lit (.int .i64 i3)),(77,.mMsg L),(78,.lit (.int .i64 L.length)),(79,.lit (.int .i64 i4))],[.box 30 (C.1.a false),.box 60 (e1.a false)]⟩) (fun i4 y4=>y4=y3+((Lb (L.take i4):Nat):Int)/\y4<=y3+i4) (y3) (wQ [0,1] ?_ ?_) (⟨by simp[Lb],by simp⟩) fun i4 y4 hi4 hy4=>?_
    ·simp[go_sem,H1,H2,hw3,H4]
    ·simp[go_sem,H1,H2,hw3,H4]
    refine Bu (P6 H1 H2 hw3 H4)<|.seq ?_
    refine Br ?_ ?_<;>intro h80
    ·refine Bp<|.seq<|.block ?_
     obtain⟨e5,H5⟩:=gx L i4
     refine Bu (Zd H1 H2 hw3 H4 H5) ?_
     by_cases hc24:e5.args.length=2
     ·obtain⟨e6,H6⟩:=gx e5.args 0
      refine B3 (fun K kk=>by simp[go_sem,H1,H2,hw3,H4,H5,hc24,H6];repeat first | exact kk | refine aK ?_) ?_
      refine Br ?_ ?_<;>intro h110
      ·have hw7:=Dw (y4+1:Int)
       refine Cg (fun K kk=>by simp[go_sem,H1,H2,hw3,H4,H5,hc24,H6,hw7];exact kk) ?_
       refine Cg (fun K kk=>by simp[go_sem,H1,H2,hw3,H4,H5,hc24,H6,hw7];exact kk) ?_
       refine⟨by omega,((y4+1)),?_,wQ [0,1] ?_ ?_⟩
       ·exact⟨by rw[List.take_add_one,H5,Lp,Option.toList_some,Ax9 (m:=e5) (by (simp[Zc,hc24,H6];omega))];push_cast;omega,by omega⟩
       all_goals simp[go_sem,Dw ((i4:Int)+1),H1,H2,hw3,H4,H5,hc24,H6,hw7]
      refine Bp<|.S1 (fun K kk=>by simp[go_sem,H1,H2,hw3,H4,H5,hc24,H6];exact kk) ?_
      refine⟨by omega,(y4),?_,wQ [0,1] ?_ ?_⟩
      ·exact⟨by rw[List.take_add_one,H5,Lp,Option.toList_some,Wx (m:=e5) (by (simp[Zc,hc24,H6];omega))];push_cast;omega,by omega⟩
      all_goals simp[go_sem,Dw ((i4:Int)+1),H1,H2,hw3,H4,H5,hc24,H6]
     have hn24:((e5.args.length:Int) == 2)=false:=by simp;omega
     refine B3 (fun K kk=>by simp[go_sem,H1,H2,hw3,H4,H5,hc24,hn24];repeat first | exact kk | refine aK ?_) ?_
     refine Br ?_ ?_<;>intro h110
     ·have hw8:=Dw (y4+1:Int)
      refine Cg (fun K kk=>by simp[go_sem,H1,H2,hw3,H4,H5,hc24,hn24,hw8];exact kk) ?_
      refine Cg (fun K kk=>by simp[go_sem,H1,H2,hw3,H4,H5,hc24,hn24,hw8];exact kk) ?_
      refine⟨by omega,((y4+1)),?_,wQ [0,1] ?_ ?_⟩
      ·exact⟨by rw[List.take_add_one,H5,Lp,Option.toList_some,Ax9 (m:=e5) (by first | (simp[Zc,hc24,H6];omega) | (simp[Zc,hc24];omega))];push_cast;omega,by omega⟩
      all_goals simp[go_sem,Dw ((i4:Int)+1),H1,H2,hw3,H4,H5,hc24,hn24,hw8]
     refine Bp<|.S1 (fun K kk=>by simp[go_sem,H1,H2,hw3,H4,H5,hc24,hn24];exact kk) ?_
     refine⟨by omega,(y4),?_,wQ [0,1] ?_ ?_⟩
     ·exact⟨by rw[List.take_add_one,H5,Lp,Option.toList_some,Wx (m:=e5) (by first | (simp[Zc,hc24,H6];omega) | (simp[Zc,hc24];omega))];push_cast;omega,by omega⟩
     all_goals simp[go_sem,Dw ((i4:Int)+1),H1,H2,hw3,H4,H5,hc24,hn24]
    refine Bt<|.H1 (P6 H1 H2 hw3 H4) ?_
    refine⟨by omega,(y4),?_,wQ [0,1] ?_ ?_⟩
    ·(have h4:=hy4.1;have h5:=hy4.2;rw[Bf (by omega)] at h4;exact⟨by rw[List.take_add_one,H4];simp only[List.map_append,List.sum_append,Option.toList_some,List.map_cons,List.map_nil,List.sum_cons,List.sum_nil];rw[hL.all];push_cast;omega,by omega⟩)
    all_goals simp[go_sem,Dw ((i3:Int)+1),H1,H2,hw3,H4]
   refine Bt ?_
   have h3:=hy3.1
   have h3b:=hy3.2
   rw[Bf (by omega)] at h3
   have hS2:y3=((((A.take (i2+1)).map fun o=>Ae4 o p e1.se.toNat).sum:Nat):Int):=by rw[List.take_add_one,H2];simp only[List.map_append,List.sum_append,Option.toList_some,List.map_cons,List.map_nil,List.sum_cons,List.sum_nil];rw[show Ae4 e2 p e1.se.toNat=(X.map fun s=>Lb (Acl s)).sum by rw[hX];rfl];push_cast;omega
   have hS3:y3<=518*(i2+1:Nat):=by omega
   have hS4:=hN i2 (by omega)
   rw[<- hS2] at hS4
   have hm1:0<=((i2:Int)+1)*e1.ra:=Int.mul_nonneg (by omega) (by omega)
   have hm2:((i2:Int)+1)*e1.ra<=1000*1000:=Int.mul_le_mul (by omega) (by omega) (by omega) (by decide)
   have hwA:=Dw ((i2:Int)+1)
   have hwB:=Dw (((i2:Int)+1)*e1.ra) (by omega) (by omega)
   have hwC:=Dw (e1.bu+((i2:Int)+1)*e1.ra) (by omega) (by omega)
   refine Bu (cj6 H1 H2 hw3 hwA hwB hwC) ?_
   refine Cl ?_ ?_<;>intro h124<;>simp[go_sem] at h124
   ·exfalso;omega
   refine Bp<|.H1 (Jb H1 H2 hw3) ?_
   refine⟨by omega,(y3),?_,wQ [0,1] ?_ ?_⟩
   ·exact⟨hS2,hS3⟩
   all_goals simp[go_sem,Dw ((i2:Int)+1),H1,H2,hw3]
  refine Bt<|.H1 H1 ?_
  refine⟨by omega,(),?_,wQ [0] ?_ ?_⟩
  ·trivial
  all_goals simp[go_sem,Dw ((i1:Int)+1),H1]
 refine Bt<|.L Dy (Ap6) ?_
 refine Bz (Fk ?_);simp[go_sem]
 exact⟨true,by rfl,rfl⟩
def Kj:Bool:=(Em (Ik l)).choose
theorem P9:PP 6 [] [.mI l] [] (.lit (.bool (Kj l))):=(Em (Ik l)).choose_spec.1
theorem Qd:(Kj l)=true:=(Em (Ik l)).choose_spec.2
end
theorem budget_walk (A:Option Addr) (len cap:Nat) (zs:List Int) (w:World) (hA:Ant w A len cap zs) :
 Calls Tryz.prog 6 #[.slice A len cap] w fun e w'=>e=.returned (.bool true)/\Below w.heap.size w w':=by
 obtain⟨xs,hx⟩:=hA.tree ((C0 w).S false) (fun b h=>A28 h)
 have h:=P9 xs
 rw[Qd] at h
 refine h.top w _ rfl fun t c u hc hu=>?_
 match t,hc,hu with
 | 0,hc,hu =>
  simp at hc hu
  subst hc;subst hu
  exact .imm _ _ _ _ hx
 | t+1,hc,hu=>simp at hc
end Go.Proofs.YtkkimgjinbaemaaGreat
