/- The walk. -/
import Derived.Test.YtkkimgjinbaemaaGreatKal
noncomputable section
namespace Go.Proofs.YtkkimgjinbaemaaGreat
open Go.RowKit
set_option linter.unusedVariables false
set_option linter.unusedSimpArgs false
set_option linter.defProp false
set_option linter.unusedSectionVars false
set_option maxRecDepth 100000
set_option maxHeartbeats 4000000
section
variable {k:Nat} {D:Dx}
theorem A09 {c:Fs} (hD:c.desks[k]? = some D) {n:List (List Int)}:W5 c { c with desks:=c.desks.set k { D with draws:=n } }:=⟨rfl,fun j x h=>by
 by_cases e:j=k
 ·subst e
  rw[hD] at h
  injection h with h
  subst h
  exact⟨n,Bg (Ab.1 hD).1⟩
 exact⟨x.draws,by show (c.desks.set k _)[j]? = _;rw[A9 (Ne.symm e)];exact h⟩⟩
theorem A1a {c:Fs} (hc:J9 c) (hD:c.desks[k]? = some D) {n:List Int} (h8:D.draws.length<8) (hn:n.length=8) (hB:By n):J9 { c with desks:=c.desks.set k { D with draws:=D.draws++[n] } }:=by
 have hm:=hc.desk D (Ac hD)
 have hd:∀d∈c.desks.set k { D with draws:=D.draws++[n] },F8 d/\1<=d.aud.length/\d.aud.length<=2:=fun d hd=>by
  rcases Bi hd with h | rfl
  ·exact hc.desk d h
  exact⟨⟨⟨hm.1.b.reg,hm.1.b.reqs,hm.1.b.legs,by simp;omega,fun s hs=>by
   rcases A0.1 hs with h | h
   ·exact hm.1.b.draw s h
   ·rw[An.1 h];omega,hm.1.b.aud⟩,hm.1.vehs,hm.1.reqs,fun s hs=>by
   rcases A0.1 hs with h | h
   ·exact hm.1.dr s h
   rw[An.1 h];exact⟨by omega,hB⟩,hm.1.rq⟩,hm.2⟩
 exact⟨hc.ref,hc.jun,hc.nj,hc.na,by simpa using hc.desks,hd,hc.sigs,hc.sig,hc.svcs,hc.svc,hc.stuck,hc.views,hc.view,hc.vw,fun j d a h ha=>by
  have h:(c.desks.set k { D with draws:=D.draws++[n] })[j]? = some d:=h
  by_cases e:j=k
  ·subst e
   rw[Bg (Ab.1 hD).1] at h
   injection h with h
   rw[<- h]
   exact hc.dl j D a hD ha
  rw[A9 (Ne.symm e)] at h
  exact hc.dl j d a h ha⟩
theorem A1p (l:List Dx) (hk:k<l.length) (v:AV):((Cd l).set (k*17+15) v)[k*17+15]? = some v:=Bg (by rw[Rg];omega)
variable {l:List Dx}
theorem Ap7 (h:l[k]? = some D) (X:List (List Int)):ttL ((Cd l).set (k*17+15) (.imm false 1 (tYs X)))=some (I6 (l.set k { D with draws:=X })).flatten:=by rw[<- Azh h,Ayd]
theorem Aom (l:List Dx):∀e∈I6 l,e.length=17:=fun e he=>by
 obtain⟨d,_,rfl⟩:=A4.1 he
 rfl
theorem Aq9 (h:l[k]? = some D):l.set k { D with draws:=D.draws }=l:=by
 apply List.ext_getElem?
 intro i
 rw[List.getElem?_set]
 split
 ·next e=>subst e;rw[h,if_pos (Ab.1 h).1]
 rfl
theorem Al0 (h:l[k]? = some D):ttL ((Cd l).set (k*17+15) (.imm false 1 (tYs D.draws)))=some (I6 l).flatten:=by rw[Ap7 h,Aq9 h]
theorem Atf (h:l[k]? = some D) (n:List Int):ttL ((Cd l).set (k*17+15) (.imm false 1 (tYs D.draws++[[T.sl 1 (tY n)]])))=some (I6 (l.set k { D with draws:=D.draws++[n] })).flatten:=by
 rw[<- Ap7 h,show tYs (D.draws++[n])=tYs D.draws++[[T.sl 1 (tY n)]] from by simp]
section
variable (c:Fs) (a:Int) (n:List Int) (hc:J9 c) (hn:n.length<=1000000) (hB:By n)
include a hc hn hB
theorem Agw:∃res,PP 42 [] [c.g,.li a,.imm false 1 (tY n)] [] res/\IsD (fun d:Fs=>d.g) (fun d=>J9 d/\d.cfg=c.cfg/\W5 c d) res:=by
 refine Er Tryz.func42 ?_
 have hr:=hc.ref
 have hds:=hc.desks
 have hna:=hc.na
 refine Bq ?_
 by_cases hk:0<=a/\a<c.desks.length
 ·obtain⟨k,rfl⟩:∃k:Nat,a=k:=⟨a.toNat,by omega⟩
  have hkl:k<c.desks.length:=by omega
  have hD:c.desks[k]? = some c.desks[k]:=Aa hkl
  generalize c.desks[k]=D at hD
  have hlt:¬((k:Int)<0):=by omega
  have hge:¬((c.desks.length:Int)<=(k:Int)):=by omega
  have hin:k*17+15<(Cd c.desks).length:=by rw[Rg];omega
  have hcl:=Rg c.desks
  refine B3 (fun K kk=>by simp[go_sem];refine .l (Ado c hc.b k D hD) ?_;simp[go_sem,Fh];exact kk)<|.seq ?_
  refine Bu (Jb hr hlt hge) ?_
  refine Br ?_ ?_<;>intro h27
  ·
   refine Bq ?_
   refine Dm 3 ?_
   simp[go_sem,Fp]
   refine C7 2 17 (I6 c.desks) rfl (Al0 hD) (Aom _) (by simp) ?_
   simp[go_sem]
   refine Bz (Fk ?_);simp[go_sem]
   exact⟨c,by simp[go_sem,hr],hc,rfl,.refl _⟩
  -- a nonce
  refine Bp<|.H Dy<|.seq ?_
  have hat:=A1p c.desks hkl (.own 3 D.draws.length)
  refine Bu hat ?_
  refine Br ?_ ?_<;>intro h38
  ·
   refine Dg (fun K kk=>by simp[go_sem,hat];(repeat refine aK ?_);refine .lo (Ey.froz (Gf _ (by simpa using hn) (by simp[T.plain]))) rfl (by simp) ?_;simp[go_sem,hat];(repeat first | exact kk | refine aK ?_)) ?_
   refine Bq ?_
   refine Dm 3 ?_
   simp[go_sem,Fp]
   refine C7 2 17 (I6 (c.desks.set k { D with draws:=(D.draws++[n]) })) rfl (Atf hD n) (Aom _) (by simp) ?_
   simp[go_sem]
   refine Bz (Fk ?_);simp[go_sem]
   exact⟨{ c with desks:=c.desks.set k { D with draws:=D.draws++[n] } },by simp[go_sem,hr],A1a hc hD (by omega) (by omega) hB,rfl,A09 hD⟩
  -- none
  refine Bp<|.R ?_
  refine Dm 3 ?_
  simp[go_sem,Fp]
  refine C7 2 17 (I6 c.desks) rfl (Al0 hD) (Aom _) (by simp) ?_
  simp[go_sem]
  refine Bz (Fk ?_);simp[go_sem]
  exact⟨c,by simp[go_sem,hr],hc,rfl,.refl _⟩
 -- no such desk
 have hk2:a<0\/(c.desks.length:Int)<=a:=by omega
 refine B8 Dy (Ov c hc.b)<|.seq ?_
 refine Bu hr ?_
 refine Br ?_ ?_<;>intro h27
 ·
  refine Bq ?_
  refine B2 Dy 2 ?_
  refine B2 Dy 3 ?_
  refine B2 Dy 4 ?_
  refine B2 Dy 5 ?_
  refine Bz (Fk ?_);simp[go_sem]
  exact⟨c,by simp[go_sem,hr],hc,rfl,.refl _⟩
 -- not so
 exfalso
 omega
theorem Ai6:∃d:Fs,PP 42 [] [c.g,.li a,.imm false 1 (tY n)] [] (d.g)/\(J9 d/\d.cfg=c.cfg/\W5 c d):=Em (Agw c a n hc hn hB)
end
end
section
def Pc (e:Mr):Prop:=e.bytes.length<=1000000/\By e.bytes
def Wf (s:Fj) (e:Mr):Fj:=by
 classical
 exact if h:Apw s/\e.bytes.length<=1000000 then (if e.kind=1 then I8 s h.1.1 else if e.kind=2 then Mm s else if e.kind=3 then Ml s e.bytes h.1.1 h.2 else s) else s
def Aal (l:List Fj) (e:Mr):List Fj:=if 0<=e.se then (match l[e.se.toNat]? with | some s=>l.set e.se.toNat (Wf s e) | none=>l) else l
variable {l:List Fj} {e:Mr} {s:Fj}
theorem Anf (h0:0<=e.se) (hs:l[e.se.toNat]? = some s):Aal l e=l.set e.se.toNat (Wf s e):=by simp[Aal,h0,hs]
theorem Abw (h:¬(0<=e.se/\e.se<l.length)):Aal l e=l:=by
 unfold Aal
 split
 ·rw[Ar (by omega)]
 rfl
theorem Atx (hs:Apw s) (he:e.bytes.length<=1000000) (hk:e.kind=1):Wf s e=I8 s hs.1:=by simp[Wf,hs,he,hk]
theorem Ayl (hs:Apw s) (he:e.bytes.length<=1000000) (hk:e.kind=2):Wf s e=Mm s:=by simp[Wf,hs,he,hk]
theorem Ayk (hs:Apw s) (he:e.bytes.length<=1000000) (hk:e.kind=3):Wf s e=Ml s e.bytes hs.1 he:=by simp[Wf,hs,he,hk]
theorem Att {i:Nat} (hs:l[i]? = some s):l.set i s=l:=by
 have:=(Ab.1 hs)
 obtain⟨h,rfl⟩:=this
 exact List.set_getElem_self h
theorem Avc (h1:e.kind≠1) (h2:e.kind≠2) (h3:e.kind≠3):Aal l e=l:=by
 unfold Aal
 split
 ·split
  ·rename_i s hs
   have:Wf s e=s:=by simp[Wf,h1,h2,h3]
   rw[this]
   exact Att hs
  rfl
 rfl
theorem J9.stuckd {c d:Fs} (h:J9 c) (q:d.cfg=c.cfg/\d.ref=c.ref/\d.now=c.now/\d.desks=c.desks/\d.sigs=c.sigs/\d.svcs=c.svcs/\d.views=c.views/\d.stuck.length=c.stuck.length):J9 d:=by
 obtain⟨q1,q2,q3,q4,q5,q6,q7,q8⟩:=q
 exact⟨by rw[q2];exact h.ref,by rw[q1];exact h.jun,by rw[q1];exact h.nj,by rw[q1];exact h.na,by rw[q4,q1];exact h.desks,by rw[q4];exact h.desk,by rw[q5,q1];exact h.sigs,by rw[q5];exact h.sig,by rw[q6,q1];exact h.svcs,by rw[q6];exact h.svc,by rw[q8,q1];exact h.stuck,by rw[q7,q1];exact h.views,by rw[q7];exact h.view,by rw[q7,q1];exact h.vw,by rw[q4,q1];exact h.dl⟩
structure DoQ (b:Jf) (e:Mr) (d:Jf×P1×Bool):Prop where
  i:Ts d.1
  cfg:d.1.city.cfg=b.city.cfg
  len:d.1.sess.length=b.sess.length
  few:e.kind<=3->d=(⟨b.city,Aal b.sess e⟩,⟨[],[]⟩,false)
  tick:e.kind=6->d.2.2=true/\(d.2.1.ses.length:Int)=En b.city.cfg.ags b.city.cfg.ags.length/\d.1.city.now=IntKind.i64.wrap ((if 1073741823<b.city.now then 1073741823 else b.city.now)+1)/\A1d b (d.1,d.2.1)
  none:e.kind≠6->d.2.2=false
  keep:3<e.kind->e.kind≠6->d.1.sess=b.sess/\W5 b.city d.1.city
variable {b:Jf}
theorem DoQ.ses (hb:Ts b) {s x:Fj} (h0:0<=e.se) (hs:b.sess[e.se.toNat]? = some s) (hx:Apw x) (h:Wf s e=x) (hk:e.kind<=3):DoQ b e (⟨b.city,b.sess.set e.se.toNat x⟩,⟨[],[]⟩,false) :=
 ⟨⟨hb.city,by simpa using hb.n,Ze hb.ses hx⟩,rfl,by simp,fun _=>by rw[Anf h0 hs,h],fun h=>by omega,fun _=>rfl,fun h=>by omega⟩
theorem DoQ.no (hb:Ts b) (h:Aal b.sess e=b.sess\/3<e.kind) (hk:e.kind≠6):DoQ b e (b,⟨[],[]⟩,false) :=
 ⟨hb,rfl,rfl,fun h3=>(by rcases h with h | h<;>first | (rw[h];done) | omega),fun h=>absurd h hk,fun _=>rfl,fun _ _=>⟨rfl,W5.refl _⟩⟩
theorem DoQ.city (hb:Ts b) {c:Fs} (hc:J9 c) (h:c.cfg=b.city.cfg) (hK:W5 b.city c) (h3:3<e.kind) (hk:e.kind≠6):DoQ b e (⟨c,b.sess⟩,⟨[],[]⟩,false) :=
 ⟨⟨hc,hb.n,hb.ses⟩,h,rfl,fun h=>by omega,fun h=>absurd h hk,fun _=>rfl,fun _ _=>⟨rfl,hK⟩⟩
section
variable (b:Jf) (e:Mr) (hb:Ts b) (he:Pc e)
include hb he
theorem Vy:Ct 14 [b.g,e.g] (fun d:Jf×P1×Bool=>.tup [d.1.g,d.2.1.g,.lb d.2.2]) (fun d=>DoQ b e d):=by
 refine Er Tryz.func14 ?_
 have hbn:=hb.n
 have heb:=he.1
 refine Bq ?_
 refine B8 Dy (Adp b hb.b) ?_
 refine Bq<|.seq ?_
 refine B2 Dy 4 ?_
 refine B2 Dy 5 ?_
 refine B2 Dy 6 ?_
 refine B2 Dy 7 ?_
 refine Bq<|.block ?_
 refine Bq ?_
 refine Br ?_ ?_<;>intro h25
 ·refine Bq ?_
  refine Br ?_ ?_<;>intro h27
  ·have hex:=h27
   obtain⟨sk,hsk⟩:∃u,b.sess[e.se.toNat]? = some u:=⟨_,Aa (by omega)⟩
   have hsq:=hb.ses sk (Ac hsk)
   have hv:=Alv sk hsq.1
   have hq:=Aco sk hsq.1
   refine Cp hsk (hv) ?_
   refine Bq ?_
   refine B2 Dy 8 ?_
   exact .ret (Ep Dy (⟨b.city,(b.sess).set e.se.toNat (I8 sk hsq.1)⟩,⟨[],[]⟩,false) (DoQ.ses hb hex.1 hsk ⟨hq.1,hq.2.1 hsq.2⟩ (Atx hsq heb h25) (by omega)))
  refine Bp<|.R ?_
  refine B2 Dy 8 ?_
  exact .ret (Ep Dy (⟨b.city,b.sess⟩,⟨[],[]⟩,false) (DoQ.no hb (.inl (Abw (by omega))) (by omega)))
 refine Bq ?_
 refine Br ?_ ?_<;>intro h40
 ·refine Bq ?_
  refine Br ?_ ?_<;>intro h42
  ·have hex:=h42
   obtain⟨sk,hsk⟩:∃u,b.sess[e.se.toNat]? = some u:=⟨_,Aa (by omega)⟩
   have hsq:=hb.ses sk (Ac hsk)
   have hv:=Alw sk
   have hq:=Amp sk
   refine Cp hsk (hv) ?_
   refine Bq ?_
   refine B2 Dy 8 ?_
   exact .ret (Ep Dy (⟨b.city,(b.sess).set e.se.toNat (Mm sk)⟩,⟨[],[]⟩,false) (DoQ.ses hb hex.1 hsk hq (Ayl hsq heb h40) (by omega)))
  refine Bp<|.R ?_
  refine B2 Dy 8 ?_
  exact .ret (Ep Dy (⟨b.city,b.sess⟩,⟨[],[]⟩,false) (DoQ.no hb (.inl (Abw (by omega))) (by omega)))
 refine Bq ?_
 refine Br ?_ ?_<;>intro h55
 ·refine Bq ?_
  refine Br ?_ ?_<;>intro h57
  ·have hex:=h57
   obtain⟨sk,hsk⟩:∃u,b.sess[e.se.toNat]? = some u:=⟨_,Aa (by omega)⟩
   have hsq:=hb.ses sk (Ac hsk)
   have hv:=Alu sk e.bytes hsq.1 heb
   have hq:=Amo sk e.bytes hsq.1 heb
   refine Cp hsk (hv) ?_
   refine Bq ?_
   refine B2 Dy 8 ?_
   exact .ret (Ep Dy (⟨b.city,(b.sess).set e.se.toNat (Ml sk e.bytes hsq.1 heb)⟩,⟨[],[]⟩,false) (DoQ.ses hb hex.1 hsk ⟨hq.1,hq.2 hsq.2 he.2⟩ (Ayk hsq heb h55) (by omega)))
  refine Bp<|.R ?_
  refine B2 Dy 8 ?_
  exact .ret (Ep Dy (⟨b.city,b.sess⟩,⟨[],[]⟩,false) (DoQ.no hb (.inl (Abw (by omega))) (by omega)))
 refine Bq ?_
 refine Br ?_ ?_<;>intro h72
 ·obtain⟨Y1,cY1,qY1⟩:=Ai6 b.city e.x e.bytes hb.city heb he.2
  have hv:=cY1
  have hq:=qY1
  generalize Y1=G at hv hq
  refine Dr Dy (hv) ?_
  refine Bq ?_
  refine B2 Dy 8 ?_
  exact .ret (Ep Dy (⟨G,b.sess⟩,⟨[],[]⟩,false) (DoQ.city hb hq.1 hq.2.1 hq.2.2 (by omega) (by omega)))
 refine Bq ?_
 refine Br ?_ ?_<;>intro h82
 ·obtain⟨Y2,cY2,qY2⟩:=Em (Agv b.city e.x e.y hb.city.b (hb.city.stuck))
  have hv:=cY2
  have hq:=qY2
  generalize Y2=G at hv hq
  refine Dr Dy (hv) ?_
  refine Bq ?_
  refine B2 Dy 8 ?_
  exact .ret (Ep Dy (⟨G,b.sess⟩,⟨[],[]⟩,false) (DoQ.city hb (hb.city.stuckd hq) hq.1 (W5.same hq.2.2.1 hq.2.2.2.1) (by omega) (by omega)))
 refine Bq ?_
 refine Br ?_ ?_<;>intro h92
 ·obtain⟨Y3,cY3,qY3⟩:=Ac4 b hb
  have hv:=cY3
  have hq:=qY3
  generalize Y3=G at hv hq
  refine Da Dy [8] hv ?_
  refine VX.D ?_
  exact .ret (Ep Dy (G.1,G.2,true) ⟨hq.1,hq.2.1,hq.2.2.1,fun h=>by omega,fun _=>⟨rfl,hq.2.2.2⟩,fun h=>absurd h92 h,fun _ h=>absurd h92 h⟩)
 refine Bp<|.R ?_
 refine B2 Dy 8 ?_
 exact .ret (Ep Dy (⟨b.city,b.sess⟩,⟨[],[]⟩,false) (DoQ.no hb (.inl (Avc (by omega) (by omega) (by omega))) (by omega)))
def Kv:Jf×P1×Bool:=(Em (Vy b e hb he)).choose
theorem Alz:PP 14 [] [b.g,e.g] [] (.tup [.agg ((Kv b e hb he).1.a false),.agg ((Kv b e hb he).2.1.a false),.lit (.bool (Kv b e hb he).2.2)]):=(Em (Vy b e hb he)).choose_spec.1
theorem Mn:DoQ b e (Kv b e hb he):=(Em (Vy b e hb he)).choose_spec.2
end
end
def Zh (b:Jf) (e:Mr):Jf×P1×Bool:=by
 classical
 exact if h:Ts b/\Pc e then Kv b e h.1 h.2 else (b,⟨[],[]⟩,false)
def Oh:Jf->List Mr->List P1
 | _,[]=>[]
 | b,e::l=>if (Zh b e).2.2 then (Zh b e).2.1::Oh (Zh b e).1 l else Oh (Zh b e).1 l
theorem Abx {b:Jf} {e:Mr} (hb:Ts b) (he:Pc e):Zh b e=Kv b e hb he:=by simp[Zh,hb,he]
def bkY (y:List Ga×List H0×Int×Int×Int×Int×Bool×Int×List Dx×List Hz×List F3×List Int×List Gp×List Fj×List P1):Jf:=⟨⟨⟨y.1,y.2.1,y.2.2.1,y.2.2.2.1,y.2.2.2.2.1,y.2.2.2.2.2.1⟩,y.2.2.2.2.2.2.1,y.2.2.2.2.2.2.2.1,y.2.2.2.2.2.2.2.2.1,y.2.2.2.2.2.2.2.2.2.1,y.2.2.2.2.2.2.2.2.2.2.1,y.2.2.2.2.2.2.2.2.2.2.2.1,y.2.2.2.2.2.2.2.2.2.2.2.2.1⟩,y.2.2.2.2.2.2.2.2.2.2.2.2.2.1⟩
theorem Arh {b:Jf} {l:List Mr} {i:Nat} {e:Mr} (h:l[i]? = some e):Oh b (l.drop i)=if (Zh b e).2.2 then (Zh b e).2.1::Oh (Zh b e).1 (l.drop (i+1)) else Oh (Zh b e).1 (l.drop (i+1)):=by
 obtain⟨hi,rfl⟩:=Ab.1 h
 rw[List.drop_eq_getElem_cons hi,Oh]
section
variable (c:Fc) (l:List Mr) (hb:Ab4 c) (hp:Mo c=true) (hJ:∀j∈c.juns,Nv j/\j.phs.length<=8) (hA:∀a∈c.ags,a.sec.length<=1000000/\a.lims.length<=1000000/\a.rq<=3) (hl1:c.juns.length<=4) (hl2:c.ags.length<=4) (hS:∀x∈c.ags,1<=x.se/\x.se<=2) (hl:l.length<=1000000) (hE:∀e∈l,Pc e)
include hb hp hJ hA hl1 hl2 hS hl hE
theorem T2:Ct 22 [c.g,.mEv l] (fun d:List P1=>.mOut d) (fun d=>d=Oh (Fq c hb hp hJ hA hl1 hl2 hS) (l.take 400)):=by
 refine Er Tryz.func22 ?_
 have hNv:=Ajt c hb hp hJ hA hl1 hl2 hS
 have hNq:=Um c hb hp hJ hA hl1 hl2 hS
 obtain⟨N,hN⟩:∃N,N=Fq c hb hp hJ hA hl1 hl2 hS:=⟨_,rfl⟩
 rw[<- hN] at hNv hNq
 obtain⟨lt,hlt⟩:∃lt,lt=l.take (min l.length 400):=⟨_,rfl⟩
 have hT:List.take (if (400:Int)<(l.length:Int) then (400:Int) else (l.length:Int)).toNat (List.map Mr.t l)=List.map Mr.t lt:=by rw[hlt,List.map_take];congr 1;split<;>omega
 have hlm:l.take 400=l.take (min l.length 400):=by rw[Nat.min_comm,<- List.take_take,List.take_length]
 have hll:lt.length<=400:=by rw[hlt,A5];omega
 have hlE:∀e∈lt,Pc e:=fun e h=>hE e (by rw[hlt] at h;exact Aq h)
 refine Bq ?_
 refine B8 Dy (hNv) ?_
 refine Bq<|.seq ?_
 refine Bu hT<|.block ?_
 refine Cf 6 49 2 (by decide) (k':=2) (by simp[go_sem]) ?_
 simp[go_sem,-Prod.exists]
 refine Bs (lt.length) (fun i1 (y1:(List Ga)×(List H0)×Int×Int×Int×Int×Bool×Int×(List Dx)×(List Hz)×(List F3)×(List Int)×(List Gp)×(List Fj)×(List P1))=>⟨[(5,.ptr 0 0),(6,.own 1 y1.2.2.2.2.2.2.2.2.2.2.2.2.2.2.length),(18,.mEv lt),(19,.li (lt.length)),(20,.li i1)],[.box 40 [.mJun y1.1,.mAg y1.2.1,.li y1.2.2.1,.li y1.2.2.2.1,.li y1.2.2.2.2.1,.li y1.2.2.2.2.2.1,.lb y1.2.2.2.2.2.2.1,.li y1.2.2.2.2.2.2.2.1,.mDesk y1.2.2.2.2.2.2.2.2.1,.mSig y1.2.2.2.2.2.2.2.2.2.1,.mSvc y1.2.2.2.2.2.2.2.2.2.2.1,.mI y1.2.2.2.2.2.2.2.2.2.2.2.1,.mView y1.2.2.2.2.2.2.2.2.2.2.2.2.1,.imm false 4 (Zw y1.2.2.2.2.2.2.2.2.2.2.2.2.2.1)],.row 49 2 false false (A0s y1.2.2.2.2.2.2.2.2.2.2.2.2.2.2)]⟩) (fun i1 y1=>Ts (bkY y1)/\y1.2.2.2.2.2.2.2.2.2.2.2.2.2.2++Oh (bkY y1) (lt.drop i1)=Oh N lt/\y1.2.2.2.2.2.2.2.2.2.2.2.2.2.2.length<=i1) (N.city.cfg.juns,N.city.cfg.ags,N.city.cfg.per,N.city.cfg.cap,N.city.cfg.hold,N.city.cfg.lock,N.city.ref,N.city.now,N.city.desks,N.city.sigs,N.city.svcs,N.city.stuck,N.city.views,N.sess,[]) (wk Dy [1,2]) (⟨hNq.1,rfl,by simp⟩) fun i1 y1 hi1 hy1=>?_
 refine Bq<|.seq ?_
 refine Br ?_ ?_<;>intro h21
 ·refine Bp<|.seq<|.block ?_
  obtain⟨e1,H1⟩:=gx lt i1
  refine Bu H1 ?_
  have hDv:=Alz (bkY y1) e1 hy1.1 (hlE e1 (Ac H1))
  have hDq:=Mn (bkY y1) e1 hy1.1 (hlE e1 (Ac H1))
  have hDf:=Abx hy1.1 (hlE e1 (Ac H1))
  have hrd:=Arh (b:=bkY y1) H1
  rw[hDf] at hrd
  generalize Kv (bkY y1) e1 hy1.1 (hlE e1 (Ac H1))=D at hDv hDq hrd
  refine B8 H1 (hDv) ?_
  refine Bu H1 ?_
  refine Bu H1 ?_
  refine Br ?_ ?_<;>intro h32
  ·refine B0 H1 ?_
   refine B0 H1 ?_
   exact⟨by omega,(D.1.city.cfg.juns,D.1.city.cfg.ags,D.1.city.cfg.per,D.1.city.cfg.cap,D.1.city.cfg.hold,D.1.city.cfg.lock,D.1.city.ref,D.1.city.now,D.1.city.desks,D.1.city.sigs,D.1.city.svcs,D.1.city.stuck,D.1.city.views,D.1.sess,y1.2.2.2.2.2.2.2.2.2.2.2.2.2.2++([D.2.1])),⟨hDq.i,by rw[<- hy1.2.1,hrd];simp[h32];rfl,by (simp;omega)⟩,wk (Fa (Dw ((i1:Int)+1)) H1) [0,1]⟩
  refine Bp<|.H1 H1 ?_
  exact⟨by omega,(D.1.city.cfg.juns,D.1.city.cfg.ags,D.1.city.cfg.per,D.1.city.cfg.cap,D.1.city.cfg.hold,D.1.city.cfg.lock,D.1.city.ref,D.1.city.now,D.1.city.desks,D.1.city.sigs,D.1.city.svcs,D.1.city.stuck,D.1.city.views,D.1.sess,y1.2.2.2.2.2.2.2.2.2.2.2.2.2.2),⟨hDq.i,by rw[<- hy1.2.1,hrd];simp[h32];rfl,by (simp;omega)⟩,wk (Fa (Dw ((i1:Int)+1)) H1) [0,1]⟩
 refine Bt<|.R ?_
 refine B2 Dy 1 ?_
 exact .ret (Ep Dy y1.2.2.2.2.2.2.2.2.2.2.2.2.2.2 (by have h:=hy1.2.1;rw[List.drop_eq_nil_of_le (by omega)] at h;rw[<- hN,hlm,<- hlt];simpa[Oh] using h))
def Z6:List P1:=(Em (T2 c l hb hp hJ hA hl1 hl2 hS hl hE)).choose
theorem Zu:PP 22 [] [c.g,.mEv l] [] (.mOut (Z6 c l hb hp hJ hA hl1 hl2 hS hl hE)):=(Em (T2 c l hb hp hJ hA hl1 hl2 hS hl hE)).choose_spec.1
theorem Z9:(Z6 c l hb hp hJ hA hl1 hl2 hS hl hE)=Oh (Fq c hb hp hJ hA hl1 hl2 hS) (l.take 400):=(Em (T2 c l hb hp hJ hA hl1 hl2 hS hl hE)).choose_spec.2
end
section
variable {b:List Int}
theorem Ak6 (h:By b) (k:Nat):By (b.take k):=fun x hx=>h x (Aq hx)
theorem Aq0 (h:By b) (k:Nat):By (b.drop k):=fun x hx=>h x (Ay hx)
theorem Azi (h:By b) (k:Nat) (v:Int):By (b.set k (IntKind.u8.wrap v)):=fun x hx=>by
 rcases Bi hx with h1 | h1
 ·exact h x h1
 rw[h1];exact W8 v _ List.mem_cons_self
theorem Ayi {α:Type} (b:List α) (K:Nat) (h:K<b.length):(Kf b K ((b.drop (K+1)).take (b.length - (K+1)))).take (K+(b.length - (K+1)))=b.take K++b.drop (K+1):=by
 refine List.ext_getElem? fun i=>?_
 by_cases hi:i<K+(b.length - (K+1))
 ·rw[Ag hi,Jk]
  by_cases h1:i<K
  ·rw[if_neg (by omega),Au (by simp;omega),Ag h1]
  rw[if_pos (by simp;omega),Ao (by simp;omega)]
  rw[Ag (by omega)]
  congr 1
  simp
  omega
 rw[List.getElem?_take_eq_none (by omega),Ar (by simp;omega)]
section
variable (b:List Int) (ix:Int) (bv:Int) (hl:b.length<=1000)
include ix bv hl
theorem I3:Ct 37 [.mY b,.li ix,.li bv] (fun d:List Int=>.mY d) (fun d=>d.length<=1001/\(By b->By d)):=by
 refine Er Tryz.func37 ?_
 refine Bq ?_
 refine Bu Dy<|.seq ?_
 refine Bq ?_
 refine Br ?_ ?_<;>intro h13
 ·refine Bq ?_
  refine B2 Dy 1 ?_
  exact .ret (Ep Dy ([IntKind.u8.wrap bv]) (by exact⟨by simp,fun _=>W8 _⟩))
 refine Bp ?_
 have hbp:1<=b.length:=by have:=List.length_pos_iff.2 h13;omega
 obtain⟨Y1,cY1,qY1⟩:=Em (Il ix b.length (by omega) (by omega))
 have hMv:=cY1
 have hMq:=qY1
 obtain⟨K,hK⟩:∃K:Nat,Y1=(K:Int):=⟨_,(Int.toNat_of_nonneg hMq.1).symm⟩
 rw[hK] at hMv hMq
 have hwk:=Dw ((K:Int)+1)
 obtain⟨e0,he0⟩:∃e,b[K]? = some e:=⟨_,Aa (by omega)⟩
 refine B8 Dy (hMv)<|.seq ?_
 refine B3 (fun K kk=>by simp[go_sem];(repeat refine aK ?_);refine .lo (M0 _ 4 (by omega) (by omega)) rfl (by simp[AV.cln,Fb]) ?_;simp[go_sem];exact kk)<|.block ?_
 refine Bq ?_
 refine Br ?_ ?_<;>intro h27
 ·obtain⟨e1,H1⟩:=gx b ((K:Int).toNat)
  refine B0 (Fa H1 he0) ?_
  refine Bu H1 ?_
  refine B2 he0 0 ?_
  refine Bz (Fk ?_);simp[go_sem,he0]
  exact⟨b.set K (IntKind.u8.wrap bv),by simp[go_sem,he0,List.map_set],by simp;omega,fun h=>Azi h _ _⟩
 refine Bq ?_
 refine Br ?_ ?_<;>intro h34
 ·refine C9 hwk ?_
  refine B2 Dy 0 ?_
  refine Bz (Fk ?_);simp[go_sem]
  rw[if_pos (by rw[Fr];simp)]
  refine⟨b.take K++b.drop (K+1),?_,by simp;omega,fun h=>(Ak6 h _).app (Aq0 h _)⟩
  have hsp:=Ayi (tY b) K (by simp;omega)
  simp only[A2] at hsp
  rw[hsp]
  simp[go_sem,List.map_take,List.map_drop]
 refine Bq ?_
 refine Br ?_ ?_<;>intro h44
 ·refine C9 hwk ?_
  refine B2 Dy 1 ?_
  refine Bz (Fk ?_);simp[go_sem]
  rw[if_pos (by omega)]
  refine⟨b.take K++[IntKind.u8.wrap bv]++b.drop K,?_,by simp;omega,fun h=>((Ak6 h _).app (W8 _)).app (Aq0 h _)⟩
  have e1:List.take (b.length - K) (List.drop K (tY b))=List.drop K (tY b):=Bf (by simp)
  rw[e1]
  simp[go_sem,List.map_take,List.map_drop]
 refine B2 Dy 0 ?_
 refine Bu Dy ?_
 refine Bz (Fk ?_);simp[go_sem]
 exact⟨b.take K,by simp[go_sem,List.map_take],by simp;omega,fun h=>Ak6 h _⟩
def Gu:List Int:=(Em (I3 b ix bv hl)).choose
theorem Ld:PP 37 [] [.mY b,.li ix,.li bv] [] (.mY (Gu b ix bv hl)):=(Em (I3 b ix bv hl)).choose_spec.1
theorem Lf:(Gu b ix bv hl).length<=1001/\(By b->By (Gu b ix bv hl)):=(Em (I3 b ix bv hl)).choose_spec.2
end
end
section
def Xd:List (List (Int×Int)):=[[(0,0),(0,0)],[(0,0),(1,0),(0,1),(1,1)],[(0,0),(1,0),(0,0)],[(0,0),(0,0),(1,0),(1,0),(0,1),(0,1),(1,1),(1,1)],[(1,0),(0,1),(0,2)],[(0,0)]]
theorem Su (n:Int):Ct 52 [.li n] (fun d:List (Int×Int)=>.imm false 2 (Ach d)) (fun d=>d∈Xd):=by
 refine Er Tryz.func52 ?_
 refine Bq<|.seq ?_
 refine Bq<|.block ?_
 refine Bq ?_
 refine Br ?_ ?_<;>intro h4
 ·refine Bq ?_
  refine B2 Dy 0 ?_
  exact .ret (Ep Dy ([(0,0),(0,0)]) (by decide))
 refine Bq ?_
 refine Br ?_ ?_<;>intro h9
 ·refine Bq ?_
  refine B2 Dy 0 ?_
  exact .ret (Ep Dy ([(0,0),(1,0),(0,1),(1,1)]) (by decide))
 refine Bq ?_
 refine Br ?_ ?_<;>intro h16
 ·refine Bq ?_
  refine B2 Dy 0 ?_
  exact .ret (Ep Dy ([(0,0),(1,0),(0,0)]) (by decide))
 refine Bq ?_
 refine Br ?_ ?_<;>intro h22
 ·refine Bq ?_
  refine B2 Dy 0 ?_
  exact .ret (Ep Dy ([(0,0),(0,0),(1,0),(1,0),(0,1),(0,1),(1,1),(1,1)]) (by decide))
 refine Bq ?_
 refine Br ?_ ?_<;>intro h33
 ·refine Bq ?_
  refine B2 Dy 0 ?_
  exact .ret (Ep Dy ([(1,0),(0,1),(0,2)]) (by decide))
 refine Bp<|.R ?_
 refine B2 Dy 0 ?_
 exact .ret (Ep Dy ([(0,0)]) (by decide))
variable {l:List (Int×Int)}
theorem Aqd (h:l∈Xd):1<=l.length/\l.length<=8:=by
 revert l;decide
def Atq (l:List (Int×Int)) (x:Bool) (i k:Nat):Bool:=i != k&&((l.getD i (0,0)).1 == (l.getD k (0,0)).1||(l.getD i (0,0)).2 != (l.getD k (0,0)).2||x&&(i+k) % 2 == 1)
def Wd (l:List (Int×Int)) (x:Bool) (i:Nat):Nat->Int
 | 0=>0
 | k+1=>Wd l x i k+if Atq l x i k then 2 ^ k else 0
def Yc (l:List (Int×Int)) (ps:List F4):Prop:=∀(i:Nat) (p:F4),ps[i]? = some p->∃s,l[i]? = some s/\p.ring=s.1/\p.grp=s.2/\(1<=p.mi/\p.mi<=3)/\(1<=p.ye/\p.ye<=2)/\(0<=p.re/\p.re<=2)/\((p.wa=0/\p.cl=0)\/(1<=p.wa/\p.wa<=2/\1<=p.cl/\p.cl<=2))/\p.mi<=p.ma/\p.wa+p.cl<=p.ma/\p.ma<=7
def As0 (j:Ga):Prop:=∃s,s∈Xd/\∃x:Bool,Yc s j.phs/\j.phs.length=s.length/\j.con=((List.range s.length).map fun t=>Wd s x t s.length)/\0<=j.start/\j.start<=2
theorem Ah7 {S:List (Int×Int)} {i k:Nat} {s t:Int×Int} {x:Int} (hs:S[i]? = some s) (ht:S[k]? = some t) (hi:i<8) (hk:k<8):Atq S (x == 3) i k=true<->(¬(i:Int)=(k:Int)/\((s.1=t.1\/¬s.2=t.2)\/x=3/\(IntKind.i64.wrap ((i:Int)+(k:Int))).tmod 2=1)):=by
 have hm:(IntKind.i64.wrap ((i:Int)+(k:Int))).tmod 2=(((i+k) % 2:Nat):Int):=by
  rw[show IntKind.i64.wrap ((i:Int)+(k:Int))=Int.ofNat (i+k) from Dw _]
  rfl
 rw[hm]
 unfold Atq
 rw[Ad,Ad,hs,ht]
 simp only[Bh,Ah,Bool.or_eq_true,bne_iff_ne,beq_iff_eq,ne_eq]
 constructor
 ·rintro⟨h1,h2⟩
  exact⟨by omega,h2.imp id fun h=>⟨h.1,by omega⟩⟩
 rintro⟨h1,h2⟩
 exact⟨by omega,h2.imp id fun h=>⟨h.1,by omega⟩⟩
theorem Yc.app {ps:List F4} {i:Nat} {s:Int×Int} {p:F4} (h:Yc l ps) (hl:ps.length=i) (hs:l[i]? = some s) (h1:p.ring=s.1) (h2:p.grp=s.2) (h3:1<=p.mi/\p.mi<=3) (h4:1<=p.ye/\p.ye<=2) (h5:0<=p.re/\p.re<=2) (h6:(p.wa=0/\p.cl=0)\/(1<=p.wa/\p.wa<=2/\1<=p.cl/\p.cl<=2)) (h7:p.mi<=p.ma) (h8:p.wa+p.cl<=p.ma) (h9:p.ma<=7):Yc l (ps++[p]):=by
 intro k q hq
 by_cases hk:k<ps.length
 ·rw[Au hk] at hq;exact h k q hq
 rw[Ao (by omega)] at hq
 have hk2:k=i:=by
  have:=(Ab.1 hq).1
  simp at this;omega
 subst hk2
 rw[hl,Nat.sub_self] at hq
 simp at hq
 subst hq
 exact⟨s,hs,h1,h2,h3,h4,h5,h6,h7,h8,h9⟩
theorem A0y {k:Nat} (h:k<8):(2:Int) ^ k<=128:=by
 have:∀k:Fin 8,(2:Int) ^ k.val<=128:=by decide
 exact this ⟨k,h⟩
theorem A0u {k:Nat} (h:k<8):IntKind.i64.wrap (2 ^ min (IntKind.u64.wrap (k:Int)).toNat 64)=2 ^ k:=by
 have:∀k:Fin 8,IntKind.i64.wrap (2 ^ min (IntKind.u64.wrap (k.val:Int)).toNat 64)=2 ^ k.val:=by decide
 exact this ⟨k,h⟩
theorem Ae8 (l:List (Int×Int)) (x:Bool) (i:Nat):∀k,0<=Wd l x i k/\Wd l x i k<2 ^ k
 | 0=>by simp[Wd]
 | k+1=>by
  have:=Ae8 l x i k
  rw[Wd,Int.pow_succ]
  split<;>omega
theorem L5 (k:E9) (h:k.l.length<=300) (h0:0<=k.pos):Cx 27 [.box 84 (k.a false)] [.ptr 0 0] (fun d:Ga×E9=>[.box 84 (d.2.a false)]) (fun d=>d.1.g) (fun d=>d.2.l=k.l/\0<=d.2.pos/\As0 d.1):=by
 refine Tj Tryz.func27 ?_
 refine Bq ?_
 obtain⟨D1,hD1,hd1⟩:=Dv k 6 (by assumption) (by assumption) (by omega) (by omega)
 have hl1:D1.2.l.length<=300:=by rw[hd1.1];assumption
 have hp1:0<=D1.2.pos:=by omega
 obtain⟨Y1,cY1,qY1⟩:=Em (Su D1.1)
 have hSq:=qY1
 have hSv:=cY1
 generalize Y1=S at hSq hSv
 have hSl:=Aqd hSq
 refine B3 (fun K kk=>by simp[go_sem];refine .o [0] (hD1) ?_;simp[go_sem];refine .l (hSv) ?_;simp[go_sem];exact kk) ?_
 obtain⟨D2,hD2,hd2⟩:=Dv D1.2 3 (by assumption) (by assumption) (by omega) (by omega)
 have hl2:D2.2.l.length<=300:=by rw[hd2.1];assumption
 have hp2:0<=D2.2.pos:=by omega
 refine Da Dy [0] hD2<|.seq ?_
 refine Bq<|.block ?_
 refine Ck 2 0 124 8 (by decide) rfl rfl ?_
 simp[go_sem,-Prod.exists]
 refine Bs S.length (fun i1 (y1:(List Int)×Int×(List F4))=>⟨[(0,.ptr 0 0),(2,.ptr 1 0),(4,.ptr 2 0),(20,.imm false 2 (Ach S)),(21,.li S.length),(22,.li i1)],[.box 84 [.mI y1.1,.li y1.2.1],.box 88 [.nil 8,.nil 1,.li 0],.box 88 [.own 3 y1.2.2.length,.nil 1,.li D2.1],.row 124 8 false false (Q3 y1.2.2)]⟩) (fun i1 y1=>y1.1=k.l/\0<=y1.2.1/\y1.2.2.length=i1/\Yc S y1.2.2) (D2.2.l,D2.2.pos,[]) (wk Dy [0,1,2,3]) (⟨by rw[hd2.1,hd1.1],hp2,rfl,fun i p h=>by simp at h⟩) fun i1 y1 hi1 hy1=>?_
 refine Bq<|.seq ?_
 refine Br ?_ ?_<;>intro h23
 ·refine Bp<|.seq<|.block ?_
  obtain⟨e1,H1⟩:=gx S i1
  refine Bu H1 ?_
  have hyl:(⟨y1.1,y1.2.1⟩:E9).l.length<=300:=by show y1.1.length<=300;rw[hy1.1];exact h
  have hyp:0<=(⟨y1.1,y1.2.1⟩:E9).pos:=hy1.2.1
  have hyn:=hy1.2.2.1
  obtain⟨D3,hD3,hd3⟩:=Ef ⟨y1.1,y1.2.1⟩ 1 3 (by assumption) (by assumption) (by omega) (by omega) (by omega)
  have hl3:D3.2.l.length<=300:=by rw[hd3.1];assumption
  have hp3:0<=D3.2.pos:=by omega
  obtain⟨D4,hD4,hd4⟩:=Ef D3.2 1 2 (by assumption) (by assumption) (by omega) (by omega) (by omega)
  have hl4:D4.2.l.length<=300:=by rw[hd4.1];assumption
  have hp4:0<=D4.2.pos:=by omega
  obtain⟨D5,hD5,hd5⟩:=Dv D4.2 3 (by assumption) (by assumption) (by omega) (by omega)
  have hl5:D5.2.l.length<=300:=by rw[hd5.1];assumption
  have hp5:0<=D5.2.pos:=by omega
  refine Cw (fun K kk=>by simp[go_sem,H1];(repeat refine aK ?_);refine .o [0] (hD3) ?_;simp[go_sem,H1];refine .o [0] (hD4) ?_;simp[go_sem,H1];refine .o [0] (hD5) ?_;simp[go_sem,H1];exact kk)<|.seq ?_
  obtain⟨D6,hD6,hd6⟩:=Dv D5.2 3 (by assumption) (by assumption) (by omega) (by omega)
  have hl6:D6.2.l.length<=300:=by rw[hd6.1];assumption
  have hp6:0<=D6.2.pos:=by omega
  refine Da H1 [0] hD6 ?_
  refine Br ?_ ?_<;>intro h39
  ·obtain⟨D7,hD7,hd7⟩:=Ef D6.2 1 2 (by assumption) (by assumption) (by omega) (by omega) (by omega)
   have hl7:D7.2.l.length<=300:=by rw[hd7.1];assumption
   have hp7:0<=D7.2.pos:=by omega
   obtain⟨D8,hD8,hd8⟩:=Ef D7.2 1 2 (by assumption) (by assumption) (by omega) (by omega) (by omega)
   have hl8:D8.2.l.length<=300:=by rw[hd8.1];assumption
   have hp8:0<=D8.2.pos:=by omega
   have hw1:=Dw (D7.1+D8.1)
   obtain⟨MX,hMX⟩:∃MX,(if D3.1<D7.1+D8.1 then D7.1+D8.1 else D3.1)=MX:=⟨_,rfl⟩
   have hmb:D3.1<=MX/\D7.1+D8.1<=MX/\MX<=4:=by rw[<- hMX];split<;>omega
   refine Cg (fun K kk=>by simp[go_sem,H1,hw1];refine .o [0] (hD7) ?_;simp[go_sem,H1,hw1];refine .o [0] (hD8) ?_;simp[go_sem,H1,hw1];exact kk) ?_
   obtain⟨D9,hD9,hd9⟩:=Dv D8.2 4 (by assumption) (by assumption) (by omega) (by omega)
   have hl9:D9.2.l.length<=300:=by rw[hd9.1];assumption
   have hp9:0<=D9.2.pos:=by omega
   have hw2:=Dw (MX+D9.1)
   refine Cw (fun K kk=>by simp[go_sem,H1,hw1,hMX,hw2];refine .o [0] (hD9) ?_;simp[go_sem,H1,hw1,hMX,hw2];exact kk) ?_
   refine B0 H1 ?_
   refine B0 H1 ?_
   exact⟨by omega,(D9.2.l,D9.2.pos,y1.2.2++[⟨e1.1,e1.2,D3.1,MX+D9.1,D4.1,D5.1,D7.1,D8.1⟩]),⟨by rw[hd9.1,hd8.1,hd7.1,hd6.1,hd5.1,hd4.1,hd3.1];exact hy1.1,hp9,by simp;omega,Yc.app hy1.2.2.2 hyn H1 rfl rfl (by dsimp only;omega) (by dsimp only;omega) (by dsimp only;omega) (by dsimp only;omega) (by dsimp only;omega) (by dsimp only;omega) (by dsimp only;omega)⟩,wk (Fa (Dw ((i1:Int)+1)) H1) [0,1,2,3]⟩
  have hw1:IntKind.i64.wrap 0=0:=by decide
  obtain⟨MX,hMX⟩:∃MX,(if D3.1<0 then 0 else D3.1)=MX:=⟨_,rfl⟩
  have hmb:D3.1<=MX/\0<=MX/\MX<=4:=by rw[<- hMX];split<;>omega
  refine Bp ?_
  obtain⟨D9,hD9,hd9⟩:=Dv D6.2 4 (by assumption) (by assumption) (by omega) (by omega)
  have hl9:D9.2.l.length<=300:=by rw[hd9.1];assumption
  have hp9:0<=D9.2.pos:=by omega
  have hw2:=Dw (MX+D9.1)
  refine Cw (fun K kk=>by simp[go_sem,H1,hw1,hMX,hw2];refine .o [0] (hD9) ?_;simp[go_sem,H1,hw1,hMX,hw2];exact kk) ?_
  refine B0 H1 ?_
  refine B0 H1 ?_
  exact⟨by omega,(D9.2.l,D9.2.pos,y1.2.2++[⟨e1.1,e1.2,D3.1,MX+D9.1,D4.1,D5.1,0,0⟩]),⟨by rw[hd9.1,hd6.1,hd5.1,hd4.1,hd3.1];exact hy1.1,hp9,by simp;omega,Yc.app hy1.2.2.2 hyn H1 rfl rfl (by dsimp only;omega) (by dsimp only;omega) (by dsimp only;omega) (by dsimp only;omega) (by dsimp only;omega) (by dsimp only;omega) (by dsimp only;omega)⟩,wk (Fa (Dw ((i1:Int)+1)) H1) [0,1,2,3]⟩
 refine Bt ?_
 have hyl:(⟨y1.1,y1.2.1⟩:E9).l.length<=300:=by show y1.1.length<=300;rw[hy1.1];exact h
 have hyp:0<=(⟨y1.1,y1.2.1⟩:E9).pos:=hy1.2.1
 have hyn:=hy1.2.2.1
 obtain⟨D10,hD10,hd10⟩:=Dv ⟨y1.1,y1.2.1⟩ 4 (by assumption) (by assumption) (by omega) (by omega)
 have hl10:D10.2.l.length<=300:=by rw[hd10.1];assumption
 have hp10:0<=D10.2.pos:=by omega
 have hn8:y1.2.2.length<=8:=by omega
 refine Da Dy [0] hD10<|.seq ?_
 refine Bq<|.block ?_
 refine Ck 2 1 3 1 (by decide) rfl rfl ?_
 simp[go_sem,-Prod.exists]
 refine Bs y1.2.2.length (fun i2 (y2:(List F4)×(List Int))=>⟨[(2,.ptr 1 0),(4,.ptr 2 0),(8,.lb ((D10.1:Int) == 3)),(69,.own 3 y2.1.length),(70,.li y1.2.2.length),(71,.li i2)],[.box 84 [.mI D10.2.l,.li D10.2.pos],.box 88 [.nil 8,.nil 1,.li 0],.box 88 [.own 3 y2.1.length,.own 4 y2.2.length,.li D2.1],.row 124 8 false false (Q3 y2.1),.row 3 1 false false (tI y2.2)]⟩) (fun i2 y2=>y2.1=y1.2.2/\y2.2.length=i2/\y2.2=(List.range i2).map fun t=>Wd S (D10.1 == 3) t y1.2.2.length) (y1.2.2,[]) (wk Dy [0,1,2,3,4]) (⟨rfl,rfl,rfl⟩) fun i2 y2 hi2 hy2=>?_
 refine Bq<|.seq ?_
 refine Br ?_ ?_<;>intro h72
 ·refine Bp<|.seq<|.block ?_
  have hl2:=hy2.2.1
  have hy21:y2.1.length=y1.2.2.length:=by rw[hy2.1]
  obtain⟨e2,H2⟩:=gx y2.1 i2
  refine Bu H2 ?_
  refine Bu H2<|.seq ?_
  refine Bu H2<|.block ?_
  refine Bs y2.1.length (fun i3 (y3:Int)=>⟨[(2,.ptr 1 0),(4,.ptr 2 0),(8,.lb ((D10.1:Int) == 3)),(9,.li i2),(10,.ptr 5 0),(11,.li y3),(69,.own 3 y2.1.length),(70,.li y1.2.2.length),(71,.li i2),(77,.own 3 y2.1.length),(78,.li y2.1.length),(79,.li i3)],[.box 84 [.mI D10.2.l,.li D10.2.pos],.box 88 [.nil 8,.nil 1,.li 0],.box 88 [.own 3 y2.1.length,.own 4 y2.2.length,.li D2.1],.row 124 8 false false (Q3 y2.1),.row 3 1 false false (tI y2.2),.box 124 (e2.a false)]⟩) (fun i3 y3=>y3=Wd S (D10.1 == 3) i2 i3) (0) (wk H2 [0,1,2,3,4,5]) (rfl) fun i3 y3 hi3 hy3=>?_
  refine Bu H2<|.seq ?_
  refine Br ?_ ?_<;>intro h80
  ·refine Bp<|.seq<|.block ?_
   obtain⟨e3,H3⟩:=gx y2.1 i3
   refine Bu (Fa H2 H3) ?_
   refine Bu (Fa H2 H3) ?_
   refine Br ?_ ?_<;>intro h110
   ·have hw3:=A0u (k:=i3) (by omega)
    have hw4:=Dw (y3+2 ^ i3) (by have:=Ae8 S (D10.1 == 3) i2 i3;have:=A0y (k:=i3) (by omega);omega) (by have:=Ae8 S (D10.1 == 3) i2 i3;have:=A0y (k:=i3) (by omega);omega)
    refine B0 (P6 H2 H3 hw3 hw4) ?_
    refine B0 (Fa H2 H3) ?_
    refine⟨by omega,((y3+2 ^ i3)),?_,wk (Jb (Dw ((i3:Int)+1)) H2 H3) [0,1,2,3,4,5]⟩
    obtain⟨s,hs,hs1,hs2,_⟩:=hy1.2.2.2 i2 e2 (by rw[<- hy2.1];exact H2);obtain⟨t,ht,ht1,ht2,_⟩:=hy1.2.2.2 i3 e3 (by rw[<- hy2.1];exact H3);rw[Wd,if_pos ((Ah7 hs ht (by omega) (by omega)).2 (by rw[<- hs1,<- ht1,<- hs2,<- ht2];exact h110)),hy3]
   refine Bp<|.H1 (Fa H2 H3) ?_
   refine⟨by omega,(y3),?_,wk (Jb (Dw ((i3:Int)+1)) H2 H3) [0,1,2,3,4,5]⟩
   obtain⟨s,hs,hs1,hs2,_⟩:=hy1.2.2.2 i2 e2 (by rw[<- hy2.1];exact H2);obtain⟨t,ht,ht1,ht2,_⟩:=hy1.2.2.2 i3 e3 (by rw[<- hy2.1];exact H3);rw[Wd,if_neg (fun hb=>by obtain⟨ha,hc⟩:=(Ah7 hs ht (by omega) (by omega)).1 hb;rw[<- hs1,<- ht1,<- hs2,<- ht2] at hc;have hh:=h110 ha;rcases hc with (hc | hc) | hc;exact hh.1.1 hc;exact hc hh.1.2;exact hh.2 hc.1 hc.2),hy3,Int.add_zero]
  refine Bt<|.H1 H2 ?_
  refine B0 H2 ?_
  exact⟨by omega,(y2.1,y2.2++([y3])),⟨hy2.1,by simp;omega,by have h3:i3=y1.2.2.length:=(by omega);rw[hy2.2.2,List.range_succ,List.map_append,hy3,h3];rfl⟩,wk (Fa (Dw ((i2:Int)+1)) H2) [0,1,2,3,4]⟩
 refine Bt<|.R ?_
 refine B2 Dy 3 ?_
 refine B2 Dy 4 ?_
 exact .ret ⟨(⟨y2.1,y2.2,D2.1⟩,D10.2),rW Dy [0],⟨by rw[hd10.1];exact hy1.1,hp10,S,hSq,(D10.1 == 3),by dsimp only;rw[hy2.1];exact hy1.2.2.2,by dsimp only;rw[hy2.1];omega,by dsimp only;rw[hy2.2.2,show i2=S.length from by omega,show y1.2.2.length=S.length from by omega],by dsimp only;omega,by dsimp only;omega⟩⟩
end
def AgQ (ri:Int) (a:H0):Prop:=a.sec.length=8/\a.lims.length=4/\(∀x∈a.lims,0<=x/\x<=3)/\a.ri=ri/\a.cls=3/\(1<=a.rq/\a.rq<=3)/\(1<=a.se/\a.se<=2)/\(1<=a.ra/\a.ra<=3)/\a.ra<=a.bu/\a.bu<=7
structure Ad1 (ri:Int) (c:Fc):Prop where
  per:1<=c.per/\c.per<=4
  cap:0<=c.cap/\c.cap<=3
  hold:1<=c.hold/\c.hold<=3
  lock:0<=c.lock/\c.lock<=4
  nj:1<=c.juns.length/\c.juns.length<=2
  na:1<=c.ags.length/\c.ags.length<=3
  jun:∀j∈c.juns,As0 j
  ag:∀a∈c.ags,AgQ ri a
theorem ap1 {α:Type} {p:α->Prop} {l:List α} {x:α} (h:∀y∈l,p y) (hx:p x):∀y∈l++[x],p y:=fun y hy=>by
 rcases A0.1 hy with h1 | h1
 ·exact h y h1
 rw[An.1 h1];exact hx
theorem I5 (k:E9) (ri:Int) (h:k.l.length<=300) (h0:0<=k.pos):Cx 11 [.box 84 (k.a false)] [.ptr 0 0,.li ri] (fun d:Fc×E9=>[.box 84 (d.2.a false)]) (fun d=>d.1.g) (fun d=>d.2.l=k.l/\(0<=d.2.pos/\(k.l=[]->d.1.ags.length=1/\∀a∈d.1.ags,a.se=1))/\Ad1 ri d.1):=by
 refine Tj Tryz.func11 ?_
 refine Bq ?_
 obtain⟨D1,hD1,hd1⟩:=Ef k 1 4 (by assumption) (by assumption) (by omega) (by omega) (by omega)
 have hl1:D1.2.l.length<=300:=by rw[hd1.1];assumption
 have hp1:0<=D1.2.pos:=by omega
 obtain⟨D2,hD2,hd2⟩:=Dv D1.2 4 (by assumption) (by assumption) (by omega) (by omega)
 have hl2:D2.2.l.length<=300:=by rw[hd2.1];assumption
 have hp2:0<=D2.2.pos:=by omega
 obtain⟨D3,hD3,hd3⟩:=Ef D2.2 1 3 (by assumption) (by assumption) (by omega) (by omega) (by omega)
 have hl3:D3.2.l.length<=300:=by rw[hd3.1];assumption
 have hp3:0<=D3.2.pos:=by omega
 obtain⟨D4,hD4,hd4⟩:=Dv D3.2 5 (by assumption) (by assumption) (by omega) (by omega)
 have hl4:D4.2.l.length<=300:=by rw[hd4.1];assumption
 have hp4:0<=D4.2.pos:=by omega
 refine B3 (fun K kk=>by simp[go_sem];refine .o [0] (hD1) ?_;simp[go_sem];refine .o [0] (hD2) ?_;simp[go_sem];refine .o [0] (hD3) ?_;simp[go_sem];refine .o [0] (hD4) ?_;simp[go_sem];exact kk)<|.seq ?_
 obtain⟨D5,hD5,hd5⟩:=Dv D4.2 2 (by assumption) (by assumption) (by omega) (by omega)
 have hl5:D5.2.l.length<=300:=by rw[hd5.1];assumption
 have hp5:0<=D5.2.pos:=by omega
 have hw5:=Dw (1+D5.1)
 refine Da hw5 [0] hD5<|.block ?_
 refine Ck 2 0 88 3 (by decide) rfl rfl ?_
 simp[go_sem,-Prod.exists]
 refine Cj (fun (y1:(List Int)×Int×(List Ga)×Int)=>⟨[(0,.ptr 0 0),(1,.li ri),(4,.ptr 1 0),(5,.ptr 2 0),(6,.li y1.2.2.2)],[.box 84 [.mI y1.1,.li y1.2.1],.box 30 [.nil 3,.nil 8,.li 0,.li 0,.li 0,.li 0],.box 30 [.own 3 y1.2.2.1.length,.nil 8,.li D1.1,.li D2.1,.li D3.1,.li D4.1],.row 88 3 false false (Yx y1.2.2.1)]⟩) (fun y1=>y1.1=k.l/\0<=y1.2.1/\0<=y1.2.2.2/\(y1.2.2.1.length:Int)+y1.2.2.2=1+D5.1/\∀j∈y1.2.2.1,As0 j) (fun y1=>y1.2.2.2.toNat) (D5.2.l,D5.2.pos,[],(1+D5.1)) (wk Dy [0,1,2,3]) (⟨by rw[hd5.1,hd4.1,hd3.1,hd2.1,hd1.1],hp5,by dsimp only;omega,by simp,fun j hj=>by cases hj⟩) fun y1 hy1=>?_
 refine Ca<|.R ?_
 refine Br ?_ ?_<;>intro h21
 ·refine Bp<|.seq<|.block ?_
  have hyl:(⟨y1.1,y1.2.1⟩:E9).l.length<=300:=by show y1.1.length<=300;rw[hy1.1];exact h
  have hyp:0<=(⟨y1.1,y1.2.1⟩:E9).pos:=hy1.2.1
  have hyn:=hy1.2.2
  obtain⟨J,hJ,hj⟩:=L5 ⟨y1.1,y1.2.1⟩ hyl hyp
  refine Dg (fun K kk=>by simp[go_sem];refine .o [0] (hJ) ?_;simp[go_sem];(repeat first | exact kk | refine aK ?_)) ?_
  have hw1:=Dw (y1.2.2.2 - 1:Int)
  refine B0 hw1 ?_
  refine⟨(J.2.l,J.2.pos,y1.2.2.1++([J.1]),(y1.2.2.2 - 1)),?_,?_,wQ [0,1,2,3] ?_ ?_⟩
  ·(dsimp only;omega)
  ·exact⟨by rw[hj.1];exact hy1.1,hj.2.1,by dsimp only;omega,by simp;omega,ap1 hy1.2.2.2.2 hj.2.2⟩
  all_goals simp[go_sem,hw1]
 refine Bt<|.seq ?_
 have hyl:(⟨y1.1,y1.2.1⟩:E9).l.length<=300:=by show y1.1.length<=300;rw[hy1.1];exact h
 have hyp:0<=(⟨y1.1,y1.2.1⟩:E9).pos:=hy1.2.1
 obtain⟨D6,hD6,hd6⟩:=Dv ⟨y1.1,y1.2.1⟩ 3 (by assumption) (by assumption) (by omega) (by omega)
 have hl6:D6.2.l.length<=300:=by rw[hd6.1];assumption
 have hp6:0<=D6.2.pos:=by omega
 have hw6:=Dw (1+D6.1)
 refine Da hw6 [0] hD6<|.block ?_
 refine Ck 2 1 60 8 (by decide) rfl rfl ?_
 simp[go_sem,-Prod.exists]
 refine Bs ((1+D6.1).toNat) (fun i2 (y2:(List Int)×Int×(List Ga)×(List H0))=>⟨[(0,.ptr 0 0),(1,.li ri),(4,.ptr 1 0),(5,.ptr 2 0),(33,.li (1+D6.1)),(34,.li i2)],[.box 84 [.mI y2.1,.li y2.2.1],.box 30 [.nil 3,.nil 8,.li 0,.li 0,.li 0,.li 0],.box 30 [.own 3 y2.2.2.1.length,.own 4 y2.2.2.2.length,.li D1.1,.li D2.1,.li D3.1,.li D4.1],.row 88 3 false false (Yx y2.2.2.1),.row 60 8 false false (tAg y2.2.2.2)]⟩) (fun i2 y2=>y2.1=k.l/\0<=y2.2.1/\y2.2.2.1=y1.2.2.1/\(y2.2.2.2.length=i2/\(k.l=[]->∀a∈y2.2.2.2,a.se=1))/\∀a∈y2.2.2.2,AgQ ri a) (D6.2.l,D6.2.pos,y1.2.2.1,[]) (wk Dy [0,1,2,3,4]) (⟨by rw[hd6.1];exact hy1.1,hp6,rfl,⟨rfl,fun _ a ha=>by cases ha⟩,fun a ha=>by cases ha⟩) fun i2 y2 hi2 hy2=>?_
 refine Bq<|.seq ?_
 refine Br ?_ ?_<;>intro h35
 ·refine Bp<|.seq<|.block<|.R ?_
  have hyl:(⟨y2.1,y2.2.1⟩:E9).l.length<=300:=by show y2.1.length<=300;rw[hy2.1];exact h
  have hyp:0<=(⟨y2.1,y2.2.1⟩:E9).pos:=hy2.2.1
  obtain⟨G,hG,hg⟩:=Mv ⟨y2.1,y2.2.1⟩ i2 ri hyl hyp
  refine Dg (fun K kk=>by simp[go_sem];refine .o [0] (hG) ?_;simp[go_sem];(repeat first | exact kk | refine aK ?_)) ?_
  refine Ci ?_
  exact⟨by omega,(G.2.l,G.2.pos,y2.2.2.1,y2.2.2.2++([G.1])),⟨by rw[hg.1];exact hy2.1,hg.2.1.1,hy2.2.2.1,⟨by simp;omega,fun e=>ap1 (hy2.2.2.2.1.2 e) (hg.2.1.2 (hy2.1.trans e))⟩,ap1 hy2.2.2.2.2 hg.2.2⟩,wk (Dw ((i2:Int)+1)) [0,1,2,3,4]⟩
 refine Bt<|.R ?_
 refine B2 Dy 3 ?_
 refine B2 Dy 4 ?_
 exact .ret ⟨(⟨y2.2.2.1,y2.2.2.2,D1.1,D2.1,D3.1,D4.1⟩,⟨y2.1,y2.2.1⟩),rW Dy [0],⟨hy2.1,⟨hy2.2.1,fun e=>⟨by have:=hd6.2.2.2.2 (hy1.1.trans e);dsimp only;omega,hy2.2.2.2.1.2 e⟩⟩,⟨by dsimp only;omega,by dsimp only;omega,by dsimp only;omega,by dsimp only;omega,by dsimp only;rw[hy2.2.2.1];omega,by dsimp only;omega,by dsimp only;rw[hy2.2.2.1];exact hy1.2.2.2.2,hy2.2.2.2.2⟩⟩⟩
theorem Rj (k:Int) (p:List Int) (h:p.length<=10000):∃d:List Int×Int,PP 68 [] [.li k,.mY p] [.row 5 1 false false (tY d.1)] (.tup [.own 0 d.1.length,.li d.2])/\(d.1.length<=210/\(By p->By d.1)):=by
 refine Nk (D:=List Int×Int) (F:=fun d=>.tup [.own 0 d.1.length,.li d.2]) (S:=fun d=>[.row 5 1 false false (tY d.1)]) (Q:=fun d=>d.1.length<=210/\(By p->By d.1)) Tryz.func68 rfl rfl rfl (by simp[Tryz.ntmps68]) ?_
 have h7:(6+(p.length:Int)).toNat - 2=p.length+4:=by omega
 refine Bq<|.seq<|.block ?_
 refine Bq ?_
 refine Br ?_ ?_<;>intro h9
 ·refine Bq ?_
  refine Cf 4 5 1 (by decide) (k':=1) (by simp[go_sem]) ?_
  simp[go_sem,-Prod.exists]
  exact .ret ⟨([],8),rW Dy [0],(by exact⟨Ae _,fun _=>Nq⟩)⟩
 refine Bq ?_
 refine Br ?_ ?_<;>intro h16
 ·refine Bq ?_
  refine Cf 4 5 1 (by decide) (k':=1) (by simp[go_sem]) ?_
  simp[go_sem,-Prod.exists]
  exact .ret ⟨([],7),rW Dy [0],(by exact⟨Ae _,fun _=>Nq⟩)⟩
 refine Bp<|.R ?_
 refine Bu Dy ?_
 obtain⟨B,hBe⟩:∃B,B=(([90,165,1,IntKind.u8.wrap k,IntKind.u8.wrap (Int.fdiv p.length (2 ^ min (Int.toNat 8) 64)),IntKind.u8.wrap p.length])++p):=⟨_,rfl⟩
 have hB:B.length=6+p.length:=by rw[hBe];simp;omega
 have hBy:By p->By B:=fun h=>by rw[hBe];exact By.app (fun x hx=>by simp at hx;rcases hx with rfl | rfl | rfl | rfl | rfl | rfl<;>first | exact Rn _ | omega) h
 refine VX.rowIs 0 (tY B) rfl (by simp[go_sem,hBe]) ?_
 simp[go_sem,-Prod.exists]
 obtain⟨Y1,cY1,qY1⟩:=Em (Ss (B.drop 2) (by simp;omega))
 refine B3 (fun K kk=>by simp[go_sem,hB];(repeat refine aK ?_);refine .lo cY1 (by simp[go_sem,hB,h7];rw[Bf (by simp;omega)]) (by simp[AV.cln,Fb]) ?_;simp[go_sem,hB];exact kk) ?_
 refine Bu hB ?_
 exact .ret ⟨(B++([IntKind.u8.wrap (Int.fdiv Y1 (2 ^ min (Int.toNat 24) 32)),IntKind.u8.wrap (Int.fdiv Y1 (2 ^ min (Int.toNat 16) 32)),IntKind.u8.wrap (Int.fdiv Y1 (2 ^ min (Int.toNat 8) 32)),IntKind.u8.wrap Y1]),0),rW hB [0],(by first | exact⟨Ae _,fun _=>Nq⟩ | exact⟨by simp;omega,fun h=>(hBy h).app (fun x hx=>by simp at hx;rcases hx with rfl | rfl | rfl | rfl<;>exact Rn _)⟩)⟩
section
variable (m:D0) (h1:m.tok.length<=10000) (h2:m.args.length<=10000) (h3:m.data.length<=10000)
include h1 h2 h3
theorem Ri:∃d:List Int×Int,PP 46 [] [m.g] [.row 5 1 false false (tY d.1)] (.tup [.own 0 d.1.length,.li d.2])/\(d.1.length<=210/\(By m.tok->By m.data->By d.1)):=by
 refine Nk (D:=List Int×Int) (F:=fun d=>.tup [.own 0 d.1.length,.li d.2]) (S:=fun d=>[.row 5 1 false false (tY d.1)]) (Q:=fun d=>d.1.length<=210/\(By m.tok->By m.data->By d.1)) Tryz.func46 rfl rfl rfl (by simp[Tryz.ntmps46]) ?_
 obtain⟨Y1,cY1,qY1⟩:=Em (Qo m h1 h2 h3)
 have hq:=qY1
 have hq2:Y1.1.length<=10000:=by omega
 obtain⟨Y2,cY2,qY2⟩:=Rj m.kind Y1.1 hq2
 have hXv:=cY2
 have hXq:=qY2
 generalize Y2=X at hXv hXq
 refine Bq ?_
 refine B8 Dy cY1<|.seq ?_
 refine Bq ?_
 refine Br ?_ ?_<;>intro h12
 ·refine Bq ?_
  refine Cf 2 5 1 (by decide) (k':=1) (by simp[go_sem]) ?_
  simp[go_sem,-Prod.exists]
  exact .ret ⟨([],Y1.2),rW Dy [1],(by exact⟨Ae _,fun _ _=>Nq⟩)⟩
 refine Bp<|.L Dy (hXv) ?_
 exact .ret ⟨(X.1,X.2),rW Dy [1],(by first | exact⟨Ae _,fun _ _=>Nq⟩ | exact⟨hXq.1,fun a b=>hXq.2 (hq.2 a b)⟩)⟩
theorem R8:∃d:List Int,PP 18 [] [m.g] [.row 5 1 false false (tY d)] (.own 0 d.length)/\(d.length<=210/\(By m.tok->By m.data->By d)):=by
 refine Nk (D:=List Int) (F:=fun d=>.own 0 d.length) (S:=fun d=>[.row 5 1 false false (tY d)]) (Q:=fun d=>d.length<=210/\(By m.tok->By m.data->By d)) Tryz.func18 rfl rfl rfl (by simp[Tryz.ntmps18]) ?_
 obtain⟨Y1,cY1,qY1⟩:=Ri m h1 h2 h3
 have hXv:=cY1
 have hXq:=qY1
 generalize Y1=X at hXv hXq
 refine Bq ?_
 refine B8 Dy (hXv) ?_
 refine Bq ?_
 exact .ret ⟨X.1,rW Dy [1],hXq⟩
end
theorem O0 (k:E9) (n:Int) (h:k.l.length<=300) (h0:0<=k.pos) (h1:0<=n) (h2:n<=1000):Cx 59 [.box 84 (k.a false)] [.ptr 0 0,.li n] (fun d:List Int×E9=>[.box 84 (d.2.a false),.row 5 1 false false (tY d.1)]) (fun d=>.own 1 d.1.length) (fun d=>d.2.l=k.l/\0<=d.2.pos/\d.1.length<=n.toNat/\By d.1):=by
 refine Tj Tryz.func59 ?_
 refine Bq ?_
 refine Bq<|.seq ?_
 obtain⟨N1,hN1,hq1⟩:=Dv k (n+1) h h0 (by omega) (by omega)
 have hw1:=Dw (n+1:Int)
 refine Da hw1 [0] hN1<|.block ?_
 refine Cf 5 5 1 (by decide) (k':=1) (by simp[go_sem]) ?_
 simp[go_sem,-Prod.exists]
 refine Cj (fun (y1:(List Int)×Int×(List Int)×Int)=>⟨[(0,.ptr 0 0),(5,.own 1 y1.2.2.1.length),(6,.li y1.2.2.2)],[.box 84 [.mI y1.1,.li y1.2.1],.row 5 1 false false (tY y1.2.2.1)]⟩) (fun y1=>y1.1=k.l/\k.pos<=y1.2.1/\y1.2.2.1.length+y1.2.2.2<=n/\0<=y1.2.2.2/\By y1.2.2.1) (fun y1=>y1.2.2.2.toNat) (N1.2.l,N1.2.pos,[],N1.1) (wk hw1 [0,1]) (⟨hq1.1,hq1.2.1,by simp;omega,hq1.2.2.1,Nq⟩) fun y1 hy1=>?_
 refine Ca<|.H hw1 ?_
 refine Br ?_ ?_<;>intro h12
 ·refine Bp<|.seq<|.block ?_
  obtain⟨N2,hN2,hq2⟩:=Dv ⟨y1.1,y1.2.1⟩ 256 (by show y1.1.length<=300;rw[hy1.1];exact h) (by show 0<=y1.2.1;omega) (by omega) (by omega)
  dsimp only at hq2
  refine C6 hw1 [0] hN2 ?_
  have hw2:=Dw (y1.2.2.2 - 1:Int)
  refine B0 (Fa hw1 hw2) ?_
  refine⟨(N2.2.l,N2.2.pos,y1.2.2.1++([IntKind.u8.wrap N2.1]),(y1.2.2.2 - 1)),?_,?_,wQ [0,1] ?_ ?_⟩
  ·dsimp only;omega
  ·exact⟨hq2.1.trans hy1.1,by dsimp only;omega,by simp;omega,by dsimp only;omega,hy1.2.2.2.2.app (W8 _)⟩
  all_goals simp[go_sem,hw1,hw2]
 refine Bt<|.H hw1 ?_
 exact .ret ⟨(y1.2.2.1,⟨y1.1,y1.2.1⟩),rW hw1 [0,1],⟨hy1.1,by have:=hy1.2.1;dsimp only;omega,by dsimp only;omega,hy1.2.2.2.2⟩⟩
theorem Nz (k:E9) (c:Fc) (l:List Int) (h:k.l.length<=300) (h0:0<=k.pos) (hj:1<=c.juns.length/\c.juns.length<=2) (hp:∀j∈c.juns,j.phs.length<=8/\1<=j.phs.length) (hl:l.length<=1000):Cx 45 [.box 84 [.mI k.l,.li k.pos],.row 3 1 true false (tI l)] [.ptr 0 0,c.g,.own 1 l.length] (fun d:List Int×E9=>[.box 84 (d.2.a false),.row 3 1 false false (tI d.1)]) (fun d=>.own 1 d.1.length) (fun d=>d.2.l=k.l/\0<=d.2.pos/\d.1.length<=l.length+8):=by
 refine Tj Tryz.func45 ?_
 refine Cv 1 rfl ?_
 simp[go_sem,-Prod.exists]
 refine Bq ?_
 obtain⟨D1,hD1,hd1⟩:=Dv k 2 (by assumption) (by assumption) (by omega) (by omega)
 have hl1:D1.2.l.length<=300:=by rw[hd1.1];assumption
 have hp1:0<=D1.2.pos:=by omega
 have hw1:=Dw (1+D1.1)
 refine Da hw1 [0] hD1<|.seq ?_
 refine Bq<|.block ?_
 refine Bs ((1+D1.1).toNat) (fun i1 (y1:(List Int)×Int×(List Int))=>⟨[(0,.ptr 0 0),(2,.own 1 y1.2.2.length),(4,.ptr 2 0),(15,.li (1+D1.1)),(16,.li i1)],[.box 84 [.mI y1.1,.li y1.2.1],.row 3 1 false false (tI y1.2.2),.box 30 (c.a false)]⟩) (fun i1 y1=>y1.1=k.l/\0<=y1.2.1/\y1.2.2.length=l.length+4*i1) (D1.2.l,D1.2.pos,l) (wk Dy [0,1,2]) (⟨hd1.1,hp1,by simp⟩) fun i1 y1 hi1 hy1=>?_
 refine Bq<|.seq ?_
 refine Br ?_ ?_<;>intro h17
 ·refine Bp<|.seq<|.block<|.R ?_
  have hyl:(⟨y1.1,y1.2.1⟩:E9).l.length<=300:=by show y1.1.length<=300;rw[hy1.1];exact h
  have hyp:0<=(⟨y1.1,y1.2.1⟩:E9).pos:=hy1.2.1
  obtain⟨D2,hD2,hd2⟩:=Dv ⟨y1.1,y1.2.1⟩ 3 (by assumption) (by assumption) (by omega) (by omega)
  have hl2:D2.2.l.length<=300:=by rw[hd2.1];assumption
  have hp2:0<=D2.2.pos:=by omega
  obtain⟨D3,hD3,hd3⟩:=Dv D2.2 12 (by assumption) (by assumption) (by omega) (by omega)
  have hl3:D3.2.l.length<=300:=by rw[hd3.1];assumption
  have hp3:0<=D3.2.pos:=by omega
  have hE:0<=Int.tdiv D3.1 11/\Int.tdiv D3.1 11<=1:=by rw[Int.tdiv_eq_ediv_of_nonneg (by omega)];omega
  have hq1:=Dw (D2.1+i1)
  have hq2:=Dw (Int.tdiv D3.1 11)
  have hq3:=Dw ((c.juns.length:Int)+Int.tdiv D3.1 11)
  obtain⟨JJ,hJJ⟩:∃JJ,Int.tmod (D2.1+i1) (if 1<(c.juns.length:Int)+Int.tdiv D3.1 11 then (c.juns.length:Int)+Int.tdiv D3.1 11 else 1)=JJ:=⟨_,rfl⟩
  have hJ0:0<=JJ:=by rw[<- hJJ];exact Int.tmod_nonneg _ (by omega)
  refine Dc (by kernel_rfl) (by rfl) (by kernel_rfl) fun K1 hK1=>?_
  simp[go_sem,hq1,hq2,hq3,hJJ]
  refine .o [0] (hD2) ?_
  simp[go_sem,hq1,hq2,hq3,hJJ]
  refine .o [0] (hD3) ?_
  simp[go_sem,hq1,hq2,hq3,hJJ]
  repeat' with_reducible refine Ax ?_ ?_
  all_goals try (intros;(repeat' refine Ax ?_ ?_)<;>omega)
  all_goals try (split<;>omega)
  refine hK1 _ _ (by kernel_rfl) ?_;clear hK1
  refine Bq<|.seq ?_
  refine Bq ?_
  refine Br ?_ ?_<;>intro h36
  ·obtain⟨e1,H1⟩:=gx c.juns JJ.toNat
   refine B0 H1 ?_
   obtain⟨D4,hD4,hd4⟩:=Dv D3.2 3 (by assumption) (by assumption) (by omega) (by omega)
   have hl4:D4.2.l.length<=300:=by rw[hd4.1];assumption
   have hp4:0<=D4.2.pos:=by omega
   refine Da H1 [0] hD4 ?_
   obtain⟨D5,hD5,hd5⟩:=Dv D4.2 12 (by assumption) (by assumption) (by omega) (by omega)
   have hl5:D5.2.l.length<=300:=by rw[hd5.1];assumption
   have hp5:0<=D5.2.pos:=by omega
   have hF:0<=Int.tdiv D5.1 11/\Int.tdiv D5.1 11<=1:=by rw[Int.tdiv_eq_ediv_of_nonneg (by omega)];omega
   have hq4:=Dw (Int.tdiv D5.1 11)
   have hpb:1<=(e1.phs.length:Int)/\(e1.phs.length:Int)<=8:=by (have:=hp e1 (Ac H1);omega)
   obtain⟨PN,hPN⟩:∃PN,((e1.phs.length:Int)+Int.tdiv D5.1 11)=PN:=⟨_,rfl⟩
   have hq5:=Dw PN
   obtain⟨D6,hD6,hd6⟩:=Dv D5.2 PN (by assumption) (by assumption) (by omega) (by omega)
   have hl6:D6.2.l.length<=300:=by rw[hd6.1];assumption
   have hp6:0<=D6.2.pos:=by omega
   obtain⟨D7,hD7,hd7⟩:=Dv D6.2 50 (by assumption) (by assumption) (by omega) (by omega)
   have hl7:D7.2.l.length<=300:=by rw[hd7.1];assumption
   have hp7:0<=D7.2.pos:=by omega
   have hq6:=Dw (D4.1+D7.1)
   refine Cg (fun K kk=>by simp[go_sem,H1,hq4,hq5,hPN,hq6];refine .o [0] (hD5) ?_;simp[go_sem,H1,hq4,hq5,hPN,hq6];(repeat refine aK ?_);refine .o [0] (hD6) ?_;simp[go_sem,H1,hq4,hq5,hPN,hq6];refine .o [0] (hD7) ?_;simp[go_sem,H1,hq4,hq5,hPN,hq6];(repeat first | exact kk | refine aK ?_)) ?_
   refine B0 H1 ?_
   exact⟨by omega,(D7.2.l,D7.2.pos,y1.2.2++([JJ,D6.1,D4.1,(D4.1+D7.1)])),⟨by rw[hd7.1,hd6.1,hd5.1,hd4.1,hd3.1,hd2.1];exact hy1.1,hp7,by simp;omega⟩,wk (Fa (Dw ((i1:Int)+1)) H1) [0,1,2]⟩
  refine Bp ?_
  obtain⟨D4,hD4,hd4⟩:=Dv D3.2 3 (by assumption) (by assumption) (by omega) (by omega)
  have hl4:D4.2.l.length<=300:=by rw[hd4.1];assumption
  have hp4:0<=D4.2.pos:=by omega
  refine Da Dy [0] hD4 ?_
  obtain⟨D5,hD5,hd5⟩:=Dv D4.2 12 (by assumption) (by assumption) (by omega) (by omega)
  have hl5:D5.2.l.length<=300:=by rw[hd5.1];assumption
  have hp5:0<=D5.2.pos:=by omega
  have hF:0<=Int.tdiv D5.1 11/\Int.tdiv D5.1 11<=1:=by rw[Int.tdiv_eq_ediv_of_nonneg (by omega)];omega
  have hq4:=Dw (Int.tdiv D5.1 11)
  have hpb:1<=(2:Int)/\(2:Int)<=8:=by first | (have:=hp e1 (Ac H1);omega) | omega
  obtain⟨PN,hPN⟩:∃PN,((2:Int)+Int.tdiv D5.1 11)=PN:=⟨_,rfl⟩
  have hq5:=Dw PN
  obtain⟨D6,hD6,hd6⟩:=Dv D5.2 PN (by assumption) (by assumption) (by omega) (by omega)
  have hl6:D6.2.l.length<=300:=by rw[hd6.1];assumption
  have hp6:0<=D6.2.pos:=by omega
  obtain⟨D7,hD7,hd7⟩:=Dv D6.2 50 (by assumption) (by assumption) (by omega) (by omega)
  have hl7:D7.2.l.length<=300:=by rw[hd7.1];assumption
  have hp7:0<=D7.2.pos:=by omega
  have hq6:=Dw (D4.1+D7.1)
  refine Cg (fun K kk=>by simp[go_sem,hq4,hq5,hPN,hq6];refine .o [0] (hD5) ?_;simp[go_sem,hq4,hq5,hPN,hq6];(repeat refine aK ?_);refine .o [0] (hD6) ?_;simp[go_sem,hq4,hq5,hPN,hq6];refine .o [0] (hD7) ?_;simp[go_sem,hq4,hq5,hPN,hq6];(repeat first | exact kk | refine aK ?_)) ?_
  refine Ci ?_
  exact⟨by omega,(D7.2.l,D7.2.pos,y1.2.2++([JJ,D6.1,D4.1,(D4.1+D7.1)])),⟨by rw[hd7.1,hd6.1,hd5.1,hd4.1,hd3.1,hd2.1];exact hy1.1,hp7,by simp;omega⟩,wk (Dw ((i1:Int)+1)) [0,1,2]⟩
 refine Bt<|.R ?_
 exact .ret ⟨(y1.2.2,⟨y1.1,y1.2.1⟩),rW Dy [0,1],⟨hy1.1,hy1.2.1,by dsimp only;omega⟩⟩
def MkQ (m:D0):Prop:=m.tok.length=10/\By m.tok/\m.args.length<=20/\m.data=[]
theorem Al2 {a s:Int} {n:Int} {h:(Ec n).length<=1000}:(Et a s (Ec n) h).length=10/\By (Et a s (Ec n) h):=by
 have h1:=Rk a s (Ec n) h
 have h2:=I4 n
 exact⟨by rw[h1.1,h2.1],h1.2 h2.2⟩
theorem Aol {l:List Int} {i:Nat} {e:Int} (h:l[i]? = some e):(l.map fun x=>[T.lit (Value.int IntKind.i64 x)])[i]? = some [T.lit (Value.int IntKind.i64 e)]:=by rw[Ap,h];rfl
theorem Ama (n:Int):(Ec n).length<=1000:=by rw[(I4 n).1];decide
theorem I1 (k:E9) (c:Fc) (ag:Int) (cal:Bool) (h:k.l.length<=300) (h0:0<=k.pos) (hj:1<=c.juns.length/\c.juns.length<=2) (hp:∀j∈c.juns,j.phs.length<=8/\1<=j.phs.length):Cx 17 [.box 84 (k.a false)] [.ptr 0 0,c.g,.li ag,.lb cal] (fun d:D0×E9=>[.box 84 (d.2.a false)]) (fun d=>d.1.g) (fun d=>d.2.l=k.l/\0<=d.2.pos/\MkQ d.1):=by
 refine Tj Tryz.func17 ?_
 refine Bq ?_
 obtain⟨D1,hD1,hd1⟩:=Dv k 12 (by assumption) (by assumption) (by omega) (by omega)
 have hl1:D1.2.l.length<=300:=by rw[hd1.1];assumption
 have hp1:0<=D1.2.pos:=by omega
 have hw1:=Dw (1+D1.1)
 refine B3 (fun K kk=>by simp[go_sem,hw1];refine .o [0] (hD1) ?_;simp[go_sem,hw1];refine .l (Gb (IntKind.i64.wrap (1000+ag))) ?_;simp[go_sem,hw1];refine .lo (Hp ag 0 (Ec (IntKind.i64.wrap (1000+ag))) (Ama _)) rfl (by simp[AV.cln,Fb]) ?_;simp[go_sem,hw1];exact kk) ?_
 refine Do (fun s=>∃(DL1:List Int) (DP1:Int) (TK:List Int),(DL1=k.l/\0<=DP1/\TK.length=10/\By TK)/\s=⟨[(0,.ptr 0 0),(3,.lb cal),(5,.ptr 1 0),(8,.ptr 2 0),(9,.ptr 3 0)],[.box 84 [.mI DL1,.li DP1],.box 30 (c.a false),.box 56 [.li 0,.nil 1,.nil 1,.nil 1],.box 56 [.li (1+D1.1),.mY TK,.nil 1,.nil 1]]⟩) ?_ ?_
 ·obtain⟨D2,hD2,hd2⟩:=Dv D1.2 9 (by assumption) (by assumption) (by omega) (by omega)
  have hl2:D2.2.l.length<=300:=by rw[hd2.1];assumption
  have hp2:0<=D2.2.pos:=by omega
  refine Da Dy [0] hD2<|.block ?_
  refine Bq ?_
  refine Br ?_ ?_<;>intro h24
  ·obtain⟨D3,hD3,hd3⟩:=Dv D2.2 4 (by assumption) (by assumption) (by omega) (by omega)
   have hl3:D3.2.l.length<=300:=by rw[hd3.1];assumption
   have hp3:0<=D3.2.pos:=by omega
   obtain⟨D4,hD4,hd4⟩:=Dv D3.2 3 (by assumption) (by assumption) (by omega) (by omega)
   have hl4:D4.2.l.length<=300:=by rw[hd4.1];assumption
   have hp4:0<=D4.2.pos:=by omega
   refine Cg (fun K kk=>by simp[go_sem];refine .o [0] (hD3) ?_;simp[go_sem];refine .o [0] (hD4) ?_;simp[go_sem];refine .l (Gb (IntKind.i64.wrap (IntKind.i64.wrap (2000+(IntKind.i64.wrap (10*ag)))+D4.1))) ?_;simp[go_sem];refine .lo (Hp ag D3.1 (Ec (IntKind.i64.wrap (IntKind.i64.wrap (2000+(IntKind.i64.wrap (10*ag)))+D4.1))) (Ama _)) rfl (by simp[AV.cln,Fb]) ?_;simp[go_sem];exact kk) ?_
   refine⟨[0,1,2,3],_,El (by decide) ?_ ?_,by simp,D4.2.l,D4.2.pos,(Et ag D3.1 (Ec (IntKind.i64.wrap (IntKind.i64.wrap (2000+(IntKind.i64.wrap (10*ag)))+D4.1))) (Ama _)),⟨hd4.1.trans (hd3.1.trans (hd2.1.trans hd1.1)),hp4,Al2.1,Al2.2⟩,rfl⟩
   all_goals simp[go_sem]
  refine Bq ?_
  refine Br ?_ ?_<;>intro h38
  ·obtain⟨D5,hD5,hd5⟩:=Dv D2.2 3 (by assumption) (by assumption) (by omega) (by omega)
   have hl5:D5.2.l.length<=300:=by rw[hd5.1];assumption
   have hp5:0<=D5.2.pos:=by omega
   obtain⟨D6,hD6,hd6⟩:=Dv D5.2 3 (by assumption) (by assumption) (by omega) (by omega)
   have hl6:D6.2.l.length<=300:=by rw[hd6.1];assumption
   have hp6:0<=D6.2.pos:=by omega
   refine Cg (fun K kk=>by simp[go_sem];refine .o [0] (hD5) ?_;simp[go_sem];refine .o [0] (hD6) ?_;simp[go_sem];refine .l (Gb (IntKind.i64.wrap (1000+D6.1))) ?_;simp[go_sem];refine .lo (Hp D5.1 0 (Ec (IntKind.i64.wrap (1000+D6.1))) (Ama _)) rfl (by simp[AV.cln,Fb]) ?_;simp[go_sem];exact kk) ?_
   refine⟨[0,1,2,3],_,El (by decide) ?_ ?_,by simp,D6.2.l,D6.2.pos,(Et D5.1 0 (Ec (IntKind.i64.wrap (1000+D6.1))) (Ama _)),⟨hd6.1.trans (hd5.1.trans (hd2.1.trans hd1.1)),hp6,Al2.1,Al2.2⟩,rfl⟩
   all_goals simp[go_sem]
  refine Bp ?_
  refine⟨[0,1,2,3],_,El (by decide) ?_ ?_,by simp,D2.2.l,D2.2.pos,(Et ag 0 (Ec (IntKind.i64.wrap (1000+ag))) (Ama _)),⟨hd2.1.trans hd1.1,hp2,Al2.1,Al2.2⟩,rfl⟩
  all_goals simp[go_sem]
 rintro _ ⟨DL1,DP1,TK,hc1,rfl⟩
 refine Do (fun s=>∃(DL2:List Int) (DP2:Int) (KD:Int),(DL2=k.l/\0<=DP2)/\s=⟨[(0,.ptr 0 0),(3,.lb cal),(5,.ptr 1 0),(8,.ptr 2 0),(9,.ptr 3 0)],[.box 84 [.mI DL2,.li DP2],.box 30 (c.a false),.box 56 [.li 0,.nil 1,.nil 1,.nil 1],.box 56 [.li KD,.mY TK,.nil 1,.nil 1]]⟩) ?_ ?_
 ·have hyl:(⟨DL1,DP1⟩:E9).l.length<=300:=by show DL1.length<=300;rw[hc1.1];exact h
  have hyp:0<=(⟨DL1,DP1⟩:E9).pos:=hc1.2.1
  obtain⟨D7,hD7,hd7⟩:=Dv ⟨DL1,DP1⟩ 2 (by assumption) (by assumption) (by omega) (by omega)
  have hl7:D7.2.l.length<=300:=by rw[hd7.1];assumption
  have hp7:0<=D7.2.pos:=by omega
  refine Da Dy [0] hD7 ?_
  refine Br ?_ ?_<;>intro h50
  ·obtain⟨D8,hD8,hd8⟩:=Dv D7.2 4 (by assumption) (by assumption) (by omega) (by omega)
   have hl8:D8.2.l.length<=300:=by rw[hd8.1];assumption
   have hp8:0<=D8.2.pos:=by omega
   obtain⟨e1,H1⟩:=gx ([6,4,6,7]:List Int) D8.1.toNat
   have hxte1:[[T.lit (Value.int IntKind.i64 6)],[T.lit (Value.int IntKind.i64 4)],[T.lit (Value.int IntKind.i64 6)],[T.lit (Value.int IntKind.i64 7)]][D8.1.toNat]? = some [T.lit (Value.int IntKind.i64 e1)]:=Aol (l:=[6,4,6,7]) H1
   refine C6 (Fa H1 hxte1) [0] hD8 ?_
   refine⟨[0,1,2,3],_,El (by decide) ?_ ?_,by simp,D8.2.l,D8.2.pos,e1,⟨hd8.1.trans (hd7.1.trans hc1.1),hp8⟩,rfl⟩
   all_goals simp[go_sem,H1,hxte1]
  refine Bp ?_
  refine⟨[0,1,2,3],_,El (by decide) ?_ ?_,by simp,D7.2.l,D7.2.pos,(1+D1.1),⟨hd7.1.trans hc1.1,hp7⟩,rfl⟩
  all_goals simp[go_sem]
 rintro _ ⟨DL2,DP2,KD,hc2,rfl⟩
 have hyl:(⟨DL2,DP2⟩:E9).l.length<=300:=by show DL2.length<=300;rw[hc2.1];exact h
 have hyp:0<=(⟨DL2,DP2⟩:E9).pos:=hc2.2
 obtain⟨D9,hD9,hd9⟩:=Dv ⟨DL2,DP2⟩ 4 (by assumption) (by assumption) (by omega) (by omega)
 have hl9:D9.2.l.length<=300:=by rw[hd9.1];assumption
 have hp9:0<=D9.2.pos:=by omega
 refine Da Dy [0] hD9 ?_
 refine Do (fun s=>∃(CL:Int) (DL3:List Int) (DP3:Int),(DL3=k.l/\0<=DP3)/\s=⟨[(0,.ptr 0 0),(5,.ptr 1 0),(8,.ptr 2 0),(9,.ptr 3 0),(10,.li CL)],[.box 84 [.mI DL3,.li DP3],.box 30 (c.a false),.box 56 [.li 0,.nil 1,.nil 1,.nil 1],.box 56 [.li KD,.mY TK,.nil 1,.nil 1]]⟩) ?_ ?_
 ·refine Bq ?_
  refine Br ?_ ?_<;>intro h59
  ·obtain⟨D10,hD10,hd10⟩:=Dv D9.2 2 (by assumption) (by assumption) (by omega) (by omega)
   have hl10:D10.2.l.length<=300:=by rw[hd10.1];assumption
   have hp10:0<=D10.2.pos:=by omega
   refine C6 Dy [0] hD10 ?_
   refine⟨[0,1,2,3],_,El (by decide) ?_ ?_,by simp,D10.1,D10.2.l,D10.2.pos,⟨hd10.1.trans (hd9.1.trans hc2.1),hp10⟩,rfl⟩
   all_goals simp[go_sem]
  refine Bp ?_
  refine⟨[0,1,2,3],_,El (by decide) ?_ ?_,by simp,D9.1,D9.2.l,D9.2.pos,⟨hd9.1.trans hc2.1,hp9⟩,rfl⟩
  all_goals simp[go_sem]
 rintro _ ⟨CL,DL3,DP3,hc3,rfl⟩
 refine Ca<|.R<|.block ?_
 refine Bq ?_
 refine Br ?_ ?_<;>intro h64
 ·have hyl:(⟨DL3,DP3⟩:E9).l.length<=300:=by show DL3.length<=300;rw[hc3.1];exact h
  have hyp:0<=(⟨DL3,DP3⟩:E9).pos:=hc3.2
  obtain⟨D11,hD11,hd11⟩:=Dv ⟨DL3,DP3⟩ 5 (by assumption) (by assumption) (by omega) (by omega)
  have hl11:D11.2.l.length<=300:=by rw[hd11.1];assumption
  have hp11:0<=D11.2.pos:=by omega
  obtain⟨D12,hD12,hd12⟩:=Dv D11.2 5 (by assumption) (by assumption) (by omega) (by omega)
  have hl12:D12.2.l.length<=300:=by rw[hd12.1];assumption
  have hp12:0<=D12.2.pos:=by omega
  obtain⟨D13,hD13,hd13⟩:=Dv D12.2 4 (by assumption) (by assumption) (by omega) (by omega)
  have hl13:D13.2.l.length<=300:=by rw[hd13.1];assumption
  have hp13:0<=D13.2.pos:=by omega
  obtain⟨e2,H2⟩:=gx ([63,1,3,47,64]:List Int) D11.1.toNat
  have hxte2:[[T.lit (Value.int IntKind.i64 63)],[T.lit (Value.int IntKind.i64 1)],[T.lit (Value.int IntKind.i64 3)],[T.lit (Value.int IntKind.i64 47)],[T.lit (Value.int IntKind.i64 64)]][D11.1.toNat]? = some [T.lit (Value.int IntKind.i64 e2)]:=Aol (l:=[63,1,3,47,64]) H2
  obtain⟨e3,H3⟩:=gx ([0,5,30,700]:List Int) D13.1.toNat
  have hxte3:[[T.lit (Value.int IntKind.i64 0)],[T.lit (Value.int IntKind.i64 5)],[T.lit (Value.int IntKind.i64 30)],[T.lit (Value.int IntKind.i64 700)]][D13.1.toNat]? = some [T.lit (Value.int IntKind.i64 e3)]:=Aol (l:=[0,5,30,700]) H3
  refine Dg (fun K kk=>by simp[go_sem,H2,hxte2,H3,hxte3];refine .o [0] (hD11) ?_;simp[go_sem,H2,hxte2,H3,hxte3];(repeat refine aK ?_);refine .o [0] (hD12) ?_;simp[go_sem,H2,hxte2,H3,hxte3];refine .o [0] (hD13) ?_;simp[go_sem,H2,hxte2,H3,hxte3];(repeat first | exact kk | refine aK ?_)) ?_
  refine Bu (P6 H2 hxte2 H3 hxte3) ?_
  refine B2 Dy 6 ?_
  exact .ret ⟨(⟨KD,TK,[e2,D12.1,e3],[]⟩,D13.2),rW (P6 H2 hxte2 H3 hxte3) [0],⟨by first | exact hc3.1 | exact hd14.1.trans hc3.1 | exact hd15.1.trans hc3.1 | exact hy1.1 | exact hlg.1.trans (hd18.1.trans (hd17.1.trans (hd16.1.trans hc3.1))) | exact hd13.1.trans (hd12.1.trans (hd11.1.trans hc3.1)),by first | exact hc3.2 | exact hp14 | exact hp15 | exact hp13,hc1.2.2.1,hc1.2.2.2,by (simp;done),rfl⟩⟩
 refine Ce (by rfl) fun K1 hK1=>?_
 simp[go_sem]
 refine hK1 _ ⟨_,_,_,_,_,_,_,_,rfl,.more (by decide) rfl rfl (.more (by decide) rfl rfl (.more (by decide) rfl rfl (.one (by decide) rfl rfl))),by decide,rfl,by simp[go_sem];rfl,by simp[go_sem];rfl,by simp[go_sem],?_⟩;clear hK1
 refine Br ?_ ?_<;>intro h80
 ·have hyl:(⟨DL3,DP3⟩:E9).l.length<=300:=by show DL3.length<=300;rw[hc3.1];exact h
  have hyp:0<=(⟨DL3,DP3⟩:E9).pos:=hc3.2
  obtain⟨D14,hD14,hd14⟩:=Dv ⟨DL3,DP3⟩ 4 (by assumption) (by assumption) (by omega) (by omega)
  have hl14:D14.2.l.length<=300:=by rw[hd14.1];assumption
  have hp14:0<=D14.2.pos:=by omega
  refine C6 Dy [0] hD14 ?_
  refine Bq ?_
  refine B2 Dy 4 ?_
  exact .ret ⟨(⟨KD,TK,[D14.1],[]⟩,D14.2),rW Dy [0],⟨by first | exact hc3.1 | exact hd14.1.trans hc3.1,by first | exact hc3.2 | exact hp14,hc1.2.2.1,hc1.2.2.2,by (simp;done),rfl⟩⟩
 refine Bq ?_
 refine Br ?_ ?_<;>intro h90
 ·have hyl:(⟨DL3,DP3⟩:E9).l.length<=300:=by show DL3.length<=300;rw[hc3.1];exact h
  have hyp:0<=(⟨DL3,DP3⟩:E9).pos:=hc3.2
  obtain⟨D15,hD15,hd15⟩:=Dv ⟨DL3,DP3⟩ 4 (by assumption) (by assumption) (by omega) (by omega)
  have hl15:D15.2.l.length<=300:=by rw[hd15.1];assumption
  have hp15:0<=D15.2.pos:=by omega
  refine C6 Dy [0] hD15 ?_
  refine Bq ?_
  refine B2 Dy 4 ?_
  exact .ret ⟨(⟨KD,TK,[D15.1,CL],[]⟩,D15.2),rW Dy [0],⟨by first | exact hc3.1 | exact hd14.1.trans hc3.1 | exact hd15.1.trans hc3.1,by first | exact hc3.2 | exact hp14 | exact hp15,hc1.2.2.1,hc1.2.2.2,by (simp;done),rfl⟩⟩
 refine Bq ?_
 refine Br ?_ ?_<;>intro h97
 ·have hyl:(⟨DL3,DP3⟩:E9).l.length<=300:=by show DL3.length<=300;rw[hc3.1];exact h
  have hyp:0<=(⟨DL3,DP3⟩:E9).pos:=hc3.2
  obtain⟨D16,hD16,hd16⟩:=Dv ⟨DL3,DP3⟩ 4 (by assumption) (by assumption) (by omega) (by omega)
  have hl16:D16.2.l.length<=300:=by rw[hd16.1];assumption
  have hp16:0<=D16.2.pos:=by omega
  obtain⟨D17,hD17,hd17⟩:=Dv D16.2 4 (by assumption) (by assumption) (by omega) (by omega)
  have hl17:D17.2.l.length<=300:=by rw[hd17.1];assumption
  have hp17:0<=D17.2.pos:=by omega
  obtain⟨D18,hD18,hd18⟩:=Ef D17.2 1 60 (by assumption) (by assumption) (by omega) (by omega) (by omega)
  have hl18:D18.2.l.length<=300:=by rw[hd18.1];assumption
  have hp18:0<=D18.2.pos:=by omega
  obtain⟨LG,hLG,hlg⟩:=Nz D18.2 c [D16.1,D17.1,D18.1] (by assumption) (by assumption) hj hp (by simp)
  refine Dg (fun K kk=>by simp[go_sem];refine .o [0] (hD16) ?_;simp[go_sem];refine .o [0] (hD17) ?_;simp[go_sem];refine .o [0] (hD18) ?_;simp[go_sem];refine .o [0,4] (hLG) ?_;simp[go_sem];exact kk) ?_
  refine Bq ?_
  refine B2 Dy 4 ?_
  exact .ret ⟨(⟨KD,TK,LG.1,[]⟩,LG.2),rW Dy [0],⟨by first | exact hc3.1 | exact hd14.1.trans hc3.1 | exact hd15.1.trans hc3.1 | exact hy1.1 | exact hlg.1.trans (hd18.1.trans (hd17.1.trans (hd16.1.trans hc3.1))),by first | exact hc3.2 | exact hp14 | exact hp15 | exact hp13 | exact hlg.2.1,hc1.2.2.1,hc1.2.2.2,by first | (simp;done) | (have h9:=hlg.2.2;simp at h9;dsimp only;omega),rfl⟩⟩
 refine Bq ?_
 refine Br ?_ ?_<;>intro h110
 ·have hyl:(⟨DL3,DP3⟩:E9).l.length<=300:=by show DL3.length<=300;rw[hc3.1];exact h
  have hyp:0<=(⟨DL3,DP3⟩:E9).pos:=hc3.2
  obtain⟨D19,hD19,hd19⟩:=Dv ⟨DL3,DP3⟩ 4 (by assumption) (by assumption) (by omega) (by omega)
  have hl19:D19.2.l.length<=300:=by rw[hd19.1];assumption
  have hp19:0<=D19.2.pos:=by omega
  refine Da Dy [0] hD19 ?_
  obtain⟨D20,hD20,hd20⟩:=Dv D19.2 2 (by assumption) (by assumption) (by omega) (by omega)
  have hl20:D20.2.l.length<=300:=by rw[hd20.1];assumption
  have hp20:0<=D20.2.pos:=by omega
  have hw27:=Dw (1+D20.1)
  refine Da hw27 [0] hD20<|.block ?_
  refine Cj (fun (y1:(List Int)×Int×(List Int)×Int)=>⟨[(0,.ptr 0 0),(8,.ptr 1 0),(9,.ptr 2 0),(11,.li y1.2.2.2)],[.box 84 [.mI y1.1,.li y1.2.1],.box 56 [.li 0,.nil 1,.nil 1,.nil 1],.box 56 [.li KD,.mY TK,.own 3 y1.2.2.1.length,.nil 1],.row 3 1 false false (tI y1.2.2.1)]⟩) (fun y1=>y1.1=k.l/\0<=y1.2.1/\y1.2.2.1.length+2*y1.2.2.2<=10/\0<=y1.2.2.2) (fun y1=>y1.2.2.2.toNat) (D20.2.l,D20.2.pos,[D19.1],(1+D20.1)) (wk Dy [0,2,3,4]) (⟨hd20.1.trans (hd19.1.trans hc3.1),hp20,by simp;omega,by dsimp only;omega⟩) fun y1 hy1=>?_
  refine Ca<|.R ?_
  refine Br ?_ ?_<;>intro h120
  ·refine Bp<|.seq<|.block ?_
   have hyl:(⟨y1.1,y1.2.1⟩:E9).l.length<=300:=by show y1.1.length<=300;rw[hy1.1];exact h
   have hyp:0<=(⟨y1.1,y1.2.1⟩:E9).pos:=hy1.2.1
   obtain⟨D21,hD21,hd21⟩:=Dv ⟨y1.1,y1.2.1⟩ 3 (by assumption) (by assumption) (by omega) (by omega)
   have hl21:D21.2.l.length<=300:=by rw[hd21.1];assumption
   have hp21:0<=D21.2.pos:=by omega
   refine Da Dy [0] hD21 ?_
   obtain⟨D22,hD22,hd22⟩:=Dv D21.2 40 (by assumption) (by assumption) (by omega) (by omega)
   have hl22:D22.2.l.length<=300:=by rw[hd22.1];assumption
   have hp22:0<=D22.2.pos:=by omega
   have hw4:=Dw (D21.1+D22.1:Int)
   refine Dg (fun K kk=>by simp[go_sem,hw4];refine .o [0] (hD22) ?_;simp[go_sem,hw4];(repeat first | exact kk | refine aK ?_)) ?_
   have hw5:=Dw (y1.2.2.2 - 1:Int)
   refine B0 (Fa hw4 hw5) ?_
   refine⟨(D22.2.l,D22.2.pos,y1.2.2.1++([D21.1,(D21.1+D22.1)]),(y1.2.2.2 - 1)),?_,?_,wQ [0,1,2,3] ?_ ?_⟩
   ·(dsimp only;omega)
   ·(exact⟨hd22.1.trans (hd21.1.trans hy1.1),hp22,by simp;omega,by dsimp only;omega⟩)
   all_goals simp[go_sem,hw4,hw5]
  refine Bt<|.R ?_
  refine B2 Dy 3 ?_
  exact .ret ⟨(⟨KD,TK,y1.2.2.1,[]⟩,⟨y1.1,y1.2.1⟩),rW Dy [0],⟨by first | exact hc3.1 | exact hd14.1.trans hc3.1 | exact hd15.1.trans hc3.1 | exact hy1.1,by first | exact hc3.2 | exact hp14 | exact hp15 | exact hp13 | exact hlg.2.1 | exact hy1.2.1,hc1.2.2.1,hc1.2.2.2,by first | (simp;done) | (have h9:=hlg.2.2;simp at h9;dsimp only;omega) | (dsimp only;omega),rfl⟩⟩
 refine Bp<|.R ?_
 exact .ret ⟨(⟨KD,TK,[],[]⟩,⟨DL3,DP3⟩),rW Dy [0],⟨by exact hc3.1,by exact hc3.2,hc1.2.2.1,hc1.2.2.2,by (simp;done),rfl⟩⟩
section
def skJ (s:List (Int×Int)) (x:Bool):Ga:=⟨s.map fun p=>⟨p.1,p.2,0,0,0,0,0,0⟩,(List.range s.length).map fun t=>Wd s x t s.length,0⟩
def Awq (s:List (Int×Int)) (x:Bool):Bool:=Uo (skJ s x).con&&(Ex .and .i64 (Aab (skJ s x) s.length) (IntKind.i64.wrap (Aab (skJ s x) s.length+1)) == 0)&&Xh (skJ s x)
theorem Ayj:(Xd.all fun s=>Awq s true&&Awq s false)=true:=by decide +kernel
variable {s:List (Int×Int)} {j:Ga}
theorem Atp {x:Bool} (h:Yc s j.phs) (hl:j.phs.length=s.length) (p:Nat):(Ns j p).ring=(Ns (skJ s x) p).ring/\(Ns j p).grp=(Ns (skJ s x) p).grp:=by
 unfold Ns skJ
 by_cases hp:p<j.phs.length
 ·have h1:=Aa hp
  obtain⟨t,ht,h2,h3,_⟩:=h p _ h1
  rw[h1,Ap,ht]
  exact⟨h2,h3⟩
 rw[Ar (by omega),Ap,Ar (by omega)]
 exact⟨rfl,rfl⟩
theorem Aqh {s:List (Int×Int)} {x:Bool} {j:Ga} (h:Yc s j.phs) (hl:j.phs.length=s.length):∀n,Aab j n=Aab (skJ s x) n
 | 0=>rfl
 | n+1=>by rw[Aab,Aab,Aqh h hl n,(Atp (x:=x) h hl n).2]
theorem Aoz {x:Bool} (h:Yc s j.phs) (hl:j.phs.length=s.length) (hc:j.con=(skJ s x).con):Xh j=Xh (skJ s x):=by
 unfold Xh
 have e:(skJ s x).phs.length=j.phs.length:=by rw[hl];simp[skJ]
 rw[e]
 congr 1
 funext p
 congr 1
 funext q
 unfold Aac
 rw[(Atp (x:=x) h hl p).1,(Atp (x:=x) h hl p).2,(Atp (x:=x) h hl q).1,(Atp (x:=x) h hl q).2,hc]
theorem As0.ok (h:As0 j):Q8 j=true/\Nv j/\j.phs.length<=8:=by
 obtain⟨s,hs,x,h1,h2,h3,h4,h5⟩:=h
 have hsl:=Aqd hs
 have hsk:Awq s x=true:=by
  have:=Am.1 Ayj s hs
  simp only[Ah] at this
  cases x
  ·exact this.2
  exact this.1
 simp only[Awq,Ah] at hsk
 have hcl:j.con.length=j.phs.length:=by rw[h3,h2];simp
 have hph:∀p,p<j.phs.length->I9 (Ns j p)=true:=fun p hp=>by
  have hq:=Aa hp
  obtain⟨t,ht,g1,g2,g3,g4,g5,g6,g7,g8,g9⟩:=h1 p _ hq
  have hw:=Dw (j.phs[p].wa+j.phs[p].cl)
  have htr:∀s∈Xd,∀t∈s,0<=t.1/\t.1<=1/\0<=t.2/\t.2<=3:=by decide
  have htb:=htr s hs t (Ac ht)
  have hwc:((j.phs[p].wa == 0) == (j.phs[p].cl == 0))=true:=by
   rcases g6 with⟨a,b⟩ | g6
   ·rw[a,b];rfl
   have a:(j.phs[p].wa == 0)=false:=by simp;omega
   have b:(j.phs[p].cl == 0)=false:=by simp;omega
   rw[a,b];rfl
  unfold Ns
  rw[hq]
  simp only[Bh,I9,Ev,Ah,decide_eq_true_eq,hw]
  exact⟨⟨⟨⟨⟨by omega,by omega⟩,by omega,by omega⟩,⟨⟨by omega,by omega⟩,by omega,by omega⟩,by omega,by omega⟩,⟨⟨by omega,by omega⟩,by omega,by omega⟩,by omega,by omega⟩,⟨by omega,by omega⟩,hwc⟩
 have hcon:j.con=(skJ s x).con:=h3
 refine⟨?_,⟨by omega,by omega,by omega,fun p hp=>?_,fun p hp=>?_⟩,by omega⟩
 ·simp only[Q8,Ah,decide_eq_true_eq]
  refine⟨⟨⟨⟨⟨⟨⟨by omega,by omega⟩,hcl⟩,by rw[hcon];exact hsk.1.1⟩,?_⟩,Mq hph⟩,?_⟩,by rw[Aoz h1 h2 hcon];exact hsk.2⟩
  ·simp only[Ev,Ah,decide_eq_true_eq];omega
  rw[h2,Aqh (x:=x) h1 h2];exact hsk.1.2
 all_goals
  obtain⟨i,hi⟩:=A3.1 hp
  have hil:=(Ab.1 hi).1
  have hq:=R0 (hph i hil)
  unfold Ns at hq
  rw[hi] at hq
  simp only[Bh] at hq
  omega
variable {ri:Int}
theorem AgQ.ok (hr:0<=ri/\ri<=63) {a:H0} (h:AgQ ri a):Afq a=true:=by
 obtain⟨h1,h2,h3,h4,h5,h6,h7,h8,h9,h10⟩:=h
 simp only[Afq,Ah,decide_eq_true_eq,Ev]
 refine⟨⟨⟨h1,h2⟩,Mq fun i hi=>?_⟩,⟨⟨⟨⟨⟨by omega,by omega⟩,by omega,by omega⟩,by omega,by omega⟩,by omega,by omega⟩,by omega,by omega⟩,by omega,by omega⟩
 have hq:=Aa hi
 have hb:=h3 _ (Ac hq)
 unfold So
 rw[hq]
 simp only[Bh,Ah,decide_eq_true_eq]
 omega
variable {c:Fc}
theorem Ad1.pl (hr:0<=ri/\ri<=63) (h:Ad1 ri c):Mo c=true:=by
 have h1:=h.per
 have h2:=h.cap
 have h3:=h.hold
 have h4:=h.lock
 have h5:=h.nj
 have h6:=h.na
 simp only[Mo,Ah,decide_eq_true_eq,Ev]
 exact⟨⟨⟨⟨⟨by omega,by omega⟩,by omega,by omega⟩,Am.2 fun j hj=>(h.jun j hj).ok.1⟩,Am.2 fun a ha=>(h.ag a ha).ok hr⟩,⟨⟨⟨by omega,by omega⟩,by omega,by omega⟩,by omega,by omega⟩,by omega,by omega⟩
section
variable (h:Ad1 ri c)
include h
theorem Ad1.b:Ab4 c:=⟨by have:=h.nj;omega,by have:=h.na;omega,fun j hj=>⟨(h.jun j hj).ok.2.1.len,(h.jun j hj).ok.2.1.con⟩,fun a ha=>⟨by rw[(h.ag a ha).1];decide,by rw[(h.ag a ha).2.1];decide⟩⟩
theorem Ad1.hj:∀j∈c.juns,Nv j/\j.phs.length<=8:=fun j hj=>(h.jun j hj).ok.2
theorem Ad1.ha:∀a∈c.ags,a.sec.length<=1000000/\a.lims.length<=1000000/\a.rq<=3:=fun a ha=>⟨by rw[(h.ag a ha).1];decide,by rw[(h.ag a ha).2.1];decide,by have:=(h.ag a ha).2.2.2.2.2.1;omega⟩
theorem Ad1.hs:∀x∈c.ags,1<=x.se/\x.se<=2:=fun a ha=>(h.ag a ha).2.2.2.2.2.2.1
end
end
theorem Awd (n:Nat):By (List.replicate n (0:Int)):=fun x hx=>by rw[List.eq_of_mem_replicate hx];decide
theorem Jh {e:Mr} (h:e.bytes=[]):Pc e:=by rw[Pc,h];exact⟨by simp,Nq⟩
theorem Aee {e:Mr} {n:Int} (h:e.bytes=Ec n):Pc e:=by
 have hq:=I4 n
 rw[Pc,h];exact⟨by rw[hq.1];decide,hq.2⟩
theorem Sv (c:Fc) (h:c.ags.length<=1000000) (hs:∀a∈c.ags,1<=a.se/\a.se<=2):Ct 31 [c.g] (fun d:Int=>.li d) (fun d=>0<=d/\d<=2*c.ags.length):=by
 refine Er Tryz.func31 ?_
 refine Bq ?_
 refine Bq<|.seq ?_
 refine Bq<|.block ?_
 refine Bs c.ags.length (fun i1 (y1:Int)=>⟨[(3,.li y1),(7,.mAg c.ags),(8,.li c.ags.length),(9,.li i1)],[]⟩) (fun i1 y1=>0<=y1/\y1<=2*i1) (0) (wk Dy []) (⟨by decide,by decide⟩) fun i1 y1 hi1 hy1=>?_
 refine Bq<|.seq ?_
 refine Br ?_ ?_<;>intro h10
 ·refine Bp<|.seq<|.block ?_
  obtain⟨e1,H1⟩:=gx c.ags i1
  refine Bu H1 ?_
  have hse:=hs e1 (Ac H1)
  have hw2:=Dw (y1+e1.se:Int)
  refine B0 (Fa H1 hw2) ?_
  refine B0 (Fa H1 hw2) ?_
  exact⟨by omega,((y1+e1.se)),⟨by omega,by omega⟩,wk (Jb (Dw ((i1:Int)+1)) H1 hw2) []⟩
 refine Bt<|.R ?_
 exact .ret (Ep Dy y1 ⟨hy1.1,by omega⟩)
theorem Oz (k:E9) (c:Fc) (s:Int) (cal:Bool) (h:k.l.length<=300) (h0:0<=k.pos):Cx 35 [.box 84 (k.a false)] [.ptr 0 0,c.g,.li s,.lb cal] (fun d:Mr×E9=>[.box 84 (d.2.a false)]) (fun d=>d.1.g) (fun d=>d.2.l=k.l/\0<=d.2.pos/\Pc d.1):=by
 refine Tj Tryz.func35 ?_
 refine Bq<|.seq ?_
 obtain⟨D1,hD1,hd1⟩:=Dv k 6 (by assumption) (by assumption) (by omega) (by omega)
 have hl1:D1.2.l.length<=300:=by rw[hd1.1];assumption
 have hp1:0<=D1.2.pos:=by omega
 refine Da Dy [0] hD1<|.block ?_
 refine Bq ?_
 refine Br ?_ ?_<;>intro h12
 ·refine Bq ?_
  refine Bz ⟨(⟨2,s,0,0,[]⟩,D1.2),Tb [0] (by simp[go_sem]) (by decide) (by simp) (by simp[go_sem]) ?_,⟨by first | exact hb1.1.trans hd1.1 | exact hd6.1.trans hd1.1 | exact hd5.1.trans (hd4.1.trans hd1.1) | exact hd3.1.trans (hd2.1.trans hd1.1) | exact hd1.1,by first | exact hb1.2.1 | exact hp6 | exact hp5 | exact hp3 | exact hp1,by exact Jh rfl⟩⟩
  repeat' (first | exact .nil | refine .cons (by simp[go_sem]) ?_)
 refine Bq ?_
 refine Br ?_ ?_<;>intro h17
 ·refine Bq ?_
  refine Bz ⟨(⟨1,s,0,0,[]⟩,D1.2),Tb [0] (by simp[go_sem]) (by decide) (by simp) (by simp[go_sem]) ?_,⟨by first | exact hb1.1.trans hd1.1 | exact hd6.1.trans hd1.1 | exact hd5.1.trans (hd4.1.trans hd1.1) | exact hd3.1.trans (hd2.1.trans hd1.1) | exact hd1.1,by first | exact hb1.2.1 | exact hp6 | exact hp5 | exact hp3 | exact hp1,by exact Jh rfl⟩⟩
  repeat' (first | exact .nil | refine .cons (by simp[go_sem]) ?_)
 refine Bq ?_
 refine Br ?_ ?_<;>intro h22
 ·obtain⟨D2,hD2,hd2⟩:=Dv D1.2 4 (by assumption) (by assumption) (by omega) (by omega)
  have hl2:D2.2.l.length<=300:=by rw[hd2.1];assumption
  have hp2:0<=D2.2.pos:=by omega
  obtain⟨D3,hD3,hd3⟩:=Dv D2.2 50 (by assumption) (by assumption) (by omega) (by omega)
  have hl3:D3.2.l.length<=300:=by rw[hd3.1];assumption
  have hp3:0<=D3.2.pos:=by omega
  refine B3 (fun K kk=>by simp[go_sem];refine .o [0] (hD2) ?_;simp[go_sem];refine .o [0] (hD3) ?_;simp[go_sem];refine .l (Gb D3.1) ?_;simp[go_sem];exact kk) ?_
  refine Bz ⟨(⟨4,0,D2.1,0,(Ec D3.1)⟩,D3.2),Tb [0] (by simp[go_sem]) (by decide) (by simp) (by simp[go_sem]) ?_,⟨by first | exact hb1.1.trans hd1.1 | exact hd6.1.trans hd1.1 | exact hd5.1.trans (hd4.1.trans hd1.1) | exact hd3.1.trans (hd2.1.trans hd1.1),by first | exact hb1.2.1 | exact hp6 | exact hp5 | exact hp3,by first | exact Jh rfl | exact Aee rfl⟩⟩
  repeat' (first | exact .nil | refine .cons (by simp[go_sem]) ?_)
 refine Bq ?_
 refine Br ?_ ?_<;>intro h31
 ·refine Bq ?_
  refine Bz ⟨(⟨6,0,0,0,[]⟩,D1.2),Tb [0] (by simp[go_sem]) (by decide) (by simp) (by simp[go_sem]) ?_,⟨by first | exact hb1.1.trans hd1.1 | exact hd6.1.trans hd1.1 | exact hd5.1.trans (hd4.1.trans hd1.1) | exact hd3.1.trans (hd2.1.trans hd1.1) | exact hd1.1,by first | exact hb1.2.1 | exact hp6 | exact hp5 | exact hp3 | exact hp1,by exact Jh rfl⟩⟩
  repeat' (first | exact .nil | refine .cons (by simp[go_sem]) ?_)
 refine Bq ?_
 refine Br ?_ ?_<;>intro h34
 ·obtain⟨D4,hD4,hd4⟩:=Dv D1.2 3 (by assumption) (by assumption) (by omega) (by omega)
  have hl4:D4.2.l.length<=300:=by rw[hd4.1];assumption
  have hp4:0<=D4.2.pos:=by omega
  obtain⟨D5,hD5,hd5⟩:=Dv D4.2 9 (by assumption) (by assumption) (by omega) (by omega)
  have hl5:D5.2.l.length<=300:=by rw[hd5.1];assumption
  have hp5:0<=D5.2.pos:=by omega
  refine B3 (fun K kk=>by simp[go_sem];refine .o [0] (hD4) ?_;simp[go_sem];refine .o [0] (hD5) ?_;simp[go_sem];exact kk) ?_
  refine Bz ⟨(⟨5,0,D4.1,D5.1,[]⟩,D5.2),Tb [0] (by simp[go_sem]) (by decide) (by simp) (by simp[go_sem]) ?_,⟨by first | exact hb1.1.trans hd1.1 | exact hd6.1.trans hd1.1 | exact hd5.1.trans (hd4.1.trans hd1.1),by first | exact hb1.2.1 | exact hp6 | exact hp5,by exact Jh rfl⟩⟩
  repeat' (first | exact .nil | refine .cons (by simp[go_sem]) ?_)
 refine Bq ?_
 refine Br ?_ ?_<;>intro h42
 ·obtain⟨D6,hD6,hd6⟩:=Dv D1.2 120 (by assumption) (by assumption) (by omega) (by omega)
  have hl6:D6.2.l.length<=300:=by rw[hd6.1];assumption
  have hp6:0<=D6.2.pos:=by omega
  have hw1:=Dw (150+D6.1)
  refine Da hw1 [0] hD6 ?_
  refine Dm 3 ?_
  simp[go_sem,-Prod.exists]
  refine Bz ⟨(⟨3,s,0,0,List.replicate ((150+D6.1).toNat) 0⟩,D6.2),Tb [0] (by simp[go_sem]) (by decide) (by simp) (by simp[go_sem]) ?_,⟨by first | exact hb1.1.trans hd1.1 | exact hd6.1.trans hd1.1,by first | exact hb1.2.1 | exact hp6,by first | exact Jh rfl | exact Aee rfl | exact⟨by simp;omega,Awd _⟩⟩⟩
  repeat' (first | exact .nil | refine .cons (by simp[go_sem]) ?_)
 refine Bp ?_
 obtain⟨B1,hB1,hb1⟩:=O0 D1.2 9 (by assumption) (by assumption) (by omega) (by omega)
 refine Da Dy [0] hB1 ?_
 refine Dm 3 ?_
 simp[go_sem,-Prod.exists]
 refine Bz ⟨(⟨3,s,0,0,B1.1⟩,B1.2),Tb [0] (by simp[go_sem]) (by decide) (by simp) (by simp[go_sem]) ?_,⟨by exact hb1.1.trans hd1.1,by exact hb1.2.1,by first | exact Jh rfl | exact Aee rfl | exact⟨by simp;omega,Awd _⟩ | exact⟨by have:=hb1.2.2.1;dsimp only;omega,hb1.2.2.2⟩⟩⟩
 repeat' (first | exact .nil | refine .cons (by simp[go_sem]) ?_)
section
variable {P:Program} {f:FuncId}
theorem Ai0 {d:Option Tmp} {ty:TypeId} {os:List VO} {st:St} {K:St->Prop} {xs:List Operand} {ts:Array TypeId} {v:AV} {want:Bool} {args':List AV} {σa σr:List Ob} {res:AV} (sel:List Nat) (hp:Ey P f σa args' σr res) (hv:Hw v.sv=true/\(v.sb&&(Fe v.sv == want))=true) (hb:(xs.all fun x=>(st.raw x).sb)=true) (hσ:(sel.map fun id=>((st.o id).passR st.o fun id=>Ms id sel 0).low)=σa) (ha:J6 (G4 st.o (fun id=>Ms id sel 0) (xs.map fun x=>(st.raw x).sv))=args') (hc:Ac0 (xs.map fun x=>(st.raw x).sv) st sel σr res) (h:runs P os (st.after d (.gd true (Om sel st.ob.length σr res).1) (Om sel st.ob.length σr res).2) K) :
  Zf P d (.call ⟨.value (.func f),xs.toArray,ts⟩) ty v want os st K :=
 Ans hv ⟨_,⟨⟨rfl,by simpa using hb⟩,.inr ⟨f,[],sel,σr,res,rfl,by simpa using Ye.of sel hp hσ ha hc _,rfl⟩⟩,h⟩
theorem Pc.one {e:Mr} (h:Pc e):∀x∈[e],Pc x:=fun x hx=>by simp at hx;rw[hx];exact h
theorem A2w {kd a s n:Int} {h:(Ec n).length<=1000} {args:List Int} (hl:args.length<=20):MkQ ⟨kd,Et a s (Ec n) h,args,[]⟩:=⟨(Al2 (h:=h)).1,(Al2 (h:=h)).2,hl,rfl⟩
theorem A2z {j:Ga} (h:As0 j):1<=j.phs.length:=by
 obtain⟨s,hs,x,_,hl,_⟩:=h
 rw[hl]
 have:∀s∈Xd,1<=s.length:=by decide +kernel
 exact this s hs
theorem Pc.app {l:List Mr} {e:Mr} (hl:∀x∈l,Pc x) (h:Pc e):∀x∈l++[e],Pc x:=fun x hx=>by
 rcases A0.1 hx with h1 | h1
 ·exact hl x h1
 exact Pc.one h x h1
theorem mkF {m:D0} (h:MkQ m):∃d:List Int,PP 18 [] [m.g] [.row 5 1 false false (tY d)] (.own 0 d.length)/\d.length<=210/\By d:=by
 obtain⟨d,h1,h2,h3⟩:=R8 m (by rw[h.1];decide) (Ak h.2.2.1 (by decide)) (by rw[h.2.2.2];exact Ae _)
 exact⟨d,h1,h2,h3 h.2.1 (by rw[h.2.2.2];exact Nq)⟩
theorem Ey.bright {σa:List Ob} {args:List AV} {ty k:Nat} {fr fz:Bool} {es:List (List T)} {res:AV} (h:Ey P f σa args [.row ty k fr fz es] res) (hp:es.all (fun e=>e.all T.plain)=true):Ey P f σa args [.row ty k true fz es] res :=
 ⟨h.1,fun E β us hn ho hβ r=>(h.2 E β us hn ho hβ r).mono fun e w' ⟨v,β',he,r'⟩=>⟨v,β',he,(r'.flag (id:=0) rfl (fun _=>.inr hp) (fun h=>h)).1⟩⟩
theorem A06 {m:D0} (h:MkQ m):∃d:List Int,PP 18 [] [m.g] [] (.imm true 1 (tY d))/\d.length<=210/\By d:=by
 obtain⟨d,h1,h2⟩:=mkF h
 exact⟨d,Ey.froz (es:=tY d) (by rw[A2];exact h1.bright (by simp[T.plain])),h2⟩
theorem Mu (k:E9) (c:Fc) (cal:Bool) (h:k.l.length<=300) (h0:0<=k.pos) (hc:Ad1 63 c):Cx 13 [.box 84 (k.a false)] [.ptr 0 0,c.g,.lb cal] (fun d:List Mr×E9=>[.box 84 (d.2.a false)]) (fun d=>.mEv d.1) (fun d=>d.2.l=k.l/\0<=d.2.pos/\(2<=d.1.length/\d.1.length<=200)/\∀e∈d.1,Pc e):=by
 refine Tj Tryz.func13 ?_
 have hag:c.ags.length<=1000000:=Ak hc.na.2 (by decide)
 have hna:=hc.na
 have hph:∀j∈c.juns,j.phs.length<=8/\1<=j.phs.length:=fun j hj=>⟨(hc.hj j hj).2,A2z (hc.jun j hj)⟩
 obtain⟨Y1,cY1,qY1⟩:=Em (Sv c hag hc.hs)
 have hSv:=cY1
 have hSq:=qY1
 generalize Y1=NS at hSv hSq
 iterate 2 refine Bq ?_
 refine B8 Dy (hSv)<|.seq ?_
 refine Bq<|.block ?_
 refine Cf 7 46 5 (by decide) (k':=5) (by simp[go_sem]) ?_
 simp[go_sem,-Prod.exists]
 refine Bs NS.toNat (fun i1 (y1:(List Mr))=>⟨[(0,.ptr 0 0),(2,.lb cal),(4,.ptr 1 0),(7,.own 2 y1.length),(8,.li NS),(17,.li NS),(18,.li i1)],[.box 84 [.mI k.l,.li k.pos],.box 30 (c.a false),.row 46 5 false false (tEv y1)]⟩) (fun i1 y1=>y1.length=i1/\∀e∈y1,Pc e) ([]) (wk Dy [0,1,2]) (⟨rfl,fun e he=>by cases he⟩) fun i1 y1 hi1 hy1=>?_
 refine Bq<|.seq ?_
 refine Br ?_ ?_<;>intro h19
 ·refine Bp<|.seq<|.block<|.R ?_
  refine B0 Dy ?_
  refine Ci ?_
  exact⟨by omega,(y1++([⟨1,i1,0,0,[]⟩])),⟨by simp;omega,Pc.app hy1.2 (Jh rfl)⟩,wk (Dw ((i1:Int)+1)) [0,1,2]⟩
 refine Bt<|.seq<|.R<|.block ?_
 refine Bs c.ags.length (fun i2 (y2:(List Mr))=>⟨[(0,.ptr 0 0),(2,.lb cal),(4,.ptr 1 0),(7,.own 2 y2.length),(8,.li NS),(29,.li c.ags.length),(30,.li i2)],[.box 84 [.mI k.l,.li k.pos],.box 30 (c.a false),.row 46 5 false false (tEv y2)]⟩) (fun i2 y2=>y2.length<=6+4*i2/\∀e∈y2,Pc e) (y1) (wk Dy [0,1,2]) (⟨by omega,hy1.2⟩) fun i2 y2 hi2 hy2=>?_
 refine Bq<|.seq ?_
 refine Br ?_ ?_<;>intro h31
 ·refine Bp<|.seq<|.block<|.R ?_
  refine B8 Dy (Gb (IntKind.i64.wrap (2000+(IntKind.i64.wrap (10*i2))))) ?_
  refine Bq<|.block ?_
  refine Bs 3 (fun i3 (y3:(List Mr))=>⟨[(0,.ptr 0 0),(2,.lb cal),(4,.ptr 1 0),(7,.own 2 y3.length),(8,.li NS),(10,.li i2),(29,.li c.ags.length),(30,.li i2),(42,.li i3)],[.box 84 [.mI k.l,.li k.pos],.box 30 (c.a false),.row 46 5 false false (tEv y3)]⟩) (fun i3 y3=>y3.length<=7+4*i2+i3/\∀e∈y3,Pc e) (y2++([⟨4,0,i2,0,(Ec (IntKind.i64.wrap (2000+(IntKind.i64.wrap (10*i2)))))⟩])) (wk Dy [0,1,2]) (⟨by simp;omega,Pc.app hy2.2 (Aee rfl)⟩) fun i3 y3 hi3 hy3=>?_
  refine Bq<|.seq ?_
  refine Br ?_ ?_<;>intro h43
  ·refine Bp<|.seq<|.block<|.R ?_
   obtain⟨FR,hFR,hfr⟩:=A06 (m:=⟨4,Et i2 0 (Ec (IntKind.i64.wrap (1000+(i2:Int)))) (Ama _),[(i3:Int),Int.tmod i3 2],[]⟩) (A2w (by simp))
   refine Cg (fun K kk=>by simp[go_sem];refine .l (S0 c i2 hag) ?_;simp[go_sem];refine .l (Gb (IntKind.i64.wrap (1000+i2))) ?_;simp[go_sem];refine .lo (Hp i2 0 (Ec (IntKind.i64.wrap (1000+i2))) (Ama _)) rfl (by simp[AV.cln,Fb]) ?_;simp[go_sem];(repeat refine aK ?_);refine .l (hFR) ?_;simp[go_sem];(repeat first | exact kk | refine aK ?_)) ?_
   refine Ci ?_
   exact⟨by omega,(y3++[⟨3,Mj c (i2:Int) hag,0,0,FR⟩]),⟨by simp;omega,Pc.app hy3.2 ⟨by dsimp only;omega,hfr.2⟩⟩,wk (Dw ((i3:Int)+1)) [0,1,2]⟩
  refine Bt<|.R1 ?_
  exact⟨by omega,(y3),⟨by omega,hy3.2⟩,wk (Dw ((i2:Int)+1)) [0,1,2]⟩
 refine Bt<|.H Dy<|.seq<|.block ?_
 refine Cj (fun (y4:(List Int)×Int×(List Mr))=>⟨[(0,.ptr 0 0),(2,.lb cal),(4,.ptr 1 0),(7,.own 2 y4.2.2.length),(8,.li NS)],[.box 84 [.mI y4.1,.li y4.2.1],.box 30 (c.a false),.row 46 5 false false (tEv y4.2.2)]⟩) (fun y4=>y4.1=k.l/\0<=y4.2.1/\(1<=y4.2.2.length/\y4.2.2.length<=160)/\∀e∈y4.2.2,Pc e) (fun y4=>150 - y4.2.2.length) (k.l,k.pos,y2++([⟨6,0,0,0,[]⟩])) (wk Dy [0,1,2]) (⟨rfl,h0,⟨by simp,by simp;omega⟩,Pc.app hy2.2 (Jh rfl)⟩) fun y4 hy4=>?_
 refine Ca ?_
 have hyl:(⟨y4.1,y4.2.1⟩:E9).l.length<=300:=by show y4.1.length<=300;rw[hy4.1];exact h
 have hyp:0<=(⟨y4.1,y4.2.1⟩:E9).pos:=hy4.2.1
 have hyk:(⟨y4.1,y4.2.1⟩:E9).l=k.l:=hy4.1
 obtain⟨⟨LB,LD⟩,hLF,hlf⟩:=N0 ⟨y4.1,y4.2.1⟩ hyl
 dsimp only at hlf hLF
 subst hlf
 refine B3 (fun K kk=>by simp[go_sem];refine .o [0] (hLF) ?_;simp[go_sem];exact kk) ?_
 refine Br ?_ ?_<;>intro h75
 ·refine Bp<|.block ?_
  obtain⟨NN,hNN⟩:∃NN,(if 1<NS then NS else 1)=NN:=⟨_,rfl⟩
  have hnb:1<=NN/\NN<=100:=by rw[<- hNN];split<;>omega
  obtain⟨D1,hD1,hd1⟩:=Dv ⟨y4.1,y4.2.1⟩ NN (by assumption) (by assumption) (by omega) (by omega)
  have hl1:D1.2.l.length<=300:=by rw[hd1.1];assumption
  have hp1:0<=D1.2.pos:=by omega
  have hk1:D1.2.l=k.l:=hd1.1.trans (by assumption)
  refine B3 (fun K kk=>by simp[go_sem,hNN];refine .o [0] (hD1) ?_;simp[go_sem,hNN];exact kk) ?_
  obtain⟨D2,hD2,hd2⟩:=Dv D1.2 12 (by assumption) (by assumption) (by omega) (by omega)
  have hl2:D2.2.l.length<=300:=by rw[hd2.1];assumption
  have hp2:0<=D2.2.pos:=by omega
  have hk2:D2.2.l=k.l:=hd2.1.trans (by assumption)
  refine B3 (fun K kk=>by simp[go_sem];refine .o [0] (hD2) ?_;simp[go_sem];exact kk)<|.block ?_
  refine Ce (by rfl) fun K1 hK1=>?_
  simp[go_sem]
  refine hK1 _ ⟨_,_,_,_,_,_,_,_,rfl,.more (by decide) rfl rfl (.more (by decide) rfl rfl (.one (by decide) rfl rfl)),by decide,rfl,by simp[go_sem];rfl,by simp[go_sem];rfl,by simp[go_sem],?_⟩;clear hK1
  refine Br ?_ ?_<;>intro h122
  ·refine B0 Dy ?_
   refine⟨(D2.2.l,D2.2.pos,y4.2.2++([⟨6,0,0,0,[]⟩])),?_,?_,wQ [0,1,2] ?_ ?_⟩
   ·((simp;omega))
   ·exact⟨hk2,hp2,⟨by simp,by simp;omega⟩,Pc.app hy4.2.2.2 (Jh rfl)⟩
   all_goals simp[go_sem]
  refine Bq ?_
  refine Br ?_ ?_<;>intro h131
  ·obtain⟨D3,hD3,hd3⟩:=Dv D2.2 6 (by assumption) (by assumption) (by omega) (by omega)
   have hl3:D3.2.l.length<=300:=by rw[hd3.1];assumption
   have hp3:0<=D3.2.pos:=by omega
   have hk3:D3.2.l=k.l:=hd3.1.trans (by assumption)
   refine B3 (fun K kk=>by simp[go_sem];refine .o [0] (hD3) ?_;simp[go_sem];exact kk)<|.block ?_
   refine Cj (fun (y5:(List Mr)×Int)=>⟨[(0,.ptr 0 0),(2,.lb cal),(4,.ptr 1 0),(7,.own 2 y5.1.length),(8,.li NS),(13,.li y5.2)],[.box 84 [.mI D3.2.l,.li D3.2.pos],.box 30 (c.a false),.row 46 5 false false (tEv y5.1)]⟩) (fun y5=>y5.1.length+y5.2=y4.2.2.length+D3.1 /\ -1<=y5.2/\∀e∈y5.1,Pc e) (fun y5=>(y5.2+1).toNat) (y4.2.2,D3.1) (wk Dy [0,1,2]) (⟨by simp,by dsimp only;omega,hy4.2.2.2⟩) fun y5 hy5=>?_
   refine Ca<|.R ?_
   refine Br ?_ ?_<;>intro h136
   ·refine Bp<|.seq<|.block<|.H1 Dy ?_
    have hw1:=Dw (y5.2 - 1:Int)
    refine B0 hw1 ?_
    refine⟨(y5.1++([⟨6,0,0,0,[]⟩]),(y5.2 - 1)),?_,?_,wQ [0,1,2] ?_ ?_⟩
    ·(dsimp only;omega)
    ·exact⟨by simp;omega,by dsimp only;omega,Pc.app hy5.2.2 (Jh rfl)⟩
    all_goals simp[go_sem,hw1]
   refine Bt ?_
   refine⟨(D3.2.l,D3.2.pos,y5.1),?_,?_,wQ [0,1,2] ?_ ?_⟩
   ·((simp;omega))
   ·exact⟨hk3,hp3,⟨by dsimp only;omega,by dsimp only;omega⟩,hy5.2.2⟩
   all_goals simp[go_sem]
  refine Bq ?_
  refine Br ?_ ?_<;>intro h143
  ·obtain⟨O1,hO1,ho1⟩:=Oz D2.2 c D1.1 cal (by assumption) (by assumption)
   refine Cg (fun K kk=>by simp[go_sem];refine .o [0] (hO1) ?_;simp[go_sem];(repeat first | exact kk | refine aK ?_)) ?_
   refine⟨(O1.2.l,O1.2.pos,y4.2.2++([O1.1])),?_,?_,wQ [0,1,2] ?_ ?_⟩
   ·((simp;omega))
   ·exact⟨ho1.1.trans hk2,ho1.2.1,⟨by simp,by simp;omega⟩,Pc.app hy4.2.2.2 ho1.2.2⟩
   all_goals simp[go_sem]
  obtain⟨Y2,cY2,qY2⟩:=Em (R7 c D1.1 hag)
  obtain⟨M1,hM1,hm1⟩:=I1 D2.2 c Y2 cal (by assumption) (by assumption) hc.nj hph
  have hlM1:M1.2.l.length<=300:=by rw[hm1.1];assumption
  have hpM1:=hm1.2.1
  have hkM1:M1.2.l=k.l:=hm1.1.trans (by assumption)
  obtain⟨F1,hF1,hf1⟩:=mkF hm1.2.2
  refine Cw (fun K kk=>by simp[go_sem];refine .l cY2 ?_;simp[go_sem];refine .o [0] (hM1) ?_;simp[go_sem];refine .l (hF1) ?_;simp[go_sem];exact kk)<|.seq ?_
  obtain⟨D4,hD4,hd4⟩:=Dv M1.2 3 (by assumption) (by assumption) (by omega) (by omega)
  have hl4:D4.2.l.length<=300:=by rw[hd4.1];assumption
  have hp4:0<=D4.2.pos:=by omega
  have hk4:D4.2.l=k.l:=hd4.1.trans (by assumption)
  refine B3 (fun K kk=>by simp[go_sem];refine .o [0] (hD4) ?_;simp[go_sem];exact kk) ?_
  refine Br ?_ ?_<;>intro h92
  ·obtain⟨M2,hM2,hm2⟩:=I1 D4.2 c Y2 cal (by assumption) (by assumption) hc.nj hph
   have hlM2:M2.2.l.length<=300:=by rw[hm2.1];assumption
   have hpM2:=hm2.2.1
   have hkM2:M2.2.l=k.l:=hm2.1.trans (by assumption)
   obtain⟨F2,hF2,hf2⟩:=A06 hm2.2.2
   refine Dg (fun K kk=>by simp[go_sem];refine .l cY2 ?_;simp[go_sem];refine .o [0] (hM2) ?_;simp[go_sem];refine .l (hF2) ?_;simp[go_sem];(repeat first | exact kk | refine aK ?_))<|.seq ?_
   by_cases hc25:cal=false
   ·have hcl:(M2.2:E9).l.length<=300:=by assumption
    have hcp:0<=(M2.2:E9).pos:=by assumption
    have hck:(M2.2:E9).l=k.l:=by assumption
    have hB25:((F1++F2)).length<=1000/\By ((F1++F2)):=by first | exact⟨by omega,hf1.2⟩ | exact⟨by simp;omega,hf1.2.app hf2.2⟩
    obtain⟨D5,hD5,hd5⟩:=Dv M2.2 7 (by assumption) (by assumption) (by omega) (by omega)
    have hl5:D5.2.l.length<=300:=by rw[hd5.1];assumption
    have hp5:0<=D5.2.pos:=by omega
    have hk5:D5.2.l=k.l:=hd5.1.trans (by assumption)
    refine B2 hc25 3 ?_
    refine B3 (fun K kk=>by simp[go_sem,hc25];refine Ai0 [0] (hD5) (by simp[go_sem,hc25]) (by simp[go_sem,hc25]) (by simp[go_sem,hc25]) (by simp[go_sem,hc25]) (by constructor<;>simp[go_sem]) ?_;simp[go_sem,hc25];exact kk) ?_
    refine Br ?_ ?_<;>intro h109
    ·obtain⟨D6,hD6,hd6⟩:=Dv D5.2 99 (by assumption) (by assumption) (by omega) (by omega)
     have hl6:D6.2.l.length<=300:=by rw[hd6.1];assumption
     have hp6:0<=D6.2.pos:=by omega
     have hk6:D6.2.l=k.l:=hd6.1.trans (by assumption)
     obtain⟨D7,hD7,hd7⟩:=Dv D6.2 1024 (by assumption) (by assumption) (by omega) (by omega)
     have hl7:D7.2.l.length<=300:=by rw[hd7.1];assumption
     have hp7:0<=D7.2.pos:=by omega
     have hk7:D7.2.l=k.l:=hd7.1.trans (by assumption)
     have hq26:=Lf ((F1++F2)) D6.1 D7.1 hB25.1
     refine Cg (fun K kk=>by simp[go_sem,hc25];refine .o [0] (hD6) ?_;simp[go_sem,hc25];refine .o [0] (hD7) ?_;simp[go_sem,hc25];refine .lo (Ld (F1++F2) D6.1 D7.1 hB25.1) (by simp[go_sem]) (by simp[AV.cln,Fb]) ?_;simp[go_sem,hc25];exact kk) ?_
     refine B0 hc25 ?_
     refine⟨(D7.2.l,D7.2.pos,y4.2.2++([⟨3,D1.1,0,0,(Gu (F1++F2) D6.1 D7.1 hB25.1)⟩])),?_,?_,wQ [0,1,2] ?_ ?_⟩
     ·((simp;omega))
     ·exact⟨by assumption,by assumption,⟨by simp,by simp;omega⟩,Pc.app hy4.2.2.2 ⟨by dsimp only;omega,hq26.2 hB25.2⟩⟩
     all_goals simp[go_sem,hc25]
    refine Bp<|.H1 hc25 ?_
    refine⟨(D5.2.l,D5.2.pos,y4.2.2++([⟨3,D1.1,0,0,F1++F2⟩])),?_,?_,wQ [0,1,2] ?_ ?_⟩
    ·((simp;omega))
    ·exact⟨by assumption,by assumption,⟨by simp,by simp;omega⟩,Pc.app hy4.2.2.2 ⟨by dsimp only;omega,hB25.2⟩⟩
    all_goals simp[go_sem,hc25]
   have hcl:(M2.2:E9).l.length<=300:=by assumption
   have hcp:0<=(M2.2:E9).pos:=by assumption
   have hck:(M2.2:E9).l=k.l:=by assumption
   have hB25:((F1++F2)).length<=1000/\By ((F1++F2)):=by first | exact⟨by omega,hf1.2⟩ | exact⟨by simp;omega,hf1.2.app hf2.2⟩
   refine B2 hc25 3 ?_
   refine B3 (fun K kk=>by simp[go_sem,hc25];refine Aar (by simp[go_sem,hc25]) ?_;simp[go_sem,hc25];exact kk) ?_
   refine Cl ?_ ?_<;>intro h109<;>simp[go_sem] at h109
   refine Bp<|.H1 hc25 ?_
   refine⟨(M2.2.l,M2.2.pos,y4.2.2++([⟨3,D1.1,0,0,F1++F2⟩])),?_,?_,wQ [0,1,2] ?_ ?_⟩
   ·((simp;omega))
   ·exact⟨by assumption,by assumption,⟨by simp,by simp;omega⟩,Pc.app hy4.2.2.2 ⟨by dsimp only;omega,hB25.2⟩⟩
   all_goals simp[go_sem,hc25]
  refine Bp<|.seq ?_
  by_cases hc25:cal=false
  ·have hcl:(D4.2:E9).l.length<=300:=by assumption
   have hcp:0<=(D4.2:E9).pos:=by assumption
   have hck:(D4.2:E9).l=k.l:=by assumption
   have hB25:(F1).length<=1000/\By (F1):=by exact⟨by omega,hf1.2⟩
   obtain⟨D5,hD5,hd5⟩:=Dv D4.2 7 (by assumption) (by assumption) (by omega) (by omega)
   have hl5:D5.2.l.length<=300:=by rw[hd5.1];assumption
   have hp5:0<=D5.2.pos:=by omega
   have hk5:D5.2.l=k.l:=hd5.1.trans (by assumption)
   refine B2 hc25 3 ?_
   refine B3 (fun K kk=>by simp[go_sem,hc25];refine Ai0 [0] (hD5) (by simp[go_sem,hc25]) (by simp[go_sem,hc25]) (by simp[go_sem,hc25]) (by simp[go_sem,hc25]) (by constructor<;>simp[go_sem]) ?_;simp[go_sem,hc25];exact kk) ?_
   refine Br ?_ ?_<;>intro h109
   ·obtain⟨D6,hD6,hd6⟩:=Dv D5.2 99 (by assumption) (by assumption) (by omega) (by omega)
    have hl6:D6.2.l.length<=300:=by rw[hd6.1];assumption
    have hp6:0<=D6.2.pos:=by omega
    have hk6:D6.2.l=k.l:=hd6.1.trans (by assumption)
    obtain⟨D7,hD7,hd7⟩:=Dv D6.2 1024 (by assumption) (by assumption) (by omega) (by omega)
    have hl7:D7.2.l.length<=300:=by rw[hd7.1];assumption
    have hp7:0<=D7.2.pos:=by omega
    have hk7:D7.2.l=k.l:=hd7.1.trans (by assumption)
    have hq26:=Lf (F1) D6.1 D7.1 hB25.1
    refine Cg (fun K kk=>by simp[go_sem,hc25];refine .o [0] (hD6) ?_;simp[go_sem,hc25];refine .o [0] (hD7) ?_;simp[go_sem,hc25];refine .lo (Ld F1 D6.1 D7.1 hB25.1) (by simp[go_sem]) (by simp[AV.cln,Fb]) ?_;simp[go_sem,hc25];exact kk) ?_
    refine B0 hc25 ?_
    refine⟨(D7.2.l,D7.2.pos,y4.2.2++([⟨3,D1.1,0,0,(Gu F1 D6.1 D7.1 hB25.1)⟩])),?_,?_,wQ [0,1,2] ?_ ?_⟩
    ·((simp;omega))
    ·exact⟨by assumption,by assumption,⟨by simp,by simp;omega⟩,Pc.app hy4.2.2.2 ⟨by dsimp only;omega,hq26.2 hB25.2⟩⟩
    all_goals simp[go_sem,hc25]
   refine Bp<|.H1 hc25 ?_
   refine⟨(D5.2.l,D5.2.pos,y4.2.2++([⟨3,D1.1,0,0,F1⟩])),?_,?_,wQ [0,1,2] ?_ ?_⟩
   ·((simp;omega))
   ·exact⟨by assumption,by assumption,⟨by simp,by simp;omega⟩,Pc.app hy4.2.2.2 ⟨by dsimp only;omega,hB25.2⟩⟩
   all_goals simp[go_sem,hc25]
  have hcl:(D4.2:E9).l.length<=300:=by assumption
  have hcp:0<=(D4.2:E9).pos:=by assumption
  have hck:(D4.2:E9).l=k.l:=by assumption
  have hB25:(F1).length<=1000/\By (F1):=by exact⟨by omega,hf1.2⟩
  refine B2 hc25 3 ?_
  refine B3 (fun K kk=>by simp[go_sem,hc25];refine Aar (by simp[go_sem,hc25]) ?_;simp[go_sem,hc25];exact kk) ?_
  refine Cl ?_ ?_<;>intro h109<;>simp[go_sem] at h109
  refine Bp<|.H1 hc25 ?_
  refine⟨(D4.2.l,D4.2.pos,y4.2.2++([⟨3,D1.1,0,0,F1⟩])),?_,?_,wQ [0,1,2] ?_ ?_⟩
  ·((simp;omega))
  ·exact⟨by assumption,by assumption,⟨by simp,by simp;omega⟩,Pc.app hy4.2.2.2 ⟨by dsimp only;omega,hB25.2⟩⟩
  all_goals simp[go_sem,hc25]
 refine Bt<|.H Dy ?_
 refine B2 Dy 2 ?_
 exact .ret ⟨(y4.2.2++([⟨6,0,0,0,[]⟩]),(⟨y4.1,y4.2.1⟩:E9)),rW Dy [0],⟨hy4.1,hy4.2.1,⟨by simp;omega,by first | (simp;done) | (simp;omega)⟩,Pc.app hy4.2.2.2 (Jh rfl)⟩⟩
end
theorem Afa {l:List H0} (hs:∀a∈l,1<=a.se/\a.se<=2):∀k,k<=l.length->En l k=((l.take k).map H0.se).sum
 | 0,_=>rfl
 | k+1,h=>by
  have hk:l[k]? = some l[k]:=Aa (by omega)
  rw[Mf hk,Afa hs k (by omega),List.take_add_one,hk,(Gw _).2.2 (hs _ (List.getElem_mem _))]
  simp only[List.map_append,List.sum_append,Option.toList_some,List.map_cons,List.map_nil,List.sum_cons,List.sum_nil]
  omega
theorem Zx {l:List H0} {s:Nat}:∀k,(s:Int)<En l k->∃(i:Nat) (a:H0) (j:Nat),l[i]? = some a/\(j:Int)<Ek a/\s=(En l i).toNat+j
 | 0,h=>by rw[En] at h;omega
 | k+1,h=>by
  by_cases hk:(s:Int)<En l k
  ·exact Zx k hk
  have h0:=(Kb l k).1
  rw[En] at h
  cases ha:l[k]? with
  | none=>rw[ha] at h;simp only at h;omega
  | some a=>rw[ha] at h;simp only at h;exact⟨k,a,s - (En l k).toNat,ha,by omega,by omega⟩
theorem Au3 {L:List D0} {m:D0} (h:m∈L):(Nt m).length<=(L.map Nt).flatten.length:=by
 induction L with
 | nil=>cases h
 | cons x L ih =>
  rw[List.map_cons,List.flatten_cons,Bo]
  rcases List.mem_cons.1 h with rfl | h
  ·omega
  have:=ih h;omega
theorem Arq {b:Jf} {e:Mr} (hb:Ts b) (he:Pc e) (hk:e.kind=6) (hn:b.city.now=0) {a:H0} (ha:b.city.cfg.ags[0]? = some a) (hj:0<Ek a) {s:Fj} (hs:b.sess[0]? = some s) (ho:s.op=true):(Zh b e).2.2=true/\((Zh b e).2.1.ses.length:Int)=En b.city.cfg.ags b.city.cfg.ags.length/\∃o,(Zh b e).2.1.ses[0]? = some o/\10<o.length:=by
 have hq:=Mn b e hb he
 rw[<- Abx hb he] at hq
 generalize Zh b e=D at hq ⊢
 obtain⟨t1,t2,t3,l,S,hl,hTk,hTic,hsl,hout⟩:=hq.tick hk
 have hcfg:=hq.cfg
 have hnow:D.1.city.now=1:=by rw[t3,hn,if_neg (by omega)];rfl
 obtain⟨x,p,hx,hp,hK⟩:=hTk 0 s (Ab.1 hs).1 hs
 obtain⟨ee,_,hee⟩:=hK.2 ho
 have hpo:p.op=true:=congrArg (fun z:Fj×Gv=>z.2.op) hee
 obtain⟨rp,en,⟨ens,_,_,hA⟩,hrl,hSI⟩:=hTic
 have hd0:0<b.city.desks.length:=by rw[hb.city.desks];exact (Ab.1 ha).1
 obtain⟨_,r,_,_,k1,k2,_,k4⟩:=(hA 0 _ a (Aa hd0) ha).1 hd0
 obtain⟨q,hq1,hq2⟩:=hSI 0 0 a r (.inl (by show 0<D.1.city.cfg.ags.length;rw[hcfg];exact (Ab.1 ha).1)) (by show D.1.city.cfg.ags[0]? = _;rw[hcfg];exact ha) hj k2
 have hq1:S.ses[0]? = some q:=hq1
 have hso:0<D.2.1.ses.length:=by
  have hsl:S.ses.length=D.2.1.ses.length:=hsl
  rw[<- hsl]
  exact (Ab.1 hq1).1
 refine⟨t1,t2,_,Aa hso,?_⟩
 rw[hout 0 q _ hq1 (Aa hso)]
 rcases hq2 with⟨_,_,_,E,M,m1,m2,m3⟩ | ⟨hno,_⟩
 ·have m2:StS D.1.city E M:=m2
  have hv4:D.1.city.views.length<=4:=by have:=hq.i.city.views;have:=hq.i.city.nj;omega
  have hvl:=Aeo hq.i.city.view
  have hrq:=(hq.i.city.desk E (Ac m1)).1.rq
  have hM:Hy M:=Aea (by rw[m2.2.2.1];simp) (by rw[m2.2.1];simp) (by rw[m2.2.2.2.1];omega)
  have hP:P17 M D.1.city.now:=⟨m2.1,m2.2.2.1,m2.2.1,by rw[hnow];rfl,by rw[m2.2.2.2.1];omega⟩
  have hm:M∈q:=by
   rw[m3]
   refine Bn.2 ⟨?_,Ayu hM hP⟩
   unfold V9
   exact Bj _ (List.mem_append_right _ (An.2 rfl))
  have h1:=Au3 hm
  rw[Axh hP,hnow,show (Gj 1).1.length=1 from rfl] at h1
  omega
 have:=hno p hp
 rw[hpo] at this
 cases this
theorem Ash {c:Fc} (hb:Ab4 c) (hp:Mo c=true) (hJ:∀j∈c.juns,Nv j/\j.phs.length<=8) (hA:∀a∈c.ags,a.sec.length<=1000000/\a.lims.length<=1000000/\a.rq<=3) (hl1:c.juns.length<=4) (hl2:c.ags.length<=4) (hS:∀x∈c.ags,1<=x.se/\x.se<=2) (h1:c.ags.length=1) (hse:∀a∈c.ags,a.se=1) :
 ∃b f,Oh (Fq c hb hp hJ hA hl1 hl2 hS) [⟨1,0,0,0,[]⟩,⟨6,0,0,0,[]⟩]=[⟨[b],f⟩]/\10<b.length:=by
 obtain⟨q1,q2,q3,q4,q5,q6⟩:=Um c hb hp hJ hA hl1 hl2 hS
 generalize Fq c hb hp hJ hA hl1 hl2 hS=B at q1 q2 q3 q4 q5 q6
 have ha:c.ags[0]? = some c.ags[0]:=Aa (by omega)
 have hse0:=hse _ (Ac ha)
 have hcn:Ek c.ags[0]=1:=by rw[(Gw _).2.2 (by omega)];exact hse0
 have hsum:En c.ags c.ags.length=1:=by
  rw[h1,Mf ha,hcn]
  rfl
 have hsl:0<B.sess.length:=by
  rw[<- List.take_length (l:=c.ags),<- Afa hS _ (Aj _),hsum] at q4
  omega
 have hz:B.sess[0]? = some ⟨false,false,⟨[],false⟩⟩:=by rw[Aa hsl,q5 _ (List.getElem_mem _)]
 have hE1:Pc ⟨1,0,0,0,[]⟩:=Jh rfl
 have d1:=Mn B ⟨1,0,0,0,[]⟩ q1 hE1
 have hsq:=q1.ses _ (Ac hz)
 have hop:=(Aco _ hsq.1).2.2.1
 have hds:Aal B.sess ⟨1,0,0,0,[]⟩=B.sess.set 0 (I8 ⟨false,false,⟨[],false⟩⟩ hsq.1):=by
  rw[Anf (s:=⟨false,false,⟨[],false⟩⟩) (by decide) hz,Atx hsq (by simp) rfl]
  rfl
 have f1:=d1.few (by decide:(1:Int)<=3)
 rw[hds] at f1
 have i1:=d1.i
 rw[f1] at i1
 have e1:Zh B ⟨1,0,0,0,[]⟩=_:=(Abx q1 hE1).trans f1
 obtain⟨g1,g2,x,g3,g4⟩:=Arq (e:=⟨6,0,0,0,[]⟩) i1 (Jh rfl) rfl q3 (by rw[q2];exact ha) (by rw[hcn];decide) (Bg hsl) hop
 rw[q2,hsum] at g2
 rw[Oh,e1,if_neg Bool.false_ne_true,Oh,if_pos g1,Oh]
 generalize (Zh _ (⟨6,0,0,0,[]⟩:Mr)).2.1=o at g2 g3
 obtain⟨s,f⟩:=o
 match s,g2,g3 with
 | [y],_,g3 =>
  have g3:some y=some x:=g3
  injection g3 with g3
  exact⟨y,f,rfl,by rw[g3];exact g4⟩
section
def Zc (m:D0):Bool:=m.kind == 16||(m.kind == 14&&(m.args.length == 2&&(match m.args[0]? with | some a=>decide (2<=a)&&decide (a<=8) | none=>false)))
def Lb (l:List D0):Nat:=l.countP Zc
theorem Lp (l m:List D0):Lb (l++m)=Lb l+Lb m:=List.countP_append
structure BkI (b:Ja):Prop where
  lv:0<=b.lv
  le:b.lv<=b.bu
  ra:0<=b.ra
  ru:b.ra<=1000
  bu:b.bu<=1000
def BkS (a b:Ja) (n:Nat):Prop:=b.ra=a.ra/\b.bu=a.bu/\0<=b.lv/\b.lv+n<=a.lv
theorem BkS.refl {a:Ja} (h:BkI a):BkS a a 0:=⟨rfl,rfl,h.lv,by omega⟩
variable {a b:Ja} {n k:Nat}
theorem BkS.mono (h:BkS a b n) (hk:k<=n):BkS a b k:=⟨h.1,h.2.1,h.2.2.1,by have:=h.2.2.2;omega⟩
theorem BkS.trans {a b c:Ja} (h:BkS a b n) (h':BkS b c k):BkS a c (n+k):=⟨h'.1.trans h.1,h'.2.1.trans h.2.1,h'.2.2.1,by have:=h.2.2.2;have:=h'.2.2.2;omega⟩
theorem BkS.I {n:Nat} (h:BkS a b n) (ha:BkI a):BkI b:=by
 obtain⟨h1,h2,h3,h4⟩:=h
 have:=ha.le
 exact⟨h3,by omega,by rw[h1];exact ha.ra,by rw[h1];exact ha.ru,by rw[h2];exact ha.bu⟩
theorem LvR.step {k:Int} (h:LvR k a b) (ha:BkI a):BkS a b (if 2<=k/\k<=8 then 1 else 0):=by
 unfold LvR at h
 have h1:=ha.le
 have h2:=ha.bu
 split at h
 ·rename_i hk
  rw[if_pos hk]
  unfold Q6 at h
  split at h
  ·cases h
  rename_i h0
  simp only[Prod.mk.injEq,and_true] at h
  rw[<- h]
  have e:=Dw (a.lv - 1)
  exact⟨rfl,rfl,by dsimp only;omega,by dsimp only;omega⟩
 rename_i hk
 rw[if_neg hk,h]
 exact .refl ha
variable {x y:Dx} {it:Ff} {m:D0}
theorem OkR.bk {now sl:Int} (h:OkR x it now m y sl):LvR m.kind x.reg.bk y.reg.bk:=by
 obtain⟨h1,h2,r,h3,rfl⟩:=h.op
 have hq:=Vc x.reg m now h1 h2
 rw[h3] at hq
 obtain⟨⟨bk,e,hL⟩,_⟩:=hq rfl
 have e:r={ x.reg with bk:=bk }:=e
 rw[e]
 exact hL
structure Tp (m:D0):Prop where
  k1:13<=m.kind
  k2:m.kind<=20
  by':By m.data
theorem Aqs (m:D0):Lb [m]<=1:=List.countP_le_length
theorem Wx (h:Zc m=false):Lb [m]=0:=by simp[Lb,h]
variable {cfg:Fc} {ses now:Int}
theorem Ab2.bk {x:Dx} {e:Dx×D0×Int×Int} (h:Ab2 cfg x ses it now e) (hb:BkI x.reg.bk):BkS x.reg.bk e.1.reg.bk 0/\(e.2.2.2=0->BkS x.reg.bk e.1.reg.bk (Lb [e.2.1])/\Tp e.2.1):=by
 cases h with
 | bad hc=>exact⟨.refl hb,fun h=>absurd h hc⟩
 | @reg m y sl R h1 hk h2 =>
  obtain⟨a1,a2,a3,a4,a5,a6,a7,rfl⟩:=h2
  have q:=Py y m sl now a1 a2 a3 a4 a5 a6 a7
  have hS:=h1.bk.step hb
  rw[if_pos (by omega),<- q.2.2.2.2.2.1] at hS
  exact⟨hS.mono (by omega),fun h0=>⟨hS.mono (Aqs _),by
   have q3:=q.2.2.2.2.2.2 h0
   exact⟨by dsimp only;omega,by dsimp only;omega,q3.2⟩⟩⟩
 | @ask m y sl c l h1 hk hc h2=>exact⟨(h1.bk.step hb).mono (by omega),fun h=>absurd h hc⟩
 | @asked m y sl v l h1 hk h2 hv =>
  have hS:=h1.bk.step hb
  rw[if_pos (by omega)] at hS
  refine⟨hS.mono (by omega),fun _=>⟨hS.mono (Aqs _),?_⟩⟩
  dsimp only
  rw[Uk]
  exact⟨by simp,by simp,.nil⟩
 | @no m y sl h1 hk=>exact⟨(h1.bk.step hb).mono (by omega),fun h=>absurd h (by simp)⟩
 | @aud m y sl v l h1 hk hv h2 =>
  have hS:=(h1.bk.step hb).mono (Ae _)
  refine⟨hS,fun _=>?_⟩
  dsimp only
  rw[Uk]
  refine⟨?_,by simp,by simp,.nil⟩
  rw[Wx (by simp[Zc,hk])]
  exact hS
 | @reset m y sl v h1 hk hv =>
  have hS:=(h1.bk.step hb).mono (Ae _)
  refine⟨hS,fun _=>?_⟩
  dsimp only
  rw[Uk]
  refine⟨?_,by simp,by simp,.nil⟩
  rw[Wx (by simp[Zc,hk])]
  exact hS
 | @tell m y sl h1 hk a1 a2 =>
  have hS:=(h1.bk.step hb).mono (Ae _)
  have q:=Acp y m.kind now a1 a2
  refine⟨hS,fun _=>⟨?_,by dsimp only;omega,by dsimp only;omega,by dsimp only;rw[q.2.1];exact .nil⟩⟩
  dsimp only
  rw[Wx (by rcases q.2.2.2 with h | h | h<;>simp[Zc,h])]
  exact hS
theorem Ax2.bk {x:Dx} {d:Dx×D0×Gk×Int} (h:Ax2 cfg x ses it now d) (hb:BkI x.reg.bk):BkS x.reg.bk d.1.reg.bk (Lb [d.2.1])/\Tp d.2.1:=by
 obtain⟨e,hx,e1,_,e3,e4⟩:=h
 have hB:=hx.bk hb
 rw[e1]
 by_cases h0:e.2.2.2=0
 ·rw[(e3 h0).1]
  exact hB.2 h0
 rw[(e4 h0).1,Wx (by simp[Zc])]
 exact⟨hB.1,by simp,by simp,.nil⟩
variable {e:List Gk} {s:List Int}
theorem ItR.bk {l:List Ff} {r:List D0} (h:ItR cfg ses now x l y r e s) (hb:BkI x.reg.bk):BkS x.reg.bk y.reg.bk (Lb r)/\∀m∈r,Tp m:=by
 induction h with
 | nil=>exact⟨.refl hb,fun _ h=>absurd h A8⟩
 | app h1 h2 ih =>
  obtain⟨hd,hp,h3⟩:=h2
  have hq:=(Ox cfg _ ses _ now hd hp).2
  rw[h3] at hq
  have hB:=hq.bk (ih.1.I hb)
  exact⟨by rw[Lp];exact ih.1.trans hB.1,Oy ih.2 hB.2⟩
variable {l:List Gv} {r:List (List D0)}
theorem SeR.bk {now:Int} (h:SeR cfg now x l y r e s) (hb:BkI x.reg.bk):BkS x.reg.bk y.reg.bk (Lb r.flatten)/\∀q∈r,∀m∈q,Tp m:=by
 induction h with
 | nil=>exact⟨.refl hb,fun _ h=>absurd h A8⟩
 | closed h1 h2 ih=>exact⟨by simpa using ih.1,Oy ih.2 fun _ h=>absurd h A8⟩
 | opened h1 h2 h3 ih =>
  have hB:=h3.bk (ih.1.I hb)
  exact⟨by rw[List.flatten_append,Lp];simpa using ih.1.trans hB.1,Oy ih.2 hB.2⟩
theorem Aiz.bk {x:Dx} {now:Int} {d:Dx×List (List D0)×List Gk×List Int} (h:Aiz cfg x l now d) (hb:BkI x.reg.bk):BkS x.reg.bk d.1.reg.bk (Lb d.2.1.flatten)/\∀q∈d.2.1,∀m∈q,Tp m:=by
 obtain⟨b,y,r,h1,h2,_,_,hS,e1,e2⟩:=h
 have hB:=SeR.bk hS hb
 rw[e1,e2]
 refine⟨?_,fun q hq=>(A0.1 hq).elim (hB.2 q) fun h=>?_⟩
 ·rw[List.flatten_append,Lp,show (List.replicate (x.aud.length - r.length) ([]:List D0)).flatten=[] by simp]
  exact hB.1
 rw[(List.mem_replicate.1 h).2]
 exact fun _ h=>absurd h A8
theorem Afh {b:Ja} (h:BkI b):BkI (Na b)/\(Na b).ra=b.ra/\(Na b).bu=b.bu/\(Na b).lv<=b.lv+b.ra:=by
 obtain⟨h1,h2,h3,h4,h5⟩:=h
 have e:=Dw (b.lv+b.ra)
 unfold Na
 rw[e]
 refine⟨⟨?_,?_,h3,h4,h5⟩,rfl,rfl,?_⟩<;>dsimp only<;>split<;>omega
theorem Awe.bk {c:Fs} {k:Nat} {d:Dx} {a:H0} {D:Dx×List (List D0)×List Gk×List Int} (h:Awe c l k d a D) (hb:BkI d.reg.bk):BkS (Na d.reg.bk) D.1.reg.bk (Lb D.2.1.flatten)/\(∀q∈D.2.1,q.length<=257/\∀m∈q,Tp m)/\D.2.1.length=d.aud.length:=by
 obtain⟨hb',h1,h2,h3,h4,rfl⟩:=h
 have hq:=Wn c.cfg (Fl d c.now hb') (Afs l (En c.cfg.ags k).toNat (Ek a).toNat) c.now h1 h2 h3 h4
 have hB:=Ul d c.now hb'
 have hR:=Px d.reg c.now hb'.reg
 have e:(Fl d c.now hb').reg.bk=Na d.reg.bk:=by rw[hB.2.1,hR.2.2.2.2]
 have hX:=hq.2.bk (by rw[e];exact (Afh hb).1)
 rw[e] at hX
 exact⟨hX.1,fun q h=>⟨(hq.1.2.2.2.2.2.1 q h).1,hX.2 q h⟩,by rw[hq.1.2.2.2.2.1,hB.2.2.2.2]⟩
theorem By.viN:∀(f:Nat) (n:Int),By (viN f n)
 | 0,n=>.u8 n
 | f+1,n=>by
  rw[Go.Proofs.YtkkimgjinbaemaaGreat.viN]
  split
  ·exact .cons (Rn _) (By.viN f _)
  exact .u8 n
theorem By.vi (n:Int):By (Gj n).1:=by
 unfold Gj
 split
 ·exact .nil
 exact .viN 5 n
theorem By.codes (l:List Int):By (codes l):=by
 induction l with
 | nil=>rw[Aix];exact .nil
 | cons a l ih=>rw[show a::l=[a]++l from rfl,Xj];exact .app (by simp[Go.Proofs.YtkkimgjinbaemaaGreat.codes];exact .vi a) ih
theorem By.msArgs (s:Gt) (l:List Int):By (msArgs s l):=by
 unfold Go.Proofs.YtkkimgjinbaemaaGreat.msArgs
 split
 ·exact .app (.app (.codes _) (.vi _)) (.codes _)
 exact .codes _
theorem Xt.by (h:Xt m) (hB:By m.data):By (Nt m)/\(Nt m).length<=210:=by
 refine⟨?_,?_⟩
 ·rw[Anb h]
  have ht:m.tok=[]:=by
   obtain⟨s,hs⟩:=h.sh
   exact List.length_eq_zero_iff.1 (A0t hs h.ok).tok
  have he:By (Kl m).1:=by
   rw[<- Afu h.ok rfl,ht]
   exact .app (.app .nil (.msArgs _ _)) hB
  unfold Ig
  refine .app (.app ?_ he) ?_
  ·exact .cons (by decide) (.cons (by decide) (.cons (by decide) (.cons (Rn _) (.cons (Rn _) (.u8 _)))))
  exact .cons (Rn _) (.cons (Rn _) (.cons (Rn _) (.u8 _)))
 have hq:=(L4 m h.h1 h.h2 h.h3)
 by_cases h0:(Fo m h.h1 h.h2 h.h3).2=0
 ·rw[Aed h.h1 h.h2 h.h3 h0];exact hq.1
 rw[Aqn h.h1 h.h2 h.h3 h0];exact Ae _
theorem Atn {L:List D0} (h:∀m∈L,Xt m/\By m.data):By (L.map Nt).flatten/\(L.map Nt).flatten.length<=210*L.length:=by
 induction L with
 | nil=>exact⟨.nil,Ae _⟩
 | cons m L ih =>
  have h1:=h m (List.mem_cons_self ..)
  have h2:=h1.1.by h1.2
  have h3:=ih fun x hx=>h x (List.mem_cons_of_mem _ hx)
  rw[List.map_cons,List.flatten_cons,Bo,A6]
  exact⟨h2.1.app h3.1,by omega⟩
theorem Aum {k:Int} (h1:13<=k) (h2:k<=20):∃s,Vf k=some s:=by
 have:k=13\/k=14\/k=15\/k=16\/k=17\/k=18\/k=19\/k=20:=by omega
 rcases this with rfl | rfl | rfl | rfl | rfl | rfl | rfl | rfl<;>exact⟨_,rfl⟩
theorem Ayh (h:(!Ra m)=true) (hr:Tp m):Xt m:=by
 unfold Ra at h
 split at h
 ·rename_i hM
  have hv:=Vd m hM.v.1 hM.v.2.1 hM.v.2.2
  have he:=La m hM.v.1 hM.v.2.1 hM.v.2.2
  rw[hv,he] at h
  refine⟨Aum hr.k1 hr.k2,?_,hM.v.1,hM.v.2.1,hM.v.2.2⟩
  by_cases hk:Np m
  ·exact hk
  rw[<- Am1 hk] at h
  exact absurd h (by decide)
 cases h
variable {i j:Nat} {en:List Gk} {q:List D0}
theorem Asw.srv {S:Fs} (h:Asw S l i j r en q) (hr:∀x∈r,x.length<=257/\∀m∈x,Tp m):(∀m∈q,Xt m/\By m.data)/\q.length<=259/\Lb q<=Lb ((r[j]?).getD []):=by
 rcases h with⟨p,_,_,E,M,_,m2,m3⟩ | ⟨_,rfl⟩
 ·have m3:q=(((r[j]?).getD []++[M])++(if E.aud[j]? = some true then [(⟨18,[],S.now::(en.take 16).flatMap Ahr,[]⟩:D0)] else [])).filter fun m=>!Ra m:=m3
  have hj:((r[j]?).getD []).length<=257/\∀m∈(r[j]?).getD [],Tp m:=by
   cases hj:r[j]? with
   | none=>exact⟨Ae _,fun _ h=>absurd h A8⟩
   | some x=>exact hr x (Ac hj)
  generalize (r[j]?).getD []=y at m3 hj ⊢
  have hM:Tp M:=⟨by rw[m2.1];decide,by rw[m2.1];decide,m2.2.2.2.2⟩
  generalize hT:(if E.aud[j]? = some true then [(⟨18,[],S.now::(en.take 16).flatMap Ahr,[]⟩:D0)] else [])=T at m3
  have hTq:T.length<=1/\Lb T=0/\∀m∈T,Tp m:=by
   rw[<- hT]
   split
   ·exact⟨Aj _,Wx (by simp[Zc]),fun m h=>by rw[An.1 h];exact { k1:=by simp,k2:=by simp,by':=.nil }⟩
   exact⟨Ae _,rfl,fun _ h=>absurd h A8⟩
  have hall:∀m∈y++[M]++T,Tp m:=fun m h=>by
   rcases A0.1 h with h | h
   ·exact Oy hj.2 hM m h
   exact hTq.2.2 m h
  rw[m3]
  refine⟨fun m h=>?_,?_,?_⟩
  ·have h:=Bn.1 h
   exact⟨Ayh h.2 (hall m h.1),(hall m h.1).by'⟩
  ·refine Ak (Az _ _) ?_
   rw[Bo,Bo,List.length_singleton]
   omega
  refine Ak (List.Sublist.countP_le List.filter_sublist) ?_
  show Lb (y++[M]++T)<=_
  rw[Lp,Lp,hTq.2.1,Wx (by simp[Zc,m2.1])]
  exact Aj _
 exact⟨fun _ h=>absurd h A8,Ae _,Ae _⟩
structure Anr (b:List Int) (L:List D0):Prop where
  srv:∀m∈L,Xt m
  eq:b=(L.map Nt).flatten
  len:b.length<=1000000
  by':By b
theorem Asw.said {S:Fs} (h:Asw S l i j r en q) (hr:∀x∈r,x.length<=257/\∀m∈x,Tp m):Anr (q.map Nt).flatten q/\q.length<=259/\Lb q<=Lb ((r[j]?).getD []):=by
 have h:=h.srv hr
 have hf:=Atn h.1
 exact⟨⟨fun m hm=>(h.1 m hm).1,rfl,by omega,hf.1⟩,h.2⟩
end
end Go.Proofs.YtkkimgjinbaemaaGreat
