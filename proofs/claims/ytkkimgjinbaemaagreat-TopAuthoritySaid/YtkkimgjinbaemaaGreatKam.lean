/- The walk. -/
import Derived.Test.YtkkimgjinbaemaaGreatKal
noncomputable section
namespace Go.Proofs.YtkkimgjinbaemaaGreat
open Go.RowKit
set_option linter.unusedVariables false
set_option linter.unusedSimpArgs false
set_option linter.defProp false
set_option linter.unusedSectionVars false
set_option maxRecDepth 100000
set_option maxHeartbeats 4000000
section
def A07 (p:Fs):Prop:=p.items.length<=257/\∀t∈p.items,t.pay.length<=1000
theorem A2m {x:Dy} {n:Int} (hd:Gg x/\1<=x.aud.length/\x.aud.length<=2):Gg (Et x n hd.1.b)/\1<=(Et x n hd.1.b).aud.length/\(Et x n hd.1.b).aud.length<=2:=by
 obtain⟨h1,h2,h3,h4,h5⟩:=Oe x n hd.1.b
 have hr:=Ku x.reg n hd.1.b.reg
 refine⟨⟨h1,?_,?_,?_,?_,?_,?_⟩,by rw[h5];exact hd.2⟩
 ·rw[h2,hr.2.2.2.1];exact hd.1.vehs
 ·rw[h3];exact Ak (Az _ _) hd.1.reqs
 ·rw[h4];exact hd.1.dr
 ·rw[h2,hr.2.1.2];exact hd.1.rq
 ·rw[h2,hr.2.1.2,h3];have:=hd.1.rl;have:=Az (fun r:Ew=>decide (n<=r.unt)) x.reqs;omega
 rw[h3];exact fun r h=>hd.1.rk r (Bn.1 h).1
variable {k:Nat} {a:G2} {x:Int×Int×Int}
theorem Ajv {l:List G2} (h:x∈Zj l k a):x.1=(k:Int)/\0<=x.2.1/\0<=x.2.2:=by
 unfold Zj at h
 obtain⟨n,_,rfl⟩:=A4.1 h
 have:=(Iq l k).1
 exact⟨rfl,by simp,by simp;omega⟩
theorem Aof {l:List G2} {k j:Nat} (h:(Zj l k a)[j]? = some x):x.2.2=Eg l k+j/\x.2.1=j/\x.1=k/\(j:Int)<Ee a:=by
 unfold Zj at h
 rw[Ap] at h
 have hj:j<(List.range (Ee a).toNat).length:=by
  cases hq:(List.range (Ee a).toNat)[j]? with
  | none=>rw[hq] at h;cases h
  | some n=>exact (Ab.1 hq).1
 rw[List.length_range] at hj
 rw[List.getElem?_range (by simpa using hj)] at h
 simp at h
 rw[<- h]
 exact⟨rfl,rfl,rfl,by omega⟩
def P6 (l:List Fs) (b n:Nat):List Fs:=(List.range n).map fun j=>(l[b+j]?).getD ⟨false,[]⟩
theorem Ag8 (l:List Fs) (b n:Nat):(P6 l b n).length=n:=by simp[P6]
theorem Al5 {l y:List Fs} {b n:Nat} {p:Fs} (h:y=P6 l b n) (hp:(l[b+n]?).getD ⟨false,[]⟩=p):y++[p]=P6 l b (n+1):=by rw[h,<- hp];simp[P6,List.range_succ]
def DtR (cfg:E5) (x:Dy) (l:List Fs) (now:Int) (d:Dy×List (List Ea)×List F3×List Int):Prop:=∃h1 h2 h3 h4,I2 cfg x l now h1 h2 h3 h4=d
variable {now:Int}
theorem DtR.of {cfg:E5} {x:Dy} {l l':List Fs} {h1:Gg x} {h2:1<=x.aud.length/\x.aud.length<=2} {h3:l.length<=1000} {h4:∀p∈l,p.items.length<=257/\∀t∈p.items,t.pay.length<=1000} (e:l=l'):DtR cfg x l' now (I2 cfg x l now h1 h2 h3 h4):=by
 subst e
 exact⟨h1,h2,h3,h4,rfl⟩
def BgR (l y:List Dy) (now:Int) (i:Nat):Prop:=∀(k:Nat) (d:Dy),l[k]? = some d->(k<i->∃hb,y[k]? = some (Et d now hb))/\(i<=k->y[k]? = some d)
variable {i:Nat}
theorem BgR.next {l y:List Dy} {x B:Dy} (h:BgR l y now i) (hx:y[i]? = some x) (hB:∃hb,Et x now hb=B):BgR l (y.set i B) now (i+1):=fun k d hd=>by
 by_cases hk:k=i
 ·subst hk
  have h1:=(h k d hd).2 (Aj _)
  rw[hx] at h1
  injection h1 with h1
  subst h1
  obtain⟨hb,rfl⟩:=hB
  exact⟨fun _=>⟨hb,Bg (Ab.1 hx).1⟩,fun h=>by omega⟩
 rw[A9 (Ne.symm hk)]
 exact⟨fun h1=>(h k d hd).1 (by omega),fun h1=>(h k d hd).2 (by omega)⟩
def Ar5 (c:Fm) (l:List Fs) (k:Nat) (d:Dy) (a:G2) (D:Dy×List (List Ea)×List F3×List Int):Prop:=∃hb,DtR c.cfg (Et d c.now hb) (P6 l (Eg c.cfg.ags k).toNat (Ee a).toNat) c.now D
def Ap2 (c:Fm) (l:List Fs) (ds:List Dy) (rp:List (List (List Ea))) (en:List F3) (i:Nat):Prop:=∃ens:List (List F3),en=ens.flatten/\ens.length=i/\∀(k:Nat) (d:Dy) (a:G2),c.desks[k]? = some d->c.cfg.ags[k]? = some a->(k<i->∃x r e s,ds[k]? = some x/\rp[k]? = some r/\ens[k]? = some e/\Ar5 c l k d a (x,r,e,s))/\(i<=k->∃hb,ds[k]? = some (Et d c.now hb))
variable {c:Fm} {l:List Fs} {D:Dy×List (List Ea)×List F3×List Int}
theorem Ar5.len {d:Dy} (h:Ar5 c l k d a D):D.1.aud.length=d.aud.length/\D.2.1.length=d.aud.length:=by
 obtain⟨hb,h1,h2,h3,h4,rfl⟩:=h
 have q:=(Nm c.cfg (Et d c.now hb) (P6 l (Eg c.cfg.ags k).toNat (Ee a).toNat) c.now h1 h2 h3 h4).1
 have b:=(Oe d c.now hb).2.2.2.2
 exact⟨q.2.1.trans (by rw[b]),q.2.2.2.2.1.trans (by rw[b])⟩
variable {ds:List Dy} {rp:List (List (List Ea))} {en:List F3}
theorem Ap2.len (h:Ap2 c l ds rp en c.desks.length) (hc:∀(k:Nat) (d:Dy) (a:G2),c.desks[k]? = some d->c.cfg.ags[k]? = some a->(d.aud.length:Int)=Ee a) (hl:c.desks.length=c.cfg.ags.length) (ha:c.cfg.ags[k]? = some a):(∀d,ds[k]? = some d->(d.aud.length:Int)=Ee a)/\∀r,rp[k]? = some r->(r.length:Int)=Ee a:=by
 obtain⟨ens,_,_,h⟩:=h
 have hk:k<c.desks.length:=by rw[hl];exact (Ab.1 ha).1
 have hd:c.desks[k]? = some c.desks[k]:=Aa hk
 obtain⟨x,r,e,s,h1,h2,_,h4⟩:=(h k _ a hd ha).1 hk
 have hL:=h4.len
 have hD:=hc k _ a hd ha
 refine⟨fun d h=>?_,fun r' h=>?_⟩
 ·rw[h1] at h;injection h with h;rw[<- h,<- hD];exact congrArg Nat.cast hL.1
 rw[h2] at h;injection h with h;rw[<- h,<- hD];exact congrArg Nat.cast hL.2
theorem Ap2.next {x:Dy} {g:G2} (h:Ap2 c l ds rp en i) (hx:ds[i]? = some x) (hg:c.cfg.ags[i]? = some g) (hr:i<rp.length) (hD:DtR c.cfg x (P6 l (Eg c.cfg.ags i).toNat (Ee g).toNat) c.now D):Ap2 c l (ds.set i D.1) (rp.set i D.2.1) (en++D.2.2.1) (i+1):=by
 obtain⟨ens,rfl,hl,h⟩:=h
 refine⟨ens++[D.2.2.1],by simp,by simp[hl],fun k d a hd ha=>?_⟩
 have h':=h k d a hd ha
 by_cases hk:k=i
 ·subst hk
  obtain⟨hb,e⟩:=h'.2 (Aj _)
  rw[hx] at e
  injection e with e
  subst e
  rw[hg] at ha
  injection ha with ha
  subst ha
  exact⟨fun _=>⟨D.1,D.2.1,D.2.2.1,D.2.2.2,Bg (Ab.1 hx).1,Bg hr,by rw[<- hl];simp,hb,hD⟩,fun h=>by omega⟩
 rw[A9 (Ne.symm hk),A9 (Ne.symm hk)]
 refine⟨fun h1=>?_,fun h1=>h'.2 (by omega)⟩
 rw[Au (by omega)]
 exact h'.1 (by omega)
structure A7z (c:Fm) (i:Nat) (y:List Dy×List Ib×List Fx×List Int):Prop where
  f1:y.2.1=c.sigs
  f2:y.2.2.1=c.svcs
  f3:y.2.2.2=c.stuck
  len:y.1.length=c.desks.length
  ok:∀d∈y.1,Gg d/\1<=d.aud.length/\d.aud.length<=2
  bg:BgR c.desks y.1 c.now i
structure A5y (c:Fm) (l:List Fs) (ds:List Dy) (sg:List Ib) (sv:List Fx) (sk:List Int) (rp:List (List (List Ea))) (en:List F3) (rs:List Int) (i:Nat):Prop where
  f1:sg=c.sigs
  f2:sv=c.svcs
  f3:sk=c.stuck
  len:ds.length=c.desks.length
  ok:∀d∈ds,Gg d/\1<=d.aud.length/\d.aud.length<=2
  rl:rp.length=c.desks.length
  ro:∀r∈rp,r.length<=2/\∀q∈r,q.length<=257/\∀m∈q,Hi m
  el:en.length<=600*i
  sl:rs.length<=600*i
  k:Ap2 c l ds rp en i
theorem Aao {α:Type} {p:α->Prop} {l:List α} {x:α} (h:∀y∈l,p y) (hx:p x):∀y∈l.set i x,p y:=fun y hy=>by
 rcases Bi hy with h1 | h1
 ·exact h y h1
 rw[h1];exact hx
theorem Acd (c:Fm) (l:List Fs) (hc:Kf c) (hl:l.length<=1000) (hi:∀p∈l,A07 p):Cx 95 [.row 70 17 false false (Jc c.desks),.row 135 5 false false (P2 c.sigs),.row 138 3 false false (Qr c.svcs),.row 3 1 false false (tI c.stuck)] [.agg [.mJun c.cfg.juns,.mAg c.cfg.ags,.li c.cfg.per,.li c.cfg.cap,.li c.cfg.hold,.li c.cfg.lock,.lb c.ref,.li c.now,.own 0 c.desks.length,.own 1 c.sigs.length,.own 2 c.svcs.length,.own 3 c.stuck.length,.mView c.views],.mInp l] (fun d:List (List (List Ea))×List F3×List Int×List Dy=>[.row 70 17 false false (Jc d.2.2.2),.row 135 5 false false (P2 c.sigs),.row 138 3 false false (Qr c.svcs),.row 3 1 false false (tI c.stuck)]) (fun d=>.tup [.imm false 1 (Xj d.1),.mEnt d.2.1,.mI d.2.2.1]) (fun d=>d.2.2.2.length=c.desks.length/\(∀x∈d.2.2.2,Gg x/\1<=x.aud.length/\x.aud.length<=2)/\d.1.length=c.desks.length/\(∀r∈d.1,r.length<=2/\∀q∈r,q.length<=257/\∀m∈q,Hi m)/\d.2.1.length<=2400/\d.2.2.1.length<=2400/\Ap2 c l d.2.2.2 d.1 d.2.1 c.desks.length):=by
 refine U3 Tryz.func95 ?_
 have hcd:=hc.desks
 have hca:=hc.na
 have hna:c.cfg.ags.length<=1000000:=by omega
 refine Bq<|.seq ?_
 refine Bq<|.block ?_
 refine Bs c.desks.length (fun i1 (y1:(List Dy)×(List Ib)×(List Fx)×(List Int))=>⟨[(2,.ptr 4 0),(3,.ptr 5 0),(21,.li c.desks.length),(22,.li i1)],[.row 70 17 false false (Jc y1.1),.row 135 5 false false (P2 y1.2.1),.row 138 3 false false (Qr y1.2.2.1),.row 3 1 false false (tI y1.2.2.2),.box 37 [.mJun c.cfg.juns,.mAg c.cfg.ags,.li c.cfg.per,.li c.cfg.cap,.li c.cfg.hold,.li c.cfg.lock,.lb c.ref,.li c.now,.own 0 y1.1.length,.own 1 y1.2.1.length,.own 2 y1.2.2.1.length,.own 3 y1.2.2.2.length,.mView c.views],.box 147 [.mInp l]]⟩) (fun i1 y1=>A7z c i1 y1) (c.desks,c.sigs,c.svcs,c.stuck) (wk Dz [0,1,2,3,4,5]) (⟨rfl,rfl,rfl,rfl,hc.desk,fun k d hd=>⟨fun h=>absurd h (Nat.not_lt_zero _),fun _=>hd⟩⟩) fun i1 y1 hi1 hy1=>?_
 refine Bq<|.seq ?_
 refine Br ?_ ?_<;>intro h23
 ·refine Bp<|.seq<|.block<|.R ?_
  obtain⟨dk,hdk⟩:∃e,y1.1[i1]? = some e:=⟨_,Aa (by have:=hy1.len;omega)⟩
  have hdi:=hy1.ok dk (Ac hdk)
  have hyl:=hy1.len
  have hBv:=Alf dk c.now hdi.1.b
  have hBq:=A2m (n:=c.now) hdi
  have hBe:∃hb,Et dk c.now hb=Et dk c.now hdi.1.b:=⟨_,rfl⟩
  generalize Et dk c.now hdi.1.b=B at hBv hBq hBe
  refine Cp hdk (hBv) ?_
  refine Ci ?_
  exact⟨by omega,((y1.1).set i1 B,y1.2.1,y1.2.2.1,y1.2.2.2),⟨hy1.f1,hy1.f2,hy1.f3,by simpa using hyl,Aao hy1.ok hBq,hy1.bg.next hdk hBe⟩,wk (Dx ((i1:Int)+1)) [0,1,2,3,4,5]⟩
 refine Bu ?_
 have hyl:=hy1.len
 have hyl2:y1.1.length=c.cfg.ags.length:=by omega
 refine Bt hyl2 ?_
 refine Bq ?_
 refine Bq<|.seq ?_
 refine Bt hyl2<|.block ?_
 refine Cg 9 248 3 (by decide) (k':=3) (by simp[go_sem]) ?_
 simp[go_sem,-Prod.exists]
 refine Cg 10 3 1 (by decide) (k':=1) (by simp[go_sem]) ?_
 simp[go_sem,-Prod.exists]
 refine Bs c.cfg.ags.length (fun i2 (y2:(List Dy)×(List Ib)×(List Fx)×(List Int)×(List (List (List Ea)))×(List F3)×(List Int))=>⟨[(2,.ptr 4 0),(3,.ptr 5 0),(8,.own 6 y2.2.2.2.2.1.length),(9,.own 7 y2.2.2.2.2.2.1.length),(10,.own 8 y2.2.2.2.2.2.2.length),(49,.li c.cfg.ags.length),(50,.li i2)],[.row 70 17 false false (Jc y2.1),.row 135 5 false false (P2 y2.2.1),.row 138 3 false false (Qr y2.2.2.1),.row 3 1 false false (tI y2.2.2.2.1),.box 37 [.mJun c.cfg.juns,.mAg c.cfg.ags,.li c.cfg.per,.li c.cfg.cap,.li c.cfg.hold,.li c.cfg.lock,.lb c.ref,.li c.now,.own 0 y2.1.length,.own 1 y2.2.1.length,.own 2 y2.2.2.1.length,.own 3 y2.2.2.2.1.length,.mView c.views],.box 147 [.mInp l],.row 152 1 false false (Xj y2.2.2.2.2.1),.row 248 3 false false (Aiw y2.2.2.2.2.2.1),.row 3 1 false false (tI y2.2.2.2.2.2.2)]⟩) (fun i2 y2=>A5y c l y2.1 y2.2.1 y2.2.2.1 y2.2.2.2.1 y2.2.2.2.2.1 y2.2.2.2.2.2.1 y2.2.2.2.2.2.2 i2) (y1.1,y1.2.1,y1.2.2.1,y1.2.2.2,List.replicate y1.1.length [],[],[]) (wk hyl2 [0,1,2,3,4,5,6,7,8]) (⟨hy1.f1,hy1.f2,hy1.f3,hyl,hy1.ok,by simp[hyl2,hcd],fun r hr=>by have:=List.eq_of_mem_replicate hr;subst this;exact⟨by simp,fun q hq=>by cases hq⟩,by simp,by simp,[],rfl,rfl,fun k d a hd _=>⟨fun h=>absurd h (Nat.not_lt_zero _),fun _=>(hy1.bg k d hd).1 (by have:=(Ab.1 hd).1;omega)⟩⟩) fun i2 y2 hi2 hy2=>?_
 refine Bq<|.seq ?_
 refine Br ?_ ?_<;>intro h51
 ·refine Bp<|.seq<|.block<|.R ?_
  refine Bq<|.seq ?_
  have hyk:=hy2.len
  obtain⟨ag,hag⟩:∃e,c.cfg.ags[i2]? = some e:=⟨_,Aa (by omega)⟩
  refine B8 Dz (Us c.cfg i2)<|.block ?_
  refine Cl 9 0 149 2 (by decide) rfl rfl ?_
  simp[go_sem,-Prod.exists]
  refine C6 (s':=⟨[(2,.ptr 4 0),(3,.ptr 5 0),(8,.own 6 y2.2.2.2.2.1.length),(9,.own 7 y2.2.2.2.2.2.1.length),(10,.own 8 y2.2.2.2.2.2.2.length),(11,.li i2),(12,.ptr 9 0),(49,.li c.cfg.ags.length),(50,.li i2),(56,.fn 129 [.iptr false (cfT c.cfg) 0,.iptr false [.li (i2:Int)] 0])],(fun (y3:List Fs)=>[.row 70 17 false false (Jc y2.1),.row 135 5 false false (P2 y2.2.1),.row 138 3 false false (Qr y2.2.2.1),.row 3 1 false false (tI y2.2.2.2.1),.box 37 [.mJun c.cfg.juns,.mAg c.cfg.ags,.li c.cfg.per,.li c.cfg.cap,.li c.cfg.hold,.li c.cfg.lock,.lb c.ref,.li c.now,.own 0 y2.1.length,.own 1 y2.2.1.length,.own 2 y2.2.2.1.length,.own 3 y2.2.2.2.1.length,.mView c.views],.box 147 [.mInp l],.row 152 1 false false (Xj y2.2.2.2.2.1),.row 248 3 false false (Aiw y2.2.2.2.2.2.1),.row 3 1 false false (tI y2.2.2.2.2.2.2),.box 147 [.own 10 y3.length],.row 149 2 false false (Azl y3)]) ([])⟩) ⟨[0,1,2,3,4,5,6,7,8,9,10],Es (by decide) ?_ ?_,F7 rfl⟩ ?_
  ·simp[go_sem]
  ·simp[go_sem]
  refine Dt (Zf c.cfg i2 ag hag hna) (fun (y3:List Fs)=>[.row 70 17 false false (Jc y2.1),.row 135 5 false false (P2 y2.2.1),.row 138 3 false false (Qr y2.2.2.1),.row 3 1 false false (tI y2.2.2.2.1),.box 37 [.mJun c.cfg.juns,.mAg c.cfg.ags,.li c.cfg.per,.li c.cfg.cap,.li c.cfg.hold,.li c.cfg.lock,.lb c.ref,.li c.now,.own 0 y2.1.length,.own 1 y2.2.1.length,.own 2 y2.2.2.1.length,.own 3 y2.2.2.2.1.length,.mView c.views],.box 147 [.mInp l],.row 152 1 false false (Xj y2.2.2.2.2.1),.row 248 3 false false (Aiw y2.2.2.2.2.2.1),.row 3 1 false false (tI y2.2.2.2.2.2.2),.box 147 [.own 10 y3.length],.row 149 2 false false (Azl y3)]) 11 (fun _=>rfl) (by rfl) (fun _=>Tc rfl) (by decide) ?_ (fun j3 y3=>A5y c l y2.1 y2.2.1 y2.2.2.1 y2.2.2.2.1 y2.2.2.2.2.1 y2.2.2.2.2.2.1 y2.2.2.2.2.2.2 i2/\y3=P6 l (Eg c.cfg.ags i2).toNat j3/\∀p∈y3,A07 p) ([]) (⟨hy2,rfl,fun p hp=>by cases hp⟩) (fun j3 vs y3 hj3 hy3=>?_) (fun y3 hy3=>?_)
  ·intro vs hvs
   obtain⟨a,_,rfl⟩:=A4.1 hvs
   simp[go_sem]
  ·
   obtain⟨a3,ha3,rfl⟩:=Ei hj3
   have hse:=Ajv (Ac ha3)
   have hj3l:=(Ab.1 ha3).1
   have hsq:=Yl c.cfg.ags i2 ag
   have hsq2:=He ag
   have hyo:y3.length=j3:=by rw[hy3.2.1];exact Ag8 ..
   have hbj:(Eg c.cfg.ags i2).toNat+j3=a3.2.2.toNat:=by have h1:=(Aof ha3).1;have h2:=(Iq c.cfg.ags i2).1;omega
   refine Ci ?_
   refine⟨rfl,?_⟩
   refine Df<|.R<|.seq ?_
   refine Bq ?_
   refine Br ?_ ?_<;>intro h62
   ·obtain⟨e1,H1⟩:=gx l a3.2.2.toNat
    refine B0 H1 ?_
    refine B0 H1 ?_
    refine⟨(y3++([e1])),?_,⟨[0,1,2,3,4,5,6,7,8,9,10],Es (by decide) ?_ ?_,F7 rfl⟩⟩
    ·exact⟨hy3.1,Al5 hy3.2.1 (by rw[hbj,H1];rfl),Lz hy3.2.2 (hi _ (Ac H1))⟩
    ·simp[go_sem]
    simp[go_sem,H1]
   refine Bp<|.H1 Dz ?_
   refine⟨(y3++([⟨false,[]⟩])),?_,⟨[0,1,2,3,4,5,6,7,8,9,10],Es (by decide) ?_ ?_,F7 rfl⟩⟩
   ·first | exact⟨hy3.1,Al5 hy3.2.1 (by rw[hbj,H1];rfl),Lz hy3.2.2 (hi _ (Ac H1))⟩ | exact⟨hy3.1,Al5 hy3.2.1 (by rw[Ar (by omega)];rfl),Lz hy3.2.2 ⟨Ae _,fun t ht=>by cases ht⟩⟩
   all_goals simp[go_sem]
  -- done
  have hyk3:=hy3.1.len
  have hrl3:=hy3.1.rl
  have hel3:=hy3.1.el
  have hsl3:=hy3.1.sl
  have hsq:=Yl c.cfg.ags i2 ag
  have hsq2:=He ag
  obtain⟨dk,hdk⟩:∃e,y2.1[i2]? = some e:=⟨_,Aa (by omega)⟩
  have hdi:=hy3.1.ok dk (Ac hdk)
  have hye:=hy3.2.1
  have hyo:=congrArg List.length hye
  have hsn:(Zj c.cfg.ags i2 ag).length=(Ee ag).toNat:=by omega
  simp only[A2,hsn] at hye
  simp only[A2,Ag8] at hyo
  have hol:y3.length<=1000:=by omega
  have hTv:=An0 c.cfg dk y3 c.now hdi.1 hdi.2 hol hy3.2.2
  have hTq:=(Nm c.cfg dk y3 c.now hdi.1 hdi.2 hol hy3.2.2).1
  have hTe:DtR c.cfg dk (P6 l (Eg c.cfg.ags i2).toNat (Ee ag).toNat) c.now (I2 c.cfg dk y3 c.now hdi.1 hdi.2 hol hy3.2.2):=.of hye
  generalize I2 c.cfg dk y3 c.now hdi.1 hdi.2 hol hy3.2.2=D at hTv hTq hTe
  have he6:=hTq.2.2.2.2.2.2.1
  have hs6:=hTq.2.2.2.2.2.2.2
  refine B2 Dz 10 ?_
  refine Db hdk (hTv) ?_
  refine Bt hdk ?_
  obtain⟨e2,H2⟩:=gx y2.2.2.2.2.1 i2
  refine Bt H2 ?_
  refine Bt H2 ?_
  refine B0 H2 ?_
  refine B0 H2 ?_
  exact⟨by omega,((y2.1).set i2 D.1,y2.2.1,y2.2.2.1,y2.2.2.2.1,(y2.2.2.2.2.1).set i2 D.2.1,y2.2.2.2.2.2.1++D.2.2.1,y2.2.2.2.2.2.2++D.2.2.2),⟨hy3.1.f1,hy3.1.f2,hy3.1.f3,by simpa using hyk3,Aao hy3.1.ok ⟨hTq.1,by rw[hTq.2.1];exact hdi.2⟩,by simpa using hrl3,Aao hy3.1.ro ⟨by rw[hTq.2.2.2.2.1];exact hdi.2.2,hTq.2.2.2.2.2.1⟩,by simp;omega,by simp;omega,hy3.1.k.next hdk hag (by omega) hTe⟩,wk (Fa (Dx ((i2:Int)+1)) H2) [0,1,2,3,4,5,6,7,8]⟩
 refine Bu<|.R ?_
 refine B2 Dz 6 ?_
 refine B2 Dz 7 ?_
 refine B2 Dz 8 ?_
 refine Bz ⟨(y2.2.2.2.2.1,y2.2.2.2.2.2.1,y2.2.2.2.2.2.2,y2.1),Acv [0,1,2,3] (by simp[go_sem]) (by decide) (F7 rfl) (by simp[go_sem,hy2.f1,hy2.f2,hy2.f3]) ?_,⟨hy2.len,hy2.ok,hy2.rl,hy2.ro,by have:=hy2.el;dsimp only;omega,by have:=hy2.sl;dsimp only;omega,by have h:=hy2.k;rwa[show i2=c.desks.length by omega] at h⟩⟩
 repeat' (first | exact .nil | refine .cons (by simp[go_sem,hy2.f1,hy2.f2,hy2.f3]) ?_)
end
section
theorem Kf.at {c:Fm} (h:Kf c) (n:Int):Kf ⟨c.cfg,c.ref,n,c.desks,c.sigs,c.svcs,c.stuck,c.views⟩:=⟨h.ref,h.jun,h.nj,h.na,h.desks,h.desk,h.sigs,h.sig,h.svcs,h.svc,h.stuck,h.views,h.view,h.vw,h.dl⟩
def Aps (S:Fm) (l:List Fs) (i j:Nat) (r:List (List Ea)) (en:List F3) (q:List Ea):Prop:=(∃p,l[(Eg S.cfg.ags i).toNat+j]? = some p/\p.op=true/\A5i S ⟨i,j,Eg S.cfg.ags i+j⟩ r en q)\/((∀p,l[(Eg S.cfg.ags i).toNat+j]? = some p->p.op=false)/\q=[])
def Amy (S:Fm) (l:List Fs) (rp:List (List (List Ea))) (en:List F3) (i j:Nat) (y:List (List Ea)):Prop:=∀(k n:Nat) (a:G2) (r:List (List Ea)),(k<i\/k=i/\n<j)->S.cfg.ags[k]? = some a->(n:Int)<Ee a->rp[k]? = some r->∃q,y[(Eg S.cfg.ags k).toNat+n]? = some q/\Aps S l k n r en q
variable {l:List Fs} {rp:List (List (List Ea))} {en:List F3} {i j:Nat} {y:List (List Ea)}
theorem Amy.app {S:Fm} {q:List Ea} (h:Amy S l rp en i j y) (hy:(y.length:Int)=Eg S.cfg.ags i+(j:Int)) (hq:∀r,rp[i]? = some r->Aps S l i j r en q):Amy S l rp en i (j+1) (y++[q]):=fun k n a r hk ha hn hr=>by
 by_cases e:k=i/\n=j
 ·obtain⟨rfl,rfl⟩:=e
  have h0:=(Iq S.cfg.ags k).1
  exact⟨q,by rw[show (Eg S.cfg.ags k).toNat+n=y.length by omega];simp,hq r hr⟩
 obtain⟨q',h1,h2⟩:=h k n a r (by omega) ha hn hr
 exact⟨q',by rw[Au (Ab.1 h1).1];exact h1,h2⟩
theorem Amy.up {S:Fm} {g:G2} (h:Amy S l rp en i j y) (hg:S.cfg.ags[i]? = some g) (hj:j=(Ee g).toNat):Amy S l rp en (i+1) 0 y:=fun k n a r hk ha hn hr=>h k n a r (by
 by_cases e:k=i
 ·subst e
  rw[hg] at ha
  injection ha with ha
  subst ha
  omega
 omega) ha hn hr
def A2v (c:Fm) (l:List Fs) (d:Fm×Wm):Prop:=∃rp en,Ap2 ⟨c.cfg,c.ref,d.1.now,c.desks,c.sigs,c.svcs,c.stuck,c.views⟩ l d.1.desks rp en c.desks.length/\rp.length=c.desks.length/\Amy d.1 l rp en d.1.cfg.ags.length 0 d.2.ses
structure A2w (c:Fm) (ds:List Dy) (y:List Dy×List Ib×List Fx×List Int):Prop where
  f0:y.1=ds
  sl:y.2.1.length=c.cfg.juns.length
  sig:∀g∈y.2.1,g.ctl.lights.length<=8/\g.ctl.nxt.length<=2
  f2:y.2.2.1=c.svcs
  f3:y.2.2.2=c.stuck
theorem A2w.city {c:Fm} {ds:List Dy} {y:List Dy×List Ib×List Fx×List Int} (h:A2w c ds y) (hc:Kf c) (h1:ds.length=c.desks.length) (h2:∀x∈ds,Gg x/\1<=x.aud.length/\x.aud.length<=2) (h3:∀(k:Nat) (d:Dy) (a:G2),ds[k]? = some d->c.cfg.ags[k]? = some a->(d.aud.length:Int)=Ee a) (n:Int):Kf ⟨c.cfg,c.ref,n,y.1,y.2.1,y.2.2.1,y.2.2.2,c.views⟩ :=
 ⟨hc.ref,hc.jun,hc.nj,hc.na,by show y.1.length=_;rw[h.f0,h1];exact hc.desks,by show ∀d∈y.1,_;rw[h.f0];exact h2,h.sl,h.sig,by show y.2.2.1.length=_;rw[h.f2];exact hc.svcs,by show ∀g∈y.2.2.1,_;rw[h.f2];exact hc.svc,by show y.2.2.2.length=_;rw[h.f3];exact hc.stuck,hc.views,hc.view,hc.vw,by show ∀(k:Nat) (d:Dy) (a:G2),y.1[k]? = some d->_;rw[h.f0];exact h3⟩
theorem Akv (c:Fm) (l:List Fs) (hc:Kf c) (hl:l.length<=1000) (hi:∀p∈l,A07 p):Ct 65 [c.g,.mInp l] (fun d:Fm×Wm=>.tup [d.1.g,d.2.g]) (fun d=>Kf d.1/\d.1.cfg=c.cfg/\(d.2.ses.length:Int)=Eg c.cfg.ags c.cfg.ags.length/\(∀q∈d.2.ses,q.length<=910/\∀m∈q,Hi m)/\d.2.feed.length<=1/\(∀m∈d.2.feed,Hi m)/\d.1.now=IntKind.i64.wrap ((if 1073741823<c.now then 1073741823 else c.now)+1)/\A2v c l d):=by
 refine Ex Tryz.func65 ?_
 have hcr:=hc.ref
 have hcd:=hc.desks
 have hca:=hc.na
 refine Bq ?_
 refine B8 Dz (Pt c hc.b) ?_
 refine Bq<|.seq ?_
 refine Bq ?_
 refine Cs ?_ ?_<;>intro h23<;>simp[go_sem,hcr] at h23
 refine Bp ?_
 obtain⟨Y1,cY1,qY1⟩:=Acd ⟨c.cfg,c.ref,IntKind.i64.wrap ((if 1073741823<c.now then 1073741823 else c.now)+1),c.desks,c.sigs,c.svcs,c.stuck,c.views⟩ l (hc.at _) hl hi
 have hAv:=cY1
 have hAq:=qY1
 generalize Y1=A at hAv hAq
 have hA1:A.2.2.2.length=c.desks.length:=hAq.1
 refine Cw 7 rfl ?_
 simp[go_sem,-Prod.exists]
 refine Dc Dz [4,5,6,7] hAv<|.seq ?_
 refine Bq<|.block ?_
 refine Bs A.2.2.1.length (fun i1 (y1:(List Dy)×(List Ib)×(List Fx)×(List Int))=>⟨[(2,.ptr 0 0),(3,.ptr 1 0),(4,.ptr 2 0),(5,.ptr 3 0),(6,.ptr 8 0),(7,.ptr 9 0),(34,.mI A.2.2.1),(35,.li A.2.2.1.length),(36,.li i1)],[.box 37 [.mJun c.cfg.juns,.mAg c.cfg.ags,.li c.cfg.per,.li c.cfg.cap,.li c.cfg.hold,.li c.cfg.lock,.lb c.ref,.li (IntKind.i64.wrap ((if 1073741823<c.now then 1073741823 else c.now)+1)),.own 4 y1.1.length,.own 5 y1.2.1.length,.own 6 y1.2.2.1.length,.own 7 y1.2.2.2.length,.mView c.views],.box 147 [.mInp l],.box 37 [.nil 3,.nil 8,.li 0,.li 0,.li 0,.li 0,.lb false,.li 0,.nil 17,.nil 5,.nil 3,.nil 1,.nil 4],.box 154 [.nil 1,.nil 4],.row 70 17 false false (Jc y1.1),.row 135 5 false false (P2 y1.2.1),.row 138 3 false false (Qr y1.2.2.1),.row 3 1 false false (tI y1.2.2.2),.box 197 [.imm false 1 (Xj A.1)],.box 198 [.mEnt A.2.1]]⟩) (fun i1 y1=>A2w c A.2.2.2 y1) (A.2.2.2,c.sigs,c.svcs,c.stuck) (wk hA1 [0,1,2,3,4,5,6,7,8,9]) (⟨rfl,hc.sigs,hc.sig,rfl,rfl⟩) fun i1 y1 hi1 hy1=>?_
 refine Bq<|.seq ?_
 refine Br ?_ ?_<;>intro h37
 ·refine Bp<|.seq<|.block ?_
  obtain⟨e1,H1⟩:=gx A.2.2.1 i1
  refine Bt H1 ?_
  have hsl:=hy1.sl
  refine Bt (Fa H1 hsl) ?_
  refine Br ?_ ?_<;>intro h53
  ·have h53a:0<=e1/\e1<(c.cfg.juns.length:Int):=by simpa using h53
   obtain⟨jk,hjk⟩:∃e,c.cfg.juns[e1.toNat]? = some e:=⟨_,Aa (by omega)⟩
   obtain⟨sk,hsk⟩:∃e,y1.2.1[e1.toNat]? = some e:=⟨_,Aa (by omega)⟩
   have hjb:=hc.jun jk (Ac hjk)
   have hsb:=hy1.sig sk (Ac hsk)
   obtain⟨Y2,cY2,qY2⟩:=Ep (Ace jk sk hjb.1 hjb.2 hsb.1 hsb.2)
   have hGv:=cY2
   have hGq:=qY2
   generalize Y2=G at hGv hGq
   refine Cp (Hq H1 hjk hsk) (hGv) ?_
   refine B0 H1 ?_
   refine⟨by omega,(y1.1,(y1.2.1).set e1.toNat G.1,y1.2.2.1,y1.2.2.2),?_,wk (Hq (Dx ((i1:Int)+1)) H1 hsl) [0,1,2,3,4,5,6,7,8,9]⟩
   first | exact hy1 | exact⟨hy1.f0,by simpa using hsl,Aao hy1.sig hGq,hy1.f2,hy1.f3⟩
  refine Bp<|.H1 H1 ?_
  refine⟨by omega,(y1.1,y1.2.1,y1.2.2.1,y1.2.2.2),?_,wk (Hq (Dx ((i1:Int)+1)) H1 hsl) [0,1,2,3,4,5,6,7,8,9]⟩
  exact hy1
 refine Bu ?_
 have hAl:=fun (k:Nat) (a:G2) (ha:c.cfg.ags[k]? = some a)=>hAq.2.2.2.2.2.2.len hc.dl hc.desks ha
 have hS0:=hy1.city hc hAq.1 hAq.2.1 (fun k d a hd ha=>(hAl k a ha).1 d hd) (IntKind.i64.wrap ((if 1073741823<c.now then 1073741823 else c.now)+1))
 obtain⟨Y3,cY3,qY3⟩:=Aea ⟨c.cfg,c.ref,IntKind.i64.wrap ((if 1073741823<c.now then 1073741823 else c.now)+1),y1.1,y1.2.1,y1.2.2.1,y1.2.2.2,c.views⟩ hS0
 have hSv:=cY3
 have hSq:=qY3
 generalize Y3=S at hSv hSq
 have hS:=hSq.1
 have hSc:S.cfg=c.cfg:=hSq.2.1
 have hSd:=hS.desks
 have hSa:=hS.na
 have hna:S.cfg.ags.length<=1000000:=by omega
 refine B2 Dz 4 ?_
 refine Dc Dz [0,5,6,7] hSv ?_
 refine B2 Dz 5 ?_
 refine B2 Dz 6 ?_
 refine B2 Dz 7 ?_
 refine B2 Dz 10 ?_
 refine Bq<|.seq ?_
 refine Bq<|.block ?_
 refine Cl 11 0 80 1 (by decide) rfl rfl ?_
 simp[go_sem,-Prod.exists]
 refine Bs S.cfg.ags.length (fun i2 (y2:(List (List Ea)))=>⟨[(2,.ptr 0 0),(3,.ptr 1 0),(4,.ptr 2 0),(5,.ptr 3 0),(6,.ptr 4 0),(7,.ptr 5 0),(11,.ptr 6 0),(78,.li S.cfg.ags.length),(79,.li i2)],[.box 37 (S.a false),.box 147 [.mInp l],.box 37 [.nil 3,.nil 8,.li 0,.li 0,.li 0,.li 0,.lb false,.li 0,.nil 17,.nil 5,.nil 3,.nil 1,.nil 4],.box 154 [.nil 1,.nil 4],.box 197 [.imm false 1 (Xj A.1)],.box 198 [.mEnt A.2.1],.box 154 [.own 7 y2.length,.nil 4],.row 80 1 false false (S3 y2)]⟩) (fun i2 y2=>(y2.length:Int)=Eg S.cfg.ags i2/\(∀q∈y2,q.length<=910/\∀m∈q,Hi m)/\Amy S l A.1 A.2.1 i2 0 y2) ([]) (wk Dz [0,1,2,3,8,9,11,12]) (⟨rfl,(fun q hq=>by cases hq),fun k n a r hk=>absurd hk (by omega)⟩) fun i2 y2 hi2 hy2=>?_
 refine Bq<|.seq ?_
 refine Br ?_ ?_<;>intro h80
 ·refine Bp<|.seq<|.block<|.R ?_
  obtain⟨ag,hag⟩:∃e,S.cfg.ags[i2]? = some e:=⟨_,Aa (by omega)⟩
  have hid:(i2:Int)<(S.desks.length:Int):=by omega
  have hab:=S4 hag
  have hal:=Yl S.cfg.ags i2 ag
  have hcn:=He ag
  have hsb:=Iq S.cfg.ags i2
  refine B8 Dz (Us S.cfg i2)<|.block ?_
  refine C6 (s':=⟨[(2,.ptr 0 0),(3,.ptr 1 0),(4,.ptr 2 0),(5,.ptr 3 0),(6,.ptr 4 0),(7,.ptr 5 0),(11,.ptr 6 0),(12,.ptr 8 0),(78,.li S.cfg.ags.length),(79,.li i2),(85,.fn 129 [.iptr false (cfT S.cfg) 0,.iptr false [.li (i2:Int)] 0])],(fun (y3:(List (List Ea)))=>[.box 37 (S.a false),.box 147 [.mInp l],.box 37 [.nil 3,.nil 8,.li 0,.li 0,.li 0,.li 0,.lb false,.li 0,.nil 17,.nil 5,.nil 3,.nil 1,.nil 4],.box 154 [.nil 1,.nil 4],.box 197 [.imm false 1 (Xj A.1)],.box 198 [.mEnt A.2.1],.box 154 [.own 7 y3.length,.nil 4],.row 80 1 false false (S3 y3),.box 3 [.li i2]]) (y2)⟩) (wQ [0,1,2,3,4,5,6,7,8] ?_ ?_) ?_
  ·simp[go_sem]
  ·simp[go_sem]
  refine Dt (Zf S.cfg i2 ag hag hna) (fun (y3:(List (List Ea)))=>[.box 37 (S.a false),.box 147 [.mInp l],.box 37 [.nil 3,.nil 8,.li 0,.li 0,.li 0,.li 0,.lb false,.li 0,.nil 17,.nil 5,.nil 3,.nil 1,.nil 4],.box 154 [.nil 1,.nil 4],.box 197 [.imm false 1 (Xj A.1)],.box 198 [.mEnt A.2.1],.box 154 [.own 7 y3.length,.nil 4],.row 80 1 false false (S3 y3),.box 3 [.li i2]]) 9 (fun _=>rfl) (by rfl) (fun _=>Tc rfl) (by decide) ?_ (fun j3 y3=>(y3.length:Int)=Eg S.cfg.ags i2+(j3:Int)/\(∀q∈y3,q.length<=910/\∀m∈q,Hi m)/\Amy S l A.1 A.2.1 i2 j3 y3) (y2) (⟨by simpa using hy2.1,hy2.2.1,hy2.2.2⟩) (fun j3 vs y3 hj3 hy3=>?_) (fun y3 hy3=>?_)
  ·intro vs hvs
   obtain⟨a,_,rfl⟩:=A4.1 hvs
   simp[go_sem]
  ·
   obtain⟨a3,ha3,rfl⟩:=Ei hj3
   have hse:=Ajv (Ac ha3)
   have hj3l:=(Ab.1 ha3).1
   have hatx:=Aof ha3
   have hat:=hatx.1
   have hix:a3.2.2.toNat=(Eg S.cfg.ags i2).toNat+j3:=by have:=hsb.1;omega
   have hy31:=hy3.1
   have hal3:a3.2.2.toNat=y3.length:=by omega
   refine Ci ?_
   refine⟨rfl,?_⟩
   refine Df<|.R<|.seq ?_
   by_cases hc20:a3.2.2<l.length
   ·obtain⟨e2,H2⟩:=gx l a3.2.2.toNat
    refine Bt (Hq hc20 H2 hid) ?_
    refine Br ?_ ?_<;>intro h106
    ·have hrl:A.1.length=c.desks.length:=hAq.2.2.1
     have hcf:S.cfg.ags.length=c.cfg.ags.length:=by rw[hSc]
     obtain⟨rk,hrk0⟩:∃e,A.1[i2]? = some e:=⟨_,Aa (by omega)⟩
     have hrq:=hAq.2.2.2.1 rk (Ac hrk0)
     have hen:=hAq.2.2.2.2.1
     have hrk:∀q∈rk,q.length<=900/\∀m∈q,Hi m:=fun q hq=>⟨by have:=(hrq.2 q hq).1;omega,(hrq.2 q hq).2⟩
     have hr1:=hrq.1
     rw[hSc] at hag
     have hrl2:=(hAl i2 ag hag).2 rk hrk0
     have hn2:∀d,S.desks[(Ln.ag ⟨a3.1,a3.2.1,a3.2.2⟩).toNat]? = some d->a3.2.1<d.aud.length:=fun d hd=>by rw[hSq.2.2.2] at hd;rw[hy1.f0] at hd;rw[show (Ln.ag ⟨a3.1,a3.2.1,a3.2.2⟩).toNat=i2 by have:=hatx.2.2.1;dsimp only;omega] at hd;have h5:=(hAl i2 ag hag).1 d hd;omega
     obtain⟨Y4,cY4,qY4⟩:=Ep (Aku S ⟨a3.1,a3.2.1,a3.2.2⟩ rk A.2.1 hS (by have:=hse.1;dsimp only;omega) (by have:=hse.1;dsimp only;omega) hse.2.1 hrk (by omega) (by omega) (by dsimp only;omega) hn2)
     have hTv:=cY4
     have hTq:=qY4
     generalize Y4=T at hTv hTq
     have hTe:=hTq.2.2
     rw[hat,hatx.2.1,hatx.2.2.1] at hTe
     refine Cp (Hq hc20 H2 hrk0) (hTv) ?_
     refine B0 (Fa hc20 H2) ?_
     refine⟨(y3++([T])),?_,⟨[0,1,2,3,4,5,6,7,8],Es (by decide) ?_ ?_,F7 rfl⟩⟩
     ·exact⟨by simp;have:=hy3.1;omega,Lz hy3.2.1 ⟨hTq.1,hTq.2.1⟩,hy3.2.2.app hy31 fun r hr=>by rw[hrk0] at hr;injection hr with hr;subst hr;exact .inl ⟨_,by rw[<- hix];exact H2,h106,hTe⟩⟩
     ·simp[go_sem]
     simp[go_sem,hc20,H2]
    refine Bp<|.H1 (Fa hc20 H2) ?_
    refine⟨(y3++([[]])),?_,⟨[0,1,2,3,4,5,6,7,8],Es (by decide) ?_ ?_,F7 rfl⟩⟩
    ·first | exact⟨by simp;have:=hy3.1;omega,Lz hy3.2.1 ⟨hTq.1,hTq.2.1⟩,hy3.2.2.app hy31 fun r hr=>by rw[hrk0] at hr;injection hr with hr;subst hr;exact .inl ⟨_,by rw[<- hix];exact H2,h106,hTe⟩⟩ | exact⟨by simp;have:=hy3.1;omega,Lz hy3.2.1 ⟨Ae _,fun m hm=>by cases hm⟩,hy3.2.2.app hy31 fun r hr=>.inr ⟨fun p hp=>by rw[<- hix,H2] at hp;injection hp with hp;rw[<- hp];simpa using h106,rfl⟩⟩
    ·simp[go_sem]
    simp[go_sem,hc20,H2]
   refine Bt (Fa hc20 hid) ?_
   refine Cs ?_ ?_<;>intro h106<;>simp[go_sem] at h106
   refine Bp<|.H1 hc20 ?_
   refine⟨(y3++([[]])),?_,⟨[0,1,2,3,4,5,6,7,8],Es (by decide) ?_ ?_,F7 rfl⟩⟩
   ·first | exact⟨by simp;have:=hy3.1;omega,Lz hy3.2.1 ⟨hTq.1,hTq.2.1⟩,hy3.2.2.app hy31 fun r hr=>by rw[hrk0] at hr;injection hr with hr;subst hr;exact .inl ⟨_,by rw[<- hix];exact H2,h106,hTe⟩⟩ | exact⟨by simp;have:=hy3.1;omega,Lz hy3.2.1 ⟨Ae _,fun m hm=>by cases hm⟩,hy3.2.2.app hy31 fun r hr=>.inr ⟨fun p hp=>by rw[<- hix,H2] at hp;injection hp with hp;rw[<- hp];simpa using h106,rfl⟩⟩ | exact⟨by simp;have:=hy3.1;omega,Lz hy3.2.1 ⟨Ae _,fun m hm=>by cases hm⟩,hy3.2.2.app hy31 fun r hr=>.inr ⟨fun p hp=>absurd (Ab.1 hp).1 (by omega),rfl⟩⟩
   ·simp[go_sem]
   simp[go_sem,hc20]
  -- done
  refine Ci ?_
  exact⟨by omega,(y3),⟨by have h3:=hy3.1;simp only[A2] at h3;rw[hab];omega,hy3.2.1,hy3.2.2.up hag (by simp only[A2];omega)⟩,wk (Dx ((i2:Int)+1)) [0,1,2,3,4,5,6,7]⟩
 refine Bu ?_
 have hv4:S.views.length<=4:=by have:=hS.views;have:=hS.nj;omega
 obtain⟨Y5,cY5,qY5⟩:=Ep (Aib S.now S.views hv4 hS.view)
 have hFv:=cY5
 have hFq:=qY5
 have hFb:=R5 S.views hv4 hS.view
 have hFs:Hi Y5:=Afq (by rw[hFq.2.2.1];simp) (by rw[hFq.2.1];simp) (by rw[hFq.2.2.2];omega)
 generalize Y5=F at hFv hFq hFs
 obtain⟨R,hR,_⟩:=Tm [F] (by simp) (fun m hm=>by rw[An.1 hm];exact hFs)
 generalize hV:List.filter (fun t=>!Ov t) [F]=V at hR
 refine B3 (fun K kk=>by simp[go_sem];refine .l (hFv) ?_;simp[go_sem];refine .o [8] (hR) ?_;simp[go_sem];exact kk) ?_
 refine VX.D ?_
 refine B2 Dz 7 ?_
 exact .ret (fin Dz (S,⟨y2,V⟩) ⟨hS,hSc,by have h2:=hy2.1;have he:i2=S.cfg.ags.length:=(by omega);rw[he] at h2;rw[<- hSc];exact h2,hy2.2.1,by rw[<- hV];exact Ak (Az _ _) (by simp),fun m hm=>by rw[<- hV] at hm;rw[An.1 (Bn.1 hm).1];exact hFs,hSq.2.2.1,A.1,A.2.1,by dsimp only;rw[hSq.2.2.1,hSq.2.2.2];have h:=hAq.2.2.2.2.2.2;rw[hy1.f0];exact h,hAq.2.2.1,by have h:=hy2.2.2;rwa[show i2=S.cfg.ags.length by omega] at h⟩)
end
theorem Am9 (s:Nd) (b:List Int) (h1:s.buf.length<=256) (h2:b.length<=1000000):Ct 62 [s.g,.mY b] (fun d:Nd×Bool=>.tup [d.1.g,.lb d.2]) (fun d=>d.1.buf.length<=256/\(By s.buf->By b->By d.1.buf)/\d.1=⟨(s.buf++b).take 256,s.gar⟩/\(d.2=false->256<=(s.buf++b).length)):=by
 refine Ex Tryz.func62 ?_
 have ht:List.take b.length (tY b)=tY b:=by rw[Bf (by simp)]
 have hnn:¬(256 - (s.buf.length:Int)<0):=by omega
 refine Bt (Fa hnn ht) ?_
 by_cases hc1:256 - (s.buf.length:Int)<b.length
 ·have hw1:=Dx (256 - s.buf.length:Int)
  refine Bt (Tf hnn ht hc1 hw1) ?_
  have hw2:=Dx (s.buf.length+(256 - s.buf.length):Int)
  refine Bt (X9 hnn ht hc1 hw1 hw2) ?_
  refine Bt (X9 hnn ht hc1 hw1 hw2) ?_
  refine Bt (X9 hnn ht hc1 hw1 hw2) ?_
  refine Bt (X9 hnn ht hc1 hw1 hw2) ?_
  refine B2 Dz 2 ?_
  exact .ret (fin (X9 hnn ht hc1 hw1 hw2) (⟨((List.replicate 0 0)++s.buf)++(b.take (256 - s.buf.length)),s.gar⟩,(((256 - s.buf.length):Int) == b.length)) ⟨by simp;omega,fun hs hb x hx=>by simp only[A0,List.replicate_zero,A8,false_or] at hx;rcases hx with h | h;exact hs x h;exact hb x (Aq h),by simp[List.take_append,Bf h1],fun _=>by simp;omega⟩)
 have hw3:=Dx (256 - s.buf.length:Int)
 refine Bt (Tf hnn ht hc1 hw3) ?_
 have hw4:=Dx (s.buf.length+b.length:Int)
 refine Bt (X9 hnn ht hc1 hw3 hw4) ?_
 refine Bt (X9 hnn ht hc1 hw3 hw4) ?_
 refine Bt (X9 hnn ht hc1 hw3 hw4) ?_
 refine Bt (X9 hnn ht hc1 hw3 hw4) ?_
 refine B2 Dz 2 ?_
 exact .ret (fin (X9 hnn ht hc1 hw3 hw4) (⟨((List.replicate 0 0)++s.buf)++(b.take b.length),s.gar⟩,((b.length:Int) == b.length)) ⟨by simp;omega,fun hs hb x hx=>by simp only[A0,List.replicate_zero,A8,false_or] at hx;rcases hx with h | h;exact hs x h;exact hb x (Aq h),by simp;rw[Bf (by simp;omega)],fun h=>(by simp at h)⟩)
theorem Wz (s:Er):Ct 40 [s.g] (fun d:Er=>d.g) (fun d=>d.st.buf.length<=256/\By d.st.buf/\d=⟨false,false,⟨[],false⟩⟩):=by
 refine Ex Tryz.func40 ?_
 iterate 2 refine Bq ?_
 exact .ret (fin Dz ⟨false,false,⟨[],false⟩⟩ ⟨Ae _,(fun x hx=>by cases hx),rfl⟩)
def Lh (s:Er):Er:=(Ep (Wz s)).choose
theorem Any (s:Er):PP 40 [] [s.g] [] (.agg ((Lh s).a false)):=(Ep (Wz s)).choose_spec.1
theorem Xx (s:Er):(Lh s).st.buf.length<=256/\By (Lh s).st.buf/\(Lh s)=⟨false,false,⟨[],false⟩⟩:=(Ep (Wz s)).choose_spec.2
section
variable (s:Er) (h1:s.st.buf.length<=256)
include h1
theorem Wy:Ct 39 [s.g] (fun d:Er=>d.g) (fun d=>d.st.buf.length<=256/\(By s.st.buf->By d.st.buf)/\d.op=true/\(s.op=false->d=⟨true,false,⟨[],false⟩⟩)/\(s.op=true->d=s)):=by
 refine Ex Tryz.func39 ?_
 have h1M:s.st.buf.length<=1000000:=by omega
 refine Bq<|.seq ?_
 refine Bq ?_
 refine Br ?_ ?_<;>intro h4
 ·refine B8 Dz (Lr s h1M) ?_
  exact .ret (fin Dz s ⟨h1,(fun h=>h),h4,(fun h=>by rw[h4] at h;cases h),fun _=>rfl⟩)
 refine Bp<|.R ?_
 exact .ret (fin Dz ⟨true,false,⟨[],false⟩⟩ ⟨Ae _,(fun _ x hx=>by cases hx),rfl,(fun _=>rfl),fun h=>by rw[h4] at h;cases h⟩)
def I1:Er:=(Ep (Wy s h1)).choose
theorem Anx:PP 39 [] [s.g] [] (.agg ((I1 s h1).a false)):=(Ep (Wy s h1)).choose_spec.1
theorem S8:(I1 s h1).st.buf.length<=256/\(By s.st.buf->By (I1 s h1).st.buf)/\(I1 s h1).op=true/\(s.op=false->(I1 s h1)=⟨true,false,⟨[],false⟩⟩)/\(s.op=true->(I1 s h1)=s):=(Ep (Wy s h1)).choose_spec.2
end
section
variable (s:Er) (b:List Int) (h1:s.st.buf.length<=256) (h2:b.length<=1000000)
include h1 h2
theorem Wx:Ct 41 [s.g,.mY b] (fun d:Er=>d.g) (fun d=>d.st.buf.length<=256/\(By s.st.buf->By b->By d.st.buf)/\(s.op=false->d=s)/\(s.op=true->∃f,d=⟨true,f,⟨(s.st.buf++b).take 256,s.st.gar⟩⟩/\(f=true->s.dr=true\/256<=(s.st.buf++b).length))):=by
 refine Ex Tryz.func41 ?_
 obtain⟨Y1,cY1,qY1⟩:=Ep (Am9 s.st b h1 h2)
 have hq:=qY1
 have hv:=cY1
 generalize Y1=G at hq hv
 refine Bq<|.seq ?_
 refine Bq ?_
 refine Br ?_ ?_<;>intro h9
 ·refine B8 Dz (Lr s (by omega)) ?_
  exact .ret (fin Dz s ⟨h1,(fun h _=>h),(fun _=>rfl),fun h=>by rw[h9] at h;cases h⟩)
 refine Bp<|.L Dz (hv) ?_
 refine Bq<|.seq ?_
 refine Bq ?_
 refine Br ?_ ?_<;>intro h22
 ·refine Ci ?_
  refine Bq ?_
  exact .ret (fin Dz ⟨s.op,true,G.1⟩ ⟨hq.1,hq.2.1,(fun h=>by rw[h9] at h;cases h),fun _=>⟨true,by rw[h9,hq.2.2.1],fun _=>.inr (hq.2.2.2 h22)⟩⟩)
 refine Bp<|.R ?_
 exact .ret (fin Dz ⟨s.op,s.dr,G.1⟩ ⟨hq.1,hq.2.1,(fun h=>by rw[h9] at h;cases h),fun _=>⟨s.dr,by rw[h9,hq.2.2.1],fun h=>.inl h⟩⟩)
def Je:Er:=(Ep (Wx s b h1 h2)).choose
theorem Anw:PP 41 [] [s.g,.mY b] [] (.agg ((Je s b h1 h2).a false)):=(Ep (Wx s b h1 h2)).choose_spec.1
theorem Xw:(Je s b h1 h2).st.buf.length<=256/\(By s.st.buf->By b->By (Je s b h1 h2).st.buf)/\(s.op=false->(Je s b h1 h2)=s)/\(s.op=true->∃f,(Je s b h1 h2)=⟨true,f,⟨(s.st.buf++b).take 256,s.st.gar⟩⟩/\(f=true->s.dr=true\/256<=(s.st.buf++b).length)):=(Ep (Wx s b h1 h2)).choose_spec.2
end
def Ar0 (s:Er):Prop:=s.st.buf.length<=256/\By s.st.buf
structure Qa (b:Gt):Prop where
  city:Kf b.city
  n:b.sess.length<=8
  ses:∀s∈b.sess,Ar0 s
theorem Qa.b {b:Gt} (h:Qa b):A5w b:=⟨h.city.b,Ak h.n (by decide),fun t ht=>Ak (h.ses t ht).1 (by decide)⟩
theorem Ane (c:E5) (a:Int) (hl:c.ags.length<=4) (hA:∀x∈c.ags,1<=x.se/\x.se<=2) (ha:a=c.ags.length):Ct 30 [c.g,.li a] (fun d:Int=>.li d) (fun d=>0<=d/\d<=8/\d=(c.ags.map G2.se).sum):=by
 refine Ex Tryz.func30 ?_
 refine Bq ?_
 refine Bq<|.seq ?_
 refine Bq<|.block ?_
 refine Bs c.ags.length (fun i1 (y1:Int)=>⟨[(1,.li a),(5,.li y1),(9,.mAg c.ags),(10,.li c.ags.length),(11,.li i1)],[]⟩) (fun i1 y1=>(i1:Int)<=y1/\y1<=2*i1/\y1=((c.ags.take i1).map G2.se).sum) (0) (wk Dz []) (⟨by simp,by simp,rfl⟩) fun i1 y1 hi1 hy1=>?_
 refine Bq<|.seq ?_
 refine Br ?_ ?_<;>intro h12
 ·refine Bp<|.seq<|.block ?_
  obtain⟨e1,H1⟩:=gx c.ags i1
  refine Bt H1<|.seq ?_
  have hA1:=hA e1 (Ac H1)
  refine Bt H1 ?_
  refine Cs ?_ ?_<;>intro h18<;>simp[go_sem] at h18
  ·exfalso;omega
  refine Bp ?_
  have hw2:=Dx (y1+e1.se:Int)
  refine B0 (Fa H1 hw2) ?_
  refine B0 (Fa H1 hw2) ?_
  exact⟨by omega,((y1+e1.se)),⟨by omega,by omega,by rw[List.take_add_one,H1];simp only[List.map_append,List.sum_append,Option.toList_some,List.map_cons,List.map_nil,List.sum_cons,List.sum_nil];omega⟩,wk (Hq (Dx ((i1:Int)+1)) H1 hw2) []⟩
 refine Bu<|.R ?_
 exact .ret (fin Dz y1 ⟨by omega,by omega,by have h:=hy1.2.2;rwa[Bf (by omega)] at h⟩)
section
variable (c:E5) (hb:Adg c) (hp:L7 c=true) (hJ:∀j∈c.juns,Ou j/\j.phs.length<=8) (hA:∀a∈c.ags,a.sec.length<=1000000/\a.lims.length<=1000000/\a.rq<=3) (hl1:c.juns.length<=4) (hl2:c.ags.length<=4) (hS:∀x∈c.ags,1<=x.se/\x.se<=2)
include hb hp hJ hA hl1 hl2 hS
theorem Vj:Ct 12 [c.g] (fun d:Gt=>d.g) (fun d=>Qa d/\d.city.cfg=c/\d.city.now=0/\(d.sess.length:Int)=(c.ags.map G2.se).sum/\(∀s∈d.sess,s=⟨false,false,⟨[],false⟩⟩)/\∀(k:Nat) (a:G2),c.ags[k]? = some a->∃h1 h2,d.city.desks[k]? = some (Fz k a h1 h2)):=by
 refine Ex Tryz.func12 ?_
 obtain⟨Y1,cY1,qY1⟩:=Ep (Anc c hb hp hJ hA hl1 hl2 hS)
 have hNv:=cY1
 have hNq:=qY1
 generalize Y1=N at hNv hNq
 have hNr:=hNq.1.ref
 obtain⟨Y2,cY2,qY2⟩:=Ep (Ane c c.ags.length hl2 hS rfl)
 have hBv:=cY2
 have hBq:=qY2
 generalize Y2=B at hBv hBq
 refine Bq ?_
 refine B8 Dz (hNv)<|.seq ?_
 refine Bq ?_
 refine Cs ?_ ?_<;>intro h10<;>simp[go_sem,hNr] at h10
 refine Dj Dz (hBv) ?_
 refine Bq ?_
 refine B2 Dz 3 ?_
 exact .ret (fin Dz ⟨N,List.replicate B.toNat ⟨false,false,⟨[],false⟩⟩⟩ ⟨⟨hNq.1,by simp;omega,fun s hs=>by have:=List.eq_of_mem_replicate hs;subst this;exact⟨Ae _,fun x hx=>by cases hx⟩⟩,hNq.2.1,hNq.2.2.1,by simp;omega,(fun s hs=>List.eq_of_mem_replicate hs),hNq.2.2.2⟩)
def Gf:Gt:=(Ep (Vj c hb hp hJ hA hl1 hl2 hS)).choose
theorem Aa4:PP 12 [] [c.g] [] (.agg ((Gf c hb hp hJ hA hl1 hl2 hS).a false)):=(Ep (Vj c hb hp hJ hA hl1 hl2 hS)).choose_spec.1
theorem Q8:Qa (Gf c hb hp hJ hA hl1 hl2 hS)/\(Gf c hb hp hJ hA hl1 hl2 hS).city.cfg=c/\(Gf c hb hp hJ hA hl1 hl2 hS).city.now=0/\((Gf c hb hp hJ hA hl1 hl2 hS).sess.length:Int)=(c.ags.map G2.se).sum/\(∀s∈(Gf c hb hp hJ hA hl1 hl2 hS).sess,s=⟨false,false,⟨[],false⟩⟩)/\∀(k:Nat) (a:G2),c.ags[k]? = some a->∃h1 h2,(Gf c hb hp hJ hA hl1 hl2 hS).city.desks[k]? = some (Fz k a h1 h2):=(Ep (Vj c hb hp hJ hA hl1 hl2 hS)).choose_spec.2
end
def Ayv (b x:List Er) (l:List Fs) (i:Nat):Prop:=∀(k:Nat) (s:Er),k<i->b[k]? = some s->∃y p,x[k]? = some y/\l[k]? = some p/\Ayu s (y,p)
theorem Ayv.next {b x:List Er} {l:List Fs} {i:Nat} {s:Er} {K:Er×Fs} (h:Ayv b x l i) (hs:b[i]? = some s) (hK:Ayu s K) (hx:i<x.length) (hl:i<l.length):Ayv b (x.set i K.1) (l.set i K.2) (i+1):=fun k s' hk hs'=>by
 by_cases e:k=i
 ·subst e
  rw[hs] at hs'
  injection hs' with hs'
  subst hs'
  exact⟨K.1,K.2,Bg hx,Bg hl,hK⟩
 rw[A9 (Ne.symm e),A9 (Ne.symm e)]
 exact h k s' (by omega) hs'
theorem Az7 {l:List (List Int)} {s:List (List Ea)} {i:Nat} {F:List Int} {e:List Ea} (h:∀(k:Nat) (q:List Ea) (o:List Int),k<i->s[k]? = some q->l[k]? = some o->o=(q.map Q9).flatten) (he:s[i]? = some e) (hF:F=(e.map Q9).flatten) (hi:i<l.length):∀(k:Nat) (q:List Ea) (o:List Int),k<i+1->s[k]? = some q->(l.set i F)[k]? = some o->o=(q.map Q9).flatten:=fun k q o hk hs hp=>by
 by_cases e':k=i
 ·subst e'
  rw[Bg hi] at hp
  rw[he] at hs
  injection hp with hp
  injection hs with hs
  rw[<- hp,<- hs]
  exact hF
 rw[A9 (fun e2=>e' e2.symm)] at hp
 exact h k q o (by omega) hs hp
def A5h (b:Gt) (d:Gt×P9):Prop:=∃l s,l.length=b.sess.length/\Ayv b.sess d.1.sess l b.sess.length/\A2v b.city l (d.1.city,s)/\s.ses.length=d.2.ses.length/\∀(k:Nat) (q:List Ea) (o:List Int),s.ses[k]? = some q->d.2.ses[k]? = some o->o=(q.map Q9).flatten
theorem Aed (b:Gt) (hb:Qa b):Cx 44 [.row 100 4 false false (Adt b.sess)] [.agg [.mJun b.city.cfg.juns,.mAg b.city.cfg.ags,.li b.city.cfg.per,.li b.city.cfg.cap,.li b.city.cfg.hold,.li b.city.cfg.lock,.lb b.city.ref,.li b.city.now,.mDesk b.city.desks,.mSig b.city.sigs,.mSvc b.city.svcs,.mI b.city.stuck,.mView b.city.views,.own 0 b.sess.length]] (fun d:Gt×P9=>[.row 100 4 false true (Adt d.1.sess)]) (fun d=>.tup [d.1.g,d.2.g]) (fun d=>Qa d.1/\d.1.city.cfg=b.city.cfg/\d.1.sess.length=b.sess.length/\(d.2.ses.length:Int)=Eg b.city.cfg.ags b.city.cfg.ags.length/\d.1.city.now=IntKind.i64.wrap ((if 1073741823<b.city.now then 1073741823 else b.city.now)+1)/\A5h b d):=by
 refine U3 Tryz.func44 ?_
 have hbn:=hb.n
 refine Bq ?_
 refine Bt Dz<|.seq ?_
 refine Bq<|.block ?_
 refine Bs b.sess.length (fun i1 (y1:(List Er)×(List Fs))=>⟨[(1,.ptr 1 0),(2,.ptr 2 0),(3,.ptr 3 0),(4,.own 4 y1.2.length),(17,.li b.sess.length),(18,.li i1)],[.row 100 4 false false (Adt y1.1),.box 40 [.mJun b.city.cfg.juns,.mAg b.city.cfg.ags,.li b.city.cfg.per,.li b.city.cfg.cap,.li b.city.cfg.hold,.li b.city.cfg.lock,.lb b.city.ref,.li b.city.now,.mDesk b.city.desks,.mSig b.city.sigs,.mSvc b.city.svcs,.mI b.city.stuck,.mView b.city.views,.own 0 y1.1.length],.box 40 [.nil 3,.nil 8,.li 0,.li 0,.li 0,.li 0,.lb false,.li 0,.nil 17,.nil 5,.nil 3,.nil 1,.nil 4,.nil 4],.box 49 [.nil 1,.nil 1],.row 149 2 false false (Azl y1.2)]⟩) (fun i1 y1=>y1.1.length=b.sess.length/\(∀s∈y1.1,Ar0 s)/\y1.2.length=b.sess.length/\(∀p∈y1.2,A07 p)/\(∀k,i1<=k->y1.1[k]? = b.sess[k]?)/\Ayv b.sess y1.1 y1.2 i1) (b.sess,List.replicate b.sess.length ⟨false,[]⟩) (wk Dz [0,1,2,3,4]) (⟨rfl,hb.ses,by simp,fun p hp=>by have:=List.eq_of_mem_replicate hp;subst this;exact⟨Ae _,fun t ht=>by cases ht⟩,(fun _ _=>rfl),fun k s hk=>absurd hk (Nat.not_lt_zero _)⟩) fun i1 y1 hi1 hy1=>?_
 refine Bq<|.seq ?_
 refine Br ?_ ?_<;>intro h19
 ·refine Bp<|.seq<|.block<|.R ?_
  have hl1:=hy1.1
  have hl2:=hy1.2.2.1
  obtain⟨sk,hsk⟩:∃e,y1.1[i1]? = some e:=⟨_,Aa (by omega)⟩
  have hsq:=hy1.2.1 sk (Ac hsk)
  obtain⟨Y1,cY1,qY1⟩:=Ep (Aky sk hsq.1 hsq.2)
  have hKv:=cY1
  have hKq:=qY1
  generalize Y1=K at hKv hKq
  obtain⟨e1,H1⟩:=gx y1.2 i1
  refine Cp (Fa H1 hsk) (hKv) ?_
  refine B0 H1 ?_
  exact⟨by omega,((y1.1).set i1 K.1,(y1.2).set i1 K.2),⟨by simpa using hl1,Aao hy1.2.1 ⟨hKq.2.1,hKq.1⟩,by simpa using hl2,Aao hy1.2.2.2.1 ⟨hKq.2.2.1.1,fun t ht=>Ak (hKq.2.2.2.1 t ht) (by decide)⟩,(fun k hk=>by rw[A9 (by omega)];exact hy1.2.2.2.2.1 k (by omega)),hy1.2.2.2.2.2.next ((hy1.2.2.2.2.1 i1 (Aj _)).symm.trans hsk) hKq.2.2.2.2 (by omega) (by omega)⟩,wk (Fa (Dx ((i1:Int)+1)) H1) [0,1,2,3,4]⟩
 refine Bu ?_
 have hi2:y1.2.length<=1000:=by have:=hy1.2.2.1;omega
 obtain⟨Y2,cY2,qY2⟩:=Ep (Akv b.city y1.2 hb.city hi2 hy1.2.2.2.1)
 have hTv:=cY2
 have hTq:=qY2
 generalize Y2=D at hTv hTq
 refine B2 Dz 4 ?_
 refine B8 Dz (hTv) ?_
 refine Bq ?_
 have hnb:=Iq b.city.cfg.ags b.city.cfg.ags.length
 have hna:=hb.city.na
 have hsl:D.2.ses.length<=8:=by have:=hTq.2.2.1;omega
 have hfl:D.2.feed.length<=1000:=by have:=hTq.2.2.2.2.1;omega
 have hfm:∀m∈D.2.feed,m.tok.length<=10000/\m.args.length<=10000/\m.data.length<=10000:=fun m hm=>(hTq.2.2.2.2.2.1 m hm).v
 obtain⟨Y3,cY3,qY3⟩:=Ep (V7 D.2.feed hfl hfm)
 refine Db Dz cY3<|.seq ?_
 refine Bq<|.block ?_
 refine Bs D.2.ses.length (fun i2 (y2:(List Er)×(List (List Int)))=>⟨[(1,.ptr 1 0),(2,.ptr 2 0),(3,.ptr 3 0),(8,.ptr 5 0),(56,.imm false 1 (S3 D.2.ses)),(57,.li D.2.ses.length),(58,.li i2)],[.row 100 4 false false (Adt y2.1),.box 40 [.mJun D.1.cfg.juns,.mAg D.1.cfg.ags,.li D.1.cfg.per,.li D.1.cfg.cap,.li D.1.cfg.hold,.li D.1.cfg.lock,.lb D.1.ref,.li D.1.now,.mDesk D.1.desks,.mSig D.1.sigs,.mSvc D.1.svcs,.mI D.1.stuck,.mView D.1.views,.own 0 y2.1.length],.box 40 [.nil 3,.nil 8,.li 0,.li 0,.li 0,.li 0,.lb false,.li 0,.nil 17,.nil 5,.nil 3,.nil 1,.nil 4,.nil 4],.box 49 [.nil 1,.nil 1],.row 44 1 false false (tYs y2.2),.box 49 [.own 4 y2.2.length,.mY Y3]]⟩) (fun i2 y2=>y2.1=y1.1/\y2.2.length=D.2.ses.length/\∀(k:Nat) (q:List Ea) (o:List Int),k<i2->D.2.ses[k]? = some q->y2.2[k]? = some o->o=(q.map Q9).flatten) (y1.1,List.replicate D.2.ses.length []) (wk Dz [0,1,2,3,7,8]) (⟨rfl,by simp,fun k q o hk=>absurd hk (Nat.not_lt_zero _)⟩) fun i2 y2 hi2 hy2=>?_
 refine Bq<|.seq ?_
 refine Br ?_ ?_<;>intro h59
 ·refine Bp<|.seq<|.block ?_
  obtain⟨e2,H2⟩:=gx D.2.ses i2
  refine Bt H2 ?_
  have hl4:=hy2.2.1
  have hfe:=hTq.2.2.2.1 _ (Ac H2)
  have hfe1:e2.length<=1000:=by omega
  have hfe2:∀m∈e2,m.tok.length<=10000/\m.args.length<=10000/\m.data.length<=10000:=fun m hm=>(hfe.2 m hm).v
  obtain⟨e3,H3⟩:=gx y2.2 i2
  obtain⟨Y4,cY4,qY4⟩:=Ep (V7 e2 hfe1 hfe2)
  refine Cp (Fa H2 H3) cY4 ?_
  refine B0 (Fa H2 H3) ?_
  exact⟨by omega,(y2.1,(y2.2).set i2 Y4),⟨hy2.1,by simpa using hl4,Az7 hy2.2.2 H2 qY4 (by omega)⟩,wk (Hq (Dx ((i2:Int)+1)) H2 H3) [0,1,2,3,4,5]⟩
 refine Bu<|.D ?_
 refine B2 Dz 0 ?_
 refine B2 Dz 4 ?_
 exact .ret ⟨(⟨D.1,y2.1⟩,⟨y2.2,Y3⟩),rW Dz [0],⟨⟨hTq.1,by dsimp only;rw[hy2.1];have:=hy1.1;omega,by dsimp only;rw[hy2.1];exact hy1.2.1⟩,hTq.2.1,by dsimp only;rw[hy2.1];exact hy1.1,by rw[<- hTq.2.2.1];dsimp only;rw[hy2.2.1],hTq.2.2.2.2.2.2.1,y1.2,D.2,hy1.2.2.1,by dsimp only;rw[hy2.1];have h:=hy1.2.2.2.2.2;rwa[show i1=b.sess.length by omega] at h,hTq.2.2.2.2.2.2.2,hy2.2.1.symm,fun k q o hq ho=>hy2.2.2 k q o (by have:=(Ab.1 hq).1;omega) hq ho⟩⟩
section
def Cd (l:List Dy):List AV:=P8 false (Jc l)
theorem Afx (d:Dy) (l:List Dy):Cd (d::l)=d.a false++Cd l:=rfl
theorem Dy.al (d:Dy):(d.a false).length=17:=rfl
theorem Si:∀(l:List Dy),(Cd l).length=l.length*17
 | []=>rfl
 | d::l=>by rw[Afx,Bo,Si l,Dy.al,A6];omega
theorem V3:∀{l:List Dy} {i:Nat} {d:Dy},l[i]? = some d->∀j,j<17->(Cd l)[i*17+j]? = (d.a false)[j]?
 | [],i,d,h,_,_=>by simp at h
 | e::l,0,d,h,j,hj=>by
  simp at h;subst h
  rw[Afx,Nat.zero_mul,Bm,Au (by rw[Dy.al];exact hj)]
 | e::l,i+1,d,h,j,hj=>by
  have h:l[i]? = some d:=by simpa using h
  rw[Afx,Ao (by rw[Dy.al];omega),Dy.al,show (i+1)*17+j - 17=i*17+j by omega]
  exact V3 h j hj
variable {l:List Dy} {d:Dy}
theorem Am4 {i:Nat} (h:l[i]? = some d):((Cd l).drop (i*17)).take 17=d.a false:=by
 apply List.ext_getElem?
 intro j
 rw[List.getElem?_take,Bd]
 by_cases hj:j<17
 ·rw[if_pos hj,V3 h j hj]
 rw[if_neg hj,Ar (by rw[Dy.al];omega)]
variable {i a:Nat}
theorem Ap0 (h:l[i]? = some d) (hia:i≠a) (v:AV):(((Cd l).set (a*17+15) v).drop (i*17)).take 17=d.a false:=by
 rw[<- Am4 h]
 apply List.ext_getElem?
 intro j
 rw[List.getElem?_take,Bd,List.getElem?_take,Bd]
 by_cases hj:j<17
 ·rw[if_pos hj,if_pos hj,A9 (by omega)]
 rw[if_neg hj,if_neg hj]
theorem Ajs {α:Type} {cs:List α} {off:Nat} {vs:List α} (h:∀j,j<vs.length->cs[off+j]? = vs[j]?):K4 cs off vs=cs:=by
 apply List.ext_getElem?
 intro p
 rw[Jy]
 split
 ·next hp=>rw[show p=off+(p - off) by omega,h (p - off) (by omega)];congr 1;omega
 rfl
theorem A1a {i:Nat} (h:l[i]? = some d):K4 (Cd l) (i*17) (d.a false)=Cd l:=Ajs fun j hj=>V3 h j (by rw[Dy.al] at hj;exact hj)
theorem Ap1 (h:l[i]? = some d) (hia:i≠a) (v:AV):K4 ((Cd l).set (a*17+15) v) (i*17) (d.a false)=(Cd l).set (a*17+15) v:=Ajs fun j hj=>by
 rw[Dy.al] at hj
 rw[A9 (by omega),V3 h j hj]
theorem Ah4 {a:Nat} (h:l[a]? = some d) (v:AV):K4 (Cd l) (a*17) ((d.a false).set 15 v)=(Cd l).set (a*17+15) v:=by
 have ha:a<l.length:=(Ab.1 h).1
 apply List.ext_getElem?
 intro p
 rw[Jy,List.length_set,Dy.al,Si]
 by_cases hp:a*17<=p/\p<a*17+17/\p<l.length*17
 ·rw[if_pos hp]
  obtain⟨j,rfl⟩:∃j,p=a*17+j:=⟨p - a*17,by omega⟩
  rw[show a*17+j - a*17=j by omega]
  by_cases hj:j=15
  ·subst hj
   rw[Bg (by rw[Dy.al];omega),Bg (by rw[Si];omega)]
  rw[A9 (by omega),A9 (by omega),V3 h j (by omega)]
 rw[if_neg hp,A9 (by omega)]
theorem A3a {a:Nat} (h:l[a]? = some d) (X:List (List Int)):Cd (l.set a { d with draws:=X })=(Cd l).set (a*17+15) (.imm false 1 (tYs X)):=by
 have ha:a<l.length:=(Ab.1 h).1
 rw[<- Ah4 h]
 have h1:(l.set a { d with draws:=X })[a]? = some { d with draws:=X }:=Bg ha
 apply List.ext_getElem?
 intro p
 rw[Jy,List.length_set,Dy.al,Si]
 by_cases hp:a*17<=p/\p<a*17+17/\p<l.length*17
 ·rw[if_pos hp]
  obtain⟨j,rfl⟩:∃j,p=a*17+j:=⟨p - a*17,by omega⟩
  rw[V3 h1 j (by omega),show a*17+j - a*17=j by omega]
  rfl
 rw[if_neg hp]
 by_cases hq:p<l.length*17
 ·have hi:p / 17<l.length:=by omega
  have hpe:p=p / 17*17+p % 17:=by omega
  have hne:p / 17≠a:=fun e=>hp ⟨by omega,by omega,hq⟩
  have h2:l[p / 17]? = some l[p / 17]:=Aa hi
  have h3:(l.set a { d with draws:=X })[p / 17]? = some l[p / 17]:=by rw[A9 (fun e=>hne e.symm)];exact h2
  rw[hpe,V3 h3 _ (Nat.mod_lt _ (by decide)),V3 h2 _ (Nat.mod_lt _ (by decide))]
 rw[Ar (by rw[Si,List.length_set];omega),Ar (by rw[Si];omega)]
theorem A1b (l:List Dy):P8 false (Jc l)=Cd l:=rfl
variable {F:List AV->List AV} {f:AV->AV}
theorem Axg (hF:∀(cs:List AV) (i:Nat),(F cs)[i]? = (cs[i]?).map f) (h1:∀v,f (.lit v)=.lit v) (h2:∀k es,f (.imm false k es)=.imm false k es) (l:List Dy):F (Cd l)=Cd l:=by
 apply List.ext_getElem?
 intro p
 rw[hF]
 by_cases hq:p<l.length*17
 ·have hi:p / 17<l.length:=by omega
  have hpe:p=p / 17*17+p % 17:=by omega
  have h2':l[p / 17]? = some l[p / 17]:=Aa hi
  have hj:p % 17<17:=Nat.mod_lt _ (by decide)
  rw[hpe,V3 h2' _ hj]
  generalize p % 17=j at hj
  generalize l[p / 17]=d
  have:∀j,j<17->Option.map f ((d.a false)[j]?)=(d.a false)[j]?:=fun j hj=>by
   have hc:j=0\/j=1\/j=2\/j=3\/j=4\/j=5\/j=6\/j=7\/j=8\/j=9\/j=10\/j=11\/j=12\/j=13\/j=14\/j=15\/j=16:=by omega
   rcases hc with rfl | rfl | rfl | rfl | rfl | rfl | rfl | rfl | rfl | rfl | rfl | rfl | rfl | rfl | rfl | rfl | rfl<;>simp[Dy.a,h1,h2]
  exact this j hj
 rw[Ar (by rw[Si];omega)];rfl
theorem Vy (hF:∀(cs:List AV) (i:Nat),(F cs)[i]? = (cs[i]?).map f) (h1:∀v,f (.lit v)=.lit v) (h2:∀k es,f (.imm false k es)=.imm false k es) (l:List Dy) (p:Nat) (v:AV):F ((Cd l).set p v)=(Cd l).set p (f v):=by
 have h:=Axg hF h1 h2 l
 apply List.ext_getElem?
 intro q
 rw[hF]
 by_cases hq:p=q
 ·subst hq
  by_cases hp:p<(Cd l).length
  ·rw[Bg hp,Bg hp];rfl
  rw[Ar (by simp;omega),Ar (by simp;omega)];rfl
 rw[A9 hq,A9 hq,<- hF,h]
theorem Ao2:∀(cs:List AV) (i:Nat),(Kq cs)[i]? = (cs[i]?).map AV.low
 | [],i=>by simp[Kq]
 | c::cs,0=>by simp[Kq]
 | c::cs,i+1=>by have:=Ao2 cs i;simpa[Kq] using this
theorem Gv (ρ:Nat->Option Nat) (l:List Dy) (p:Nat) (v:AV):Om ρ ((Cd l).set p v)=(Cd l).set p (v.ren ρ):=Vy (P5 ρ) (fun v=>by simp only[AV.ren]) (fun k es=>by simp only[AV.ren]) l p v
theorem Afw (ρ:Nat->Option Nat) (l:List Dy):Om ρ (Cd l)=Cd l:=Axg (P5 ρ) (fun v=>by simp only[AV.ren]) (fun k es=>by simp only[AV.ren]) l
theorem G7 (l:List Dy) (p:Nat) (v:AV):Kq ((Cd l).set p v)=(Cd l).set p v.low:=Vy Ao2 (fun v=>by simp only[AV.low]) (fun k es=>by simp only[AV.low]) l p v
theorem Fi (N:Nat) (l:List Dy) (p:Nat) (v:AV):Pf N ((Cd l).set p v)=(Cd l).set p (v.shift N):=Vy (Pe N) (fun v=>by simp only[AV.shift]) (fun k es=>by simp only[AV.shift]) l p v
theorem Fp (o:Nat->Ob) (l:List Dy) (p:Nat) (v:AV):Tb o ((Cd l).set p v)=(Cd l).set p (v.melt o):=Vy (Rh o) (fun v=>by simp only[AV.melt]) (fun k es=>by simp only[AV.melt]) l p v
theorem Ash:∀{a b:List AV} {x y:List T},ttL a=some x->ttL b=some y->ttL (a++b)=some (x++y)
 | [],b,x,y,h1,h2=>by simp[ttL] at h1;subst h1;simpa using h2
 | c::a,b,x,y,h1,h2=>by
  simp only[ttL,List.cons_append] at h1 ⊢
  cases hc:Z8 c with
  | none=>rw[hc] at h1;simp at h1
  | some t =>
   cases ha:ttL a with
   | none=>rw[hc,ha] at h1;simp at h1
   | some xs =>
    rw[hc,ha] at h1
    simp at h1
    subst h1
    rw[Ash ha h2]
    simp
theorem A1q:∀(l:List Dy),ttL (Cd l)=some (Jc l).flatten
 | []=>rfl
 | d::l=>by
  rw[Afx]
  have:=Ash (a:=d.a false) (x:=d.t) (by rfl) (A1q l)
  rw[this]
  rfl
theorem Aex (x:Dy) (hb:L8 x):PP 86 [] [x.g] [.row 44 1 false false (tYs x.draws)] (.agg [.li x.reg.num,.imm false 1 (tY x.reg.ag.sec),.li x.reg.ag.ri,.li x.reg.ag.cls,.imm false 1 (tI x.reg.ag.lims),.li x.reg.ag.rq,.li x.reg.ag.se,.li x.reg.ag.ra,.li x.reg.ag.bu,.imm false 6 (P1 x.reg.toks),.imm false 2 (Aaa x.reg.vehs),.li x.reg.bk.lv,.li x.reg.bk.ra,.li x.reg.bk.bu,.imm false 5 (Hn x.reqs),.own 0 x.draws.length,.imm false 1 (tB x.aud)]):=by
 refine Em Tryz.func86 ?_
 have hb1:=hb.reqs
 have hb2:=hb.draws
 refine Bw ?_
 refine Di Dz (Sy x.reg hb.reg) ?_
 refine Ce (fun K kk=>by simp[go_sem];refine .lo (Wg _ (by simpa using hb.reqs)) rfl (by simp) ?_;simp[go_sem];exact kk)<|.seq ?_
 refine Bw<|.block ?_
 refine Cc x.reqs.length (fun i1=>⟨[(1,.ptr 0 0),(2,.ptr 1 0),(15,.li x.reqs.length),(16,.li i1)],[.box 70 [.li x.reg.num,.imm false 1 (tY x.reg.ag.sec),.li x.reg.ag.ri,.li x.reg.ag.cls,.imm false 1 (tI x.reg.ag.lims),.li x.reg.ag.rq,.li x.reg.ag.se,.li x.reg.ag.ra,.li x.reg.ag.bu,.imm false 6 (P1 x.reg.toks),.imm false 2 (Aaa x.reg.vehs),.li x.reg.bk.lv,.li x.reg.bk.ra,.li x.reg.bk.bu,.own 2 x.reqs.length,.imm false 1 (tYs x.draws),.imm false 1 (tB x.aud)],.box 70 [.li 0,.nil 1,.li 0,.li 0,.nil 1,.li 0,.li 0,.li 0,.li 0,.nil 6,.nil 2,.li 0,.li 0,.li 0,.nil 5,.nil 1,.nil 1],.row 164 5 false false (Hn x.reqs)]⟩) (wk Dz [0,1,2]) fun i1 hi1=>?_
 refine Bw<|.seq ?_
 refine B6 ?_ ?_<;>intro h17
 ·have hx:x.reqs[i1]? = some x.reqs[i1]:=Aa h17
  generalize x.reqs[i1]=t at hx
  have hs:=Gy (f:=Ew.t) hx
  simp only[Ew.t] at hs
  refine Bv<|.seq<|.block<|.R ?_
  refine VW.E1 (fun K kk=>by simp[go_sem,hx,hs];(repeat refine aK ?_);refine .lo (E7.froz (Ng _ (by simpa using hb.legs t (Ac hx)) (by simp[T.plain,G3.t]))) rfl (by simp) ?_;simp[go_sem,hx,hs];(repeat first | exact kk | refine aK ?_)) ?_
  refine Cm ?_
  refine⟨by omega,wQ [0,1,2] ?_ ?_⟩
  ·simp[go_sem,Dx ((i1:Int)+1)]
  simp[go_sem]
 refine B4 ?_
 refine Ch 2 (by simp[go_sem,F8]) ?_
 simp[go_sem]
 refine Bx (by rfl) fun K1 hK1=>?_
 simp[go_sem]
 refine .lo (Xg _ (by simpa using hb.draws)) rfl (by simp) ?_
 simp[go_sem]
 refine hK1 _ ?_;clear hK1
 refine Dv<|.R<|.block ?_
 refine Cc x.draws.length (fun i2=>⟨[(1,.ptr 0 0),(2,.ptr 1 0),(38,.li x.draws.length),(39,.li i2)],[.box 70 [.li x.reg.num,.imm false 1 (tY x.reg.ag.sec),.li x.reg.ag.ri,.li x.reg.ag.cls,.imm false 1 (tI x.reg.ag.lims),.li x.reg.ag.rq,.li x.reg.ag.se,.li x.reg.ag.ra,.li x.reg.ag.bu,.imm false 6 (P1 x.reg.toks),.imm false 2 (Aaa x.reg.vehs),.li x.reg.bk.lv,.li x.reg.bk.ra,.li x.reg.bk.bu,.imm false 5 (Hn x.reqs),.own 2 x.draws.length,.imm false 1 (tB x.aud)],.box 70 [.li 0,.nil 1,.li 0,.li 0,.nil 1,.li 0,.li 0,.li 0,.li 0,.nil 6,.nil 2,.li 0,.li 0,.li 0,.nil 5,.nil 1,.nil 1],.row 44 1 false false (tYs x.draws)]⟩) (wk Dz [0,1,3]) fun i2 hi2=>?_
 refine Bw<|.seq ?_
 refine B6 ?_ ?_<;>intro h40
 ·have hx:x.draws[i2]? = some x.draws[i2]:=Aa h40
  generalize x.draws[i2]=t at hx
  have hs:=Gy (f:=fun x=>[T.sl 1 (tY x)]) hx
  refine Bv<|.seq<|.block<|.R ?_
  refine VW.draw1 (by kernel_rfl) (by rfl) (by kernel_rfl) fun K1 hK1=>?_
  simp[go_sem,hx,hs]
  repeat' refine Ax ?_ ?_
  all_goals try (intros;(repeat' refine Ax ?_ ?_)<;>omega)
  refine .lo (E7.froz (Gk _ (by simpa using hb.draw t (Ac hx)) (by simp[T.plain]))) rfl (by simp) ?_
  simp[go_sem,hx,hs]
  repeat' refine Ax ?_ ?_
  all_goals try (intros;(repeat' refine Ax ?_ ?_)<;>omega)
  refine hK1 _ _ (by kernel_rfl) ?_;clear hK1
  refine Cm ?_
  refine⟨by omega,wQ [0,1,2] ?_ ?_⟩
  ·simp[go_sem,Dx ((i2:Int)+1)]
  simp[go_sem]
 refine B4<|.S (fun K kk=>by simp[go_sem];refine .lo (Zh _ (by simpa using hb.aud) (by simp[T.plain])) rfl (by simp) ?_;simp[go_sem];exact kk) ?_
 refine Bw ?_
 refine Ch 3 (by simp[go_sem,F8]) ?_
 simp[go_sem]
 exact .ret (rW Dz [2])
theorem Aey (x:Fm) (hb:Apz x) (a:Nat) (D:Dy) (hD:x.desks[a]? = some D):PP 61 [] [x.g] [.box 70 ((Cd x.desks).set (a*17+15) (.own 1 D.draws.length)),.row 44 1 false false (tYs D.draws)] (.agg [.imm false 3 (Aab x.cfg.juns),.imm false 8 (tAg x.cfg.ags),.li x.cfg.per,.li x.cfg.cap,.li x.cfg.hold,.li x.cfg.lock,.lb x.ref,.li x.now,.bsl 0 x.desks.length,.imm false 5 (P2 x.sigs),.imm false 3 (Qr x.svcs),.imm false 1 (tI x.stuck),.imm false 4 (S2 x.views)]):=by
 refine Em Tryz.func61 ?_
 have hb1:=hb.desks
 have hb2:=hb.sigs
 have hb3:=hb.svcs
 refine Bw ?_
 refine Ce (fun K kk=>by simp[go_sem];refine .lo (Aa3 _ (by simpa using hb.desks)) rfl (by simp) ?_;simp[go_sem];exact kk) ?_
 have hA:a<x.desks.length:=(Ab.1 hD).1
 refine VW.toBox 2 rfl (by intro e;simp at e;rw[e] at hA;simp at hA) (by decide) ?_
 simp[go_sem,-Prod.exists,A1b]
 refine Dv<|.R<|.block ?_
 refine Cc x.desks.length (fun i1=>if a<i1 then ⟨[(1,.ptr 0 0),(2,.ptr 1 0),(12,.li x.desks.length),(13,.li i1)],[.box 37 [.imm false 3 (Aab x.cfg.juns),.imm false 8 (tAg x.cfg.ags),.li x.cfg.per,.li x.cfg.cap,.li x.cfg.hold,.li x.cfg.lock,.lb x.ref,.li x.now,.bsl 2 x.desks.length,.imm false 5 (P2 x.sigs),.imm false 3 (Qr x.svcs),.imm false 1 (tI x.stuck),.imm false 4 (S2 x.views)],.box 37 [.nil 3,.nil 8,.li 0,.li 0,.li 0,.li 0,.lb false,.li 0,.nil 17,.nil 5,.nil 3,.nil 1,.nil 4],.box 70 ((Cd x.desks).set (a*17+15) (.own 3 D.draws.length)),.row 44 1 false false (tYs D.draws)]⟩ else ⟨[(1,.ptr 0 0),(2,.ptr 1 0),(12,.li x.desks.length),(13,.li i1)],[.box 37 [.imm false 3 (Aab x.cfg.juns),.imm false 8 (tAg x.cfg.ags),.li x.cfg.per,.li x.cfg.cap,.li x.cfg.hold,.li x.cfg.lock,.lb x.ref,.li x.now,.bsl 2 x.desks.length,.imm false 5 (P2 x.sigs),.imm false 3 (Qr x.svcs),.imm false 1 (tI x.stuck),.imm false 4 (S2 x.views)],.box 37 [.nil 3,.nil 8,.li 0,.li 0,.li 0,.li 0,.lb false,.li 0,.nil 17,.nil 5,.nil 3,.nil 1,.nil 4],.box 70 (Cd x.desks)]⟩) (by rw[if_neg (by omega)];exact⟨[0,1,2],Es (by decide) (by repeat' (first | exact .nil | refine .cons (by simp[go_sem]) ?_)) (by repeat' (first | exact .nil | refine .cons (by simp[go_sem,Afw]) ?_)),by simp⟩) fun i1 hi1=>?_
 have hin:x.desks.length*17=(Cd x.desks).length:=(Si _).symm
 by_cases hai:a<i1
 ·
  rw[if_pos hai]
  refine Bw<|.seq ?_
  refine B6 ?_ ?_<;>intro h14
  ·have hx:x.desks[i1]? = some x.desks[i1]:=Aa h14
   generalize x.desks[i1]=t at hx
   have hDt:=Ap0 hx (by omega) (.own 3 D.draws.length) (a:=a)
   have hDs:=Ap1 hx (by omega) (.own 3 D.draws.length) (a:=a)
   simp only[Dy.a,List.set] at hDt hDs
   refine Bv<|.seq<|.block<|.R ?_
   refine VW.M1 (Fa hDt hDs) (Mu t (hb.desk t (Ac hx))) ?_
   refine Cm ?_
   rw[if_pos (by omega)]
   refine⟨by omega,wQ [0,1,2,3] ?_ ?_⟩
   ·simp[go_sem,Dx ((i1:Int)+1)]
   simp[go_sem,hDt,hDs,Gv,Afw]
  refine B4<|.S (fun K kk=>by simp[go_sem,Gv,G7,Fi,Fp];refine .lo (Xh _ (by simpa using hb.sigs)) rfl (by simp) ?_;simp[go_sem,Gv,G7,Fi,Fp];exact kk)<|.seq ?_
  refine Ce (fun K kk=>by simp[go_sem,Gv,G7,Fi,Fp];exact kk)<|.block ?_
  refine Cc x.sigs.length (fun i2=>⟨[(1,.ptr 0 0),(2,.ptr 1 0),(33,.li x.sigs.length),(34,.li i2)],[.box 37 [.imm false 3 (Aab x.cfg.juns),.imm false 8 (tAg x.cfg.ags),.li x.cfg.per,.li x.cfg.cap,.li x.cfg.hold,.li x.cfg.lock,.lb x.ref,.li x.now,.bsl 2 x.desks.length,.own 4 x.sigs.length,.imm false 3 (Qr x.svcs),.imm false 1 (tI x.stuck),.imm false 4 (S2 x.views)],.box 37 [.nil 3,.nil 8,.li 0,.li 0,.li 0,.li 0,.lb false,.li 0,.nil 17,.nil 5,.nil 3,.nil 1,.nil 4],.box 70 ((Cd x.desks).set (a*17+15) (.own 3 D.draws.length)),.row 44 1 false false (tYs D.draws),.row 135 5 false false (P2 x.sigs)]⟩) (wQ [0,1,2,3,4] ?_ ?_) fun i2 hi2=>?_
  ·simp[go_sem,Gv,G7,Fi,Fp]
  ·simp[go_sem,Gv,G7,Fi,Fp]
  refine Ce (fun K kk=>by simp[go_sem,Gv,G7,Fi,Fp];exact kk)<|.seq ?_
  refine VW.cond (by simp[go_sem,Gv,G7,Fi,Fp]) (by simp[go_sem,Gv,G7,Fi,Fp]) (fun h35=>?_) (fun h35=>?_)<;>simp[go_sem,Gv,G7,Fi,Fp] at h35
  ·have hx:x.sigs[i2]? = some x.sigs[i2]:=Aa h35
   generalize x.sigs[i2]=t at hx
   have hs:=Gy (f:=Ib.t) hx
   simp only[Ib.t] at hs
   refine Bv<|.seq<|.block<|.S (fun K kk=>by simp[go_sem,Gv,G7,Fi,Fp];exact kk) ?_
   refine VW.M1 (Fa hx hs) (Qp t (hb.sig t (Ac hx)).1 (hb.sig t (Ac hx)).2) ?_
   refine VW.S1 (fun K kk=>by simp[go_sem,Gv,G7,Fi,Fp];exact kk) ?_
   refine⟨by omega,wQ [0,1,2,3,4] ?_ ?_⟩
   ·simp[go_sem,Dx ((i2:Int)+1)]
   simp[go_sem,Gv,G7,Fi,Fp]
  refine B4<|.S (fun K kk=>by simp[go_sem,Gv,G7,Fi,Fp];refine .lo (Wf _ (by simpa using hb.svcs)) rfl (by simp) ?_;simp[go_sem,Gv,G7,Fi,Fp];exact kk)<|.seq ?_
  refine Ce (fun K kk=>by simp[go_sem,Gv,G7,Fi,Fp];exact kk)<|.block ?_
  refine Cc x.svcs.length (fun i3=>⟨[(1,.ptr 0 0),(2,.ptr 1 0),(54,.li x.svcs.length),(55,.li i3)],[.box 37 [.imm false 3 (Aab x.cfg.juns),.imm false 8 (tAg x.cfg.ags),.li x.cfg.per,.li x.cfg.cap,.li x.cfg.hold,.li x.cfg.lock,.lb x.ref,.li x.now,.bsl 2 x.desks.length,.own 4 x.sigs.length,.own 5 x.svcs.length,.imm false 1 (tI x.stuck),.imm false 4 (S2 x.views)],.box 37 [.nil 3,.nil 8,.li 0,.li 0,.li 0,.li 0,.lb false,.li 0,.nil 17,.nil 5,.nil 3,.nil 1,.nil 4],.box 70 ((Cd x.desks).set (a*17+15) (.own 3 D.draws.length)),.row 44 1 false false (tYs D.draws),.row 135 5 false false (P2 x.sigs),.row 138 3 false false (Qr x.svcs)]⟩) (wQ [0,1,2,3,4,5] ?_ ?_) fun i3 hi3=>?_
  ·simp[go_sem,Gv,G7,Fi,Fp]
  ·simp[go_sem,Gv,G7,Fi,Fp]
  refine Ce (fun K kk=>by simp[go_sem,Gv,G7,Fi,Fp];exact kk)<|.seq ?_
  refine VW.cond (by simp[go_sem,Gv,G7,Fi,Fp]) (by simp[go_sem,Gv,G7,Fi,Fp]) (fun h56=>?_) (fun h56=>?_)<;>simp[go_sem,Gv,G7,Fi,Fp] at h56
  ·have hx:x.svcs[i3]? = some x.svcs[i3]:=Aa h56
   generalize x.svcs[i3]=t at hx
   have hs:=Gy (f:=Fx.t) hx
   simp only[Fx.t] at hs
   refine Bv<|.seq<|.block<|.S (fun K kk=>by simp[go_sem,Gv,G7,Fi,Fp];exact kk) ?_
   refine VW.M1 (Fa hx hs) (Ls t (hb.svc t (Ac hx))) ?_
   refine VW.S1 (fun K kk=>by simp[go_sem,Gv,G7,Fi,Fp];exact kk) ?_
   refine⟨by omega,wQ [0,1,2,3,4,5] ?_ ?_⟩
   ·simp[go_sem,Dx ((i3:Int)+1)]
   simp[go_sem,Gv,G7,Fi,Fp]
  refine B4<|.S (fun K kk=>by simp[go_sem,Gv,G7,Fi,Fp];refine .lo (Hm _ (by simpa using hb.stuck) (by simp[T.plain])) rfl (by simp) ?_;simp[go_sem,Gv,G7,Fi,Fp];exact kk) ?_
  refine Ce (fun K kk=>by simp[go_sem,Gv,G7,Fi,Fp];refine .l (Xe x.views hb.views hb.view) ?_;simp[go_sem,Gv,G7,Fi,Fp];exact kk) ?_
  refine Ce (fun K kk=>by simp[go_sem,Gv,G7,Fi,Fp];exact kk) ?_
  refine Ch 4 (by simp[go_sem,F8]) ?_
  simp[go_sem,Fp]
  refine Ch 5 (by simp[go_sem,F8]) ?_
  simp[go_sem,Fp]
  refine Ch 6 (by simp[go_sem,F8]) ?_
  simp[go_sem,Fp]
  refine VW.ret (Acv [2,3] (by simp[go_sem,Gv,G7,Fi,Fp]) (by decide) (by simp) (by simp[go_sem,Gv,G7,Fi,Fp]) ?_)
  repeat' (first | exact .nil | refine .cons (by simp[go_sem,Gv,G7,Fi,Fp]) ?_)
 -- not yet
 rw[if_neg hai]
 refine Bw<|.seq ?_
 refine B6 ?_ ?_<;>intro h14
 ·
  by_cases hia:i1=a
  ·subst hia
   have hx:=hD
   have hDt:=Am4 hx
   have hDs:=Ah4 hx (.own 3 D.draws.length)
   simp only[Dy.a,List.set] at hDt hDs
   refine Bv<|.seq<|.block<|.R ?_
   refine VW.M1 (Fa hDt hDs) (Aex D (hb.desk D (Ac hx))) ?_
   refine Cm ?_
   rw[if_pos (by omega)]
   refine⟨by omega,wQ [0,1,2,3] ?_ ?_⟩
   ·simp[go_sem,Dx ((i1:Int)+1)]
   simp[go_sem,hDt,hDs,Gv,Afw]
  ·
   have hx:x.desks[i1]? = some x.desks[i1]:=Aa h14
   generalize x.desks[i1]=t at hx
   have hDt:=Am4 hx
   have hDs:=A1a hx
   simp only[Dy.a,List.set] at hDt hDs
   refine Bv<|.seq<|.block<|.R ?_
   refine VW.M1 (Fa hDt hDs) (Mu t (hb.desk t (Ac hx))) ?_
   refine Cm ?_
   rw[if_neg (by omega)]
   refine⟨by omega,wQ [0,1,2] ?_ ?_⟩
   ·simp[go_sem,Dx ((i1:Int)+1)]
   simp[go_sem,hDt,hDs,Gv,Afw]
 -- none
 omega
end
section
variable {k:Nat} {D:Dy}
theorem A5b {c:Fm} (hD:c.desks[k]? = some D) {n:List (List Int)}:Yc c { c with desks:=c.desks.set k { D with draws:=n } }:=⟨rfl,fun j x h=>by
 by_cases e:j=k
 ·subst e
  rw[hD] at h
  injection h with h
  subst h
  exact⟨n,Bg (Ab.1 hD).1⟩
 exact⟨x.draws,by show (c.desks.set k _)[j]? = _;rw[A9 (Ne.symm e)];exact h⟩⟩
theorem A5c {c:Fm} (hc:Kf c) (hD:c.desks[k]? = some D) {n:List Int} (h8:D.draws.length<8) (hn:n.length=8) (hB:By n):Kf { c with desks:=c.desks.set k { D with draws:=D.draws++[n] } }:=by
 have hm:=hc.desk D (Ac hD)
 have hd:∀d∈c.desks.set k { D with draws:=D.draws++[n] },Gg d/\1<=d.aud.length/\d.aud.length<=2:=fun d hd=>by
  rcases Bi hd with h | rfl
  ·exact hc.desk d h
  exact⟨⟨⟨hm.1.b.reg,hm.1.b.reqs,hm.1.b.legs,by simp;omega,fun s hs=>by
   rcases A0.1 hs with h | h
   ·exact hm.1.b.draw s h
   ·rw[An.1 h];omega,hm.1.b.aud⟩,hm.1.vehs,hm.1.reqs,fun s hs=>by
   rcases A0.1 hs with h | h
   ·exact hm.1.dr s h
   rw[An.1 h];exact⟨by omega,hB⟩,hm.1.rq,hm.1.rl,hm.1.rk⟩,hm.2⟩
 exact⟨hc.ref,hc.jun,hc.nj,hc.na,by simpa using hc.desks,hd,hc.sigs,hc.sig,hc.svcs,hc.svc,hc.stuck,hc.views,hc.view,hc.vw,fun j d a h ha=>by
  have h:(c.desks.set k { D with draws:=D.draws++[n] })[j]? = some d:=h
  by_cases e:j=k
  ·subst e
   rw[Bg (Ab.1 hD).1] at h
   injection h with h
   rw[<- h]
   exact hc.dl j D a hD ha
  rw[A9 (Ne.symm e)] at h
  exact hc.dl j d a h ha⟩
theorem A5t (l:List Dy) (hk:k<l.length) (v:AV):((Cd l).set (k*17+15) v)[k*17+15]? = some v:=Bg (by rw[Si];omega)
variable {l:List Dy}
theorem Asg (h:l[k]? = some D) (X:List (List Int)):ttL ((Cd l).set (k*17+15) (.imm false 1 (tYs X)))=some (Jc (l.set k { D with draws:=X })).flatten:=by rw[<- A3a h,A1q]
theorem Aqp (l:List Dy):∀e∈Jc l,e.length=17:=fun e he=>by
 obtain⟨d,_,rfl⟩:=A4.1 he
 rfl
theorem Att (h:l[k]? = some D):l.set k { D with draws:=D.draws }=l:=by
 apply List.ext_getElem?
 intro i
 rw[List.getElem?_set]
 split
 ·next e=>subst e;rw[h,if_pos (Ab.1 h).1]
 rfl
theorem An1 (h:l[k]? = some D):ttL ((Cd l).set (k*17+15) (.imm false 1 (tYs D.draws)))=some (Jc l).flatten:=by rw[Asg h,Att h]
theorem Av2 (h:l[k]? = some D) (n:List Int):ttL ((Cd l).set (k*17+15) (.imm false 1 (tYs D.draws++[[T.sl 1 (tY n)]])))=some (Jc (l.set k { D with draws:=D.draws++[n] })).flatten:=by
 rw[<- Asg h,show tYs (D.draws++[n])=tYs D.draws++[[T.sl 1 (tY n)]] from by simp]
section
variable (c:Fm) (a:Int) (n:List Int) (hc:Kf c) (hn:n.length<=1000000) (hB:By n)
include a hc hn hB
theorem Aie:∃res,PP 42 [] [c.g,.li a,.imm false 1 (tY n)] [] res/\IsD (fun d:Fm=>d.g) (fun d=>Kf d/\d.cfg=c.cfg/\Yc c d) res:=by
 refine Ex Tryz.func42 ?_
 have hr:=hc.ref
 have hds:=hc.desks
 have hna:=hc.na
 refine Bq ?_
 by_cases hk:0<=a/\a<c.desks.length
 ·obtain⟨k,rfl⟩:∃k:Nat,a=k:=⟨a.toNat,by omega⟩
  have hkl:k<c.desks.length:=by omega
  have hD:c.desks[k]? = some c.desks[k]:=Aa hkl
  generalize c.desks[k]=D at hD
  have hlt:¬((k:Int)<0):=by omega
  have hge:¬((c.desks.length:Int)<=(k:Int)):=by omega
  have hin:k*17+15<(Cd c.desks).length:=by rw[Si];omega
  have hcl:=Si c.desks
  refine B3 (fun K kk=>by simp[go_sem];refine .l (Aey c hc.b k D hD) ?_;simp[go_sem,Fi];exact kk)<|.seq ?_
  refine Bt (Hq hr hlt hge) ?_
  refine Br ?_ ?_<;>intro h27
  ·
   refine Bq ?_
   refine Do 3 ?_
   simp[go_sem,Fp]
   refine C9 2 17 (Jc c.desks) rfl (An1 hD) (Aqp _) (by simp) ?_
   simp[go_sem]
   refine Bz (Fj ?_);simp[go_sem]
   exact⟨c,by simp[go_sem,hr],hc,rfl,.refl _⟩
  -- a nonce
  refine Bp<|.H Dz<|.seq ?_
  have hat:=A5t c.desks hkl (.own 3 D.draws.length)
  refine Bt hat ?_
  refine Br ?_ ?_<;>intro h38
  ·
   refine Dg (fun K kk=>by simp[go_sem,hat];(repeat refine aK ?_);refine .lo (E7.froz (Gk _ (by simpa using hn) (by simp[T.plain]))) rfl (by simp) ?_;simp[go_sem,hat];(repeat first | exact kk | refine aK ?_)) ?_
   refine Bq ?_
   refine Do 3 ?_
   simp[go_sem,Fp]
   refine C9 2 17 (Jc (c.desks.set k { D with draws:=(D.draws++[n]) })) rfl (Av2 hD n) (Aqp _) (by simp) ?_
   simp[go_sem]
   refine Bz (Fj ?_);simp[go_sem]
   exact⟨{ c with desks:=c.desks.set k { D with draws:=D.draws++[n] } },by simp[go_sem,hr],A5c hc hD (by omega) (by omega) hB,rfl,A5b hD⟩
  -- none
  refine Bp<|.R ?_
  refine Do 3 ?_
  simp[go_sem,Fp]
  refine C9 2 17 (Jc c.desks) rfl (An1 hD) (Aqp _) (by simp) ?_
  simp[go_sem]
  refine Bz (Fj ?_);simp[go_sem]
  exact⟨c,by simp[go_sem,hr],hc,rfl,.refl _⟩
 -- no such desk
 have hk2:a<0\/(c.desks.length:Int)<=a:=by omega
 refine B8 Dz (Pt c hc.b)<|.seq ?_
 refine Bt hr ?_
 refine Br ?_ ?_<;>intro h27
 ·
  refine Bq ?_
  refine B2 Dz 2 ?_
  refine B2 Dz 3 ?_
  refine B2 Dz 4 ?_
  refine B2 Dz 5 ?_
  refine Bz (Fj ?_);simp[go_sem]
  exact⟨c,by simp[go_sem,hr],hc,rfl,.refl _⟩
 -- not so
 exfalso
 omega
theorem Akw:∃d:Fm,PP 42 [] [c.g,.li a,.imm false 1 (tY n)] [] (d.g)/\(Kf d/\d.cfg=c.cfg/\Yc c d):=Ep (Aie c a n hc hn hB)
end
end
section
def Lo (e:I5):Prop:=e.bytes.length<=1000000/\By e.bytes
def Uz (s:Er) (e:I5):Er:=by
 classical
 exact if h:Ar0 s/\e.bytes.length<=1000000 then (if e.kind=1 then I1 s h.1.1 else if e.kind=2 then Lh s else if e.kind=3 then Je s e.bytes h.1.1 h.2 else s) else s
def Td (l:List Er) (e:I5):List Er:=if 0<=e.se then (match l[e.se.toNat]? with | some s=>l.set e.se.toNat (Uz s e) | none=>l) else l
variable {l:List Er} {e:I5} {s:Er}
theorem Sc (h0:0<=e.se) (hs:l[e.se.toNat]? = some s):Td l e=l.set e.se.toNat (Uz s e):=by simp[Td,h0,hs]
theorem Yr (h:¬(0<=e.se/\e.se<l.length)):Td l e=l:=by
 unfold Td
 split
 ·rw[Ar (by omega)]
 rfl
theorem Alr (hs:Ar0 s) (he:e.bytes.length<=1000000) (hk:e.kind=1):Uz s e=I1 s hs.1:=by simp[Uz,hs,he,hk]
theorem Aqr (hs:Ar0 s) (he:e.bytes.length<=1000000) (hk:e.kind=2):Uz s e=Lh s:=by simp[Uz,hs,he,hk]
theorem Aqq (hs:Ar0 s) (he:e.bytes.length<=1000000) (hk:e.kind=3):Uz s e=Je s e.bytes hs.1 he:=by simp[Uz,hs,he,hk]
theorem Awf {i:Nat} (hs:l[i]? = some s):l.set i s=l:=by
 have:=(Ab.1 hs)
 obtain⟨h,rfl⟩:=this
 exact List.set_getElem_self h
theorem Ax4 (h1:e.kind≠1) (h2:e.kind≠2) (h3:e.kind≠3):Td l e=l:=by
 unfold Td
 split
 ·split
  ·rename_i s hs
   have:Uz s e=s:=by simp[Uz,h1,h2,h3]
   rw[this]
   exact Awf hs
  rfl
 rfl
theorem Kf.stuckd {c d:Fm} (h:Kf c) (q:d.cfg=c.cfg/\d.ref=c.ref/\d.now=c.now/\d.desks=c.desks/\d.sigs=c.sigs/\d.svcs=c.svcs/\d.views=c.views/\d.stuck.length=c.stuck.length):Kf d:=by
 obtain⟨q1,q2,q3,q4,q5,q6,q7,q8⟩:=q
 exact⟨by rw[q2];exact h.ref,by rw[q1];exact h.jun,by rw[q1];exact h.nj,by rw[q1];exact h.na,by rw[q4,q1];exact h.desks,by rw[q4];exact h.desk,by rw[q5,q1];exact h.sigs,by rw[q5];exact h.sig,by rw[q6,q1];exact h.svcs,by rw[q6];exact h.svc,by rw[q8,q1];exact h.stuck,by rw[q7,q1];exact h.views,by rw[q7];exact h.view,by rw[q7,q1];exact h.vw,by rw[q4,q1];exact h.dl⟩
structure DoQ (b:Gt) (e:I5) (d:Gt×P9×Bool):Prop where
  i:Qa d.1
  cfg:d.1.city.cfg=b.city.cfg
  len:d.1.sess.length=b.sess.length
  few:e.kind<=3->d=(⟨b.city,Td b.sess e⟩,⟨[],[]⟩,false)
  tick:e.kind=6->d.2.2=true/\(d.2.1.ses.length:Int)=Eg b.city.cfg.ags b.city.cfg.ags.length/\d.1.city.now=IntKind.i64.wrap ((if 1073741823<b.city.now then 1073741823 else b.city.now)+1)/\A5h b (d.1,d.2.1)
  none:e.kind≠6->d.2.2=false
  keep:3<e.kind->e.kind≠6->d.1.sess=b.sess/\Yc b.city d.1.city
variable {b:Gt}
theorem DoQ.ses (hb:Qa b) {s x:Er} (h0:0<=e.se) (hs:b.sess[e.se.toNat]? = some s) (hx:Ar0 x) (h:Uz s e=x) (hk:e.kind<=3):DoQ b e (⟨b.city,b.sess.set e.se.toNat x⟩,⟨[],[]⟩,false) :=
 ⟨⟨hb.city,by simpa using hb.n,Aao hb.ses hx⟩,rfl,by simp,fun _=>by rw[Sc h0 hs,h],fun h=>by omega,fun _=>rfl,fun h=>by omega⟩
theorem DoQ.no (hb:Qa b) (h:Td b.sess e=b.sess\/3<e.kind) (hk:e.kind≠6):DoQ b e (b,⟨[],[]⟩,false) :=
 ⟨hb,rfl,rfl,fun h3=>(by rcases h with h | h<;>first | (rw[h];done) | omega),fun h=>absurd h hk,fun _=>rfl,fun _ _=>⟨rfl,Yc.refl _⟩⟩
theorem DoQ.city (hb:Qa b) {c:Fm} (hc:Kf c) (h:c.cfg=b.city.cfg) (hK:Yc b.city c) (h3:3<e.kind) (hk:e.kind≠6):DoQ b e (⟨c,b.sess⟩,⟨[],[]⟩,false) :=
 ⟨⟨hc,hb.n,hb.ses⟩,h,rfl,fun h=>by omega,fun h=>absurd h hk,fun _=>rfl,fun _ _=>⟨rfl,hK⟩⟩
section
variable (b:Gt) (e:I5) (hb:Qa b) (he:Lo e)
include hb he
theorem W6:Ct 14 [b.g,e.g] (fun d:Gt×P9×Bool=>.tup [d.1.g,d.2.1.g,.lb d.2.2]) (fun d=>DoQ b e d):=by
 refine Ex Tryz.func14 ?_
 have hbn:=hb.n
 have heb:=he.1
 refine Bq ?_
 refine B8 Dz (Aez b hb.b) ?_
 refine Bq<|.seq ?_
 refine B2 Dz 4 ?_
 refine B2 Dz 5 ?_
 refine B2 Dz 6 ?_
 refine B2 Dz 7 ?_
 refine Bq<|.block ?_
 refine Bq ?_
 refine Br ?_ ?_<;>intro h25
 ·refine Bq ?_
  refine Br ?_ ?_<;>intro h27
  ·have hex:=h27
   obtain⟨sk,hsk⟩:∃u,b.sess[e.se.toNat]? = some u:=⟨_,Aa (by omega)⟩
   have hsq:=hb.ses sk (Ac hsk)
   have hv:=Anx sk hsq.1
   have hq:=S8 sk hsq.1
   refine Cp hsk (hv) ?_
   refine Bq ?_
   refine B2 Dz 8 ?_
   exact .ret (fin Dz (⟨b.city,(b.sess).set e.se.toNat (I1 sk hsq.1)⟩,⟨[],[]⟩,false) (DoQ.ses hb hex.1 hsk ⟨hq.1,hq.2.1 hsq.2⟩ (Alr hsq heb h25) (by omega)))
  refine Bp<|.R ?_
  refine B2 Dz 8 ?_
  exact .ret (fin Dz (⟨b.city,b.sess⟩,⟨[],[]⟩,false) (DoQ.no hb (.inl (Yr (by omega))) (by omega)))
 refine Bq ?_
 refine Br ?_ ?_<;>intro h40
 ·refine Bq ?_
  refine Br ?_ ?_<;>intro h42
  ·have hex:=h42
   obtain⟨sk,hsk⟩:∃u,b.sess[e.se.toNat]? = some u:=⟨_,Aa (by omega)⟩
   have hsq:=hb.ses sk (Ac hsk)
   have hv:=Any sk
   have hq:=Xx sk
   refine Cp hsk (hv) ?_
   refine Bq ?_
   refine B2 Dz 8 ?_
   exact .ret (fin Dz (⟨b.city,(b.sess).set e.se.toNat (Lh sk)⟩,⟨[],[]⟩,false) (DoQ.ses hb hex.1 hsk ⟨hq.1,hq.2.1⟩ (Aqr hsq heb h40) (by omega)))
  refine Bp<|.R ?_
  refine B2 Dz 8 ?_
  exact .ret (fin Dz (⟨b.city,b.sess⟩,⟨[],[]⟩,false) (DoQ.no hb (.inl (Yr (by omega))) (by omega)))
 refine Bq ?_
 refine Br ?_ ?_<;>intro h55
 ·refine Bq ?_
  refine Br ?_ ?_<;>intro h57
  ·have hex:=h57
   obtain⟨sk,hsk⟩:∃u,b.sess[e.se.toNat]? = some u:=⟨_,Aa (by omega)⟩
   have hsq:=hb.ses sk (Ac hsk)
   have hv:=Anw sk e.bytes hsq.1 heb
   have hq:=Xw sk e.bytes hsq.1 heb
   refine Cp hsk (hv) ?_
   refine Bq ?_
   refine B2 Dz 8 ?_
   exact .ret (fin Dz (⟨b.city,(b.sess).set e.se.toNat (Je sk e.bytes hsq.1 heb)⟩,⟨[],[]⟩,false) (DoQ.ses hb hex.1 hsk ⟨hq.1,hq.2.1 hsq.2 he.2⟩ (Aqq hsq heb h55) (by omega)))
  refine Bp<|.R ?_
  refine B2 Dz 8 ?_
  exact .ret (fin Dz (⟨b.city,b.sess⟩,⟨[],[]⟩,false) (DoQ.no hb (.inl (Yr (by omega))) (by omega)))
 refine Bq ?_
 refine Br ?_ ?_<;>intro h72
 ·obtain⟨Y1,cY1,qY1⟩:=Akw b.city e.x e.bytes hb.city heb he.2
  have hv:=cY1
  have hq:=qY1
  generalize Y1=G at hv hq
  refine Dj Dz (hv) ?_
  refine Bq ?_
  refine B2 Dz 8 ?_
  exact .ret (fin Dz (⟨G,b.sess⟩,⟨[],[]⟩,false) (DoQ.city hb hq.1 hq.2.1 hq.2.2 (by omega) (by omega)))
 refine Bq ?_
 refine Br ?_ ?_<;>intro h82
 ·obtain⟨Y2,cY2,qY2⟩:=Ep (Aid b.city e.x e.y hb.city.b (hb.city.stuck))
  have hv:=cY2
  have hq:=qY2
  generalize Y2=G at hv hq
  refine Dj Dz (hv) ?_
  refine Bq ?_
  refine B2 Dz 8 ?_
  exact .ret (fin Dz (⟨G,b.sess⟩,⟨[],[]⟩,false) (DoQ.city hb (hb.city.stuckd hq) hq.1 (Yc.same hq.2.2.1 hq.2.2.2.1) (by omega) (by omega)))
 refine Bq ?_
 refine Br ?_ ?_<;>intro h92
 ·obtain⟨Y3,cY3,qY3⟩:=Aed b hb
  have hv:=cY3
  have hq:=qY3
  generalize Y3=G at hv hq
  refine Dc Dz [8] hv ?_
  refine VX.D ?_
  exact .ret (fin Dz (G.1,G.2,true) ⟨hq.1,hq.2.1,hq.2.2.1,fun h=>by omega,fun _=>⟨rfl,hq.2.2.2⟩,fun h=>absurd h92 h,fun _ h=>absurd h92 h⟩)
 refine Bp<|.R ?_
 refine B2 Dz 8 ?_
 exact .ret (fin Dz (⟨b.city,b.sess⟩,⟨[],[]⟩,false) (DoQ.no hb (.inl (Ax4 (by omega) (by omega) (by omega))) (by omega)))
def Li:Gt×P9×Bool:=(Ep (W6 b e hb he)).choose
theorem Adq:PP 14 [] [b.g,e.g] [] (.tup [.agg ((Li b e hb he).1.a false),.agg ((Li b e hb he).2.1.a false),.lit (.bool (Li b e hb he).2.2)]):=(Ep (W6 b e hb he)).choose_spec.1
theorem Gc:DoQ b e (Li b e hb he):=(Ep (W6 b e hb he)).choose_spec.2
end
end
def Mo (b:Gt) (e:I5):Gt×P9×Bool:=by
 classical
 exact if h:Qa b/\Lo e then Li b e h.1 h.2 else (b,⟨[],[]⟩,false)
def Aae:Gt->List I5->List P9
 | _,[]=>[]
 | b,e::l=>if (Mo b e).2.2 then (Mo b e).2.1::Aae (Mo b e).1 l else Aae (Mo b e).1 l
theorem K5 {b:Gt} {e:I5} (hb:Qa b) (he:Lo e):Mo b e=Li b e hb he:=by simp[Mo,hb,he]
def bkY (y:List F9×List G2×Int×Int×Int×Int×Bool×Int×List Dy×List Ib×List Fx×List Int×List Gp×List Er×List P9):Gt:=⟨⟨⟨y.1,y.2.1,y.2.2.1,y.2.2.2.1,y.2.2.2.2.1,y.2.2.2.2.2.1⟩,y.2.2.2.2.2.2.1,y.2.2.2.2.2.2.2.1,y.2.2.2.2.2.2.2.2.1,y.2.2.2.2.2.2.2.2.2.1,y.2.2.2.2.2.2.2.2.2.2.1,y.2.2.2.2.2.2.2.2.2.2.2.1,y.2.2.2.2.2.2.2.2.2.2.2.2.1⟩,y.2.2.2.2.2.2.2.2.2.2.2.2.2.1⟩
theorem At0 {b:Gt} {l:List I5} {i:Nat} {e:I5} (h:l[i]? = some e):Aae b (l.drop i)=if (Mo b e).2.2 then (Mo b e).2.1::Aae (Mo b e).1 (l.drop (i+1)) else Aae (Mo b e).1 (l.drop (i+1)):=by
 obtain⟨hi,rfl⟩:=Ab.1 h
 rw[List.drop_eq_getElem_cons hi,Aae]
section
variable (c:E5) (l:List I5) (hb:Adg c) (hp:L7 c=true) (hJ:∀j∈c.juns,Ou j/\j.phs.length<=8) (hA:∀a∈c.ags,a.sec.length<=1000000/\a.lims.length<=1000000/\a.rq<=3) (hl1:c.juns.length<=4) (hl2:c.ags.length<=4) (hS:∀x∈c.ags,1<=x.se/\x.se<=2) (hl:l.length<=1000000) (hE:∀e∈l,Lo e)
include hb hp hJ hA hl1 hl2 hS hl hE
theorem Vi:Ct 22 [c.g,.mEv l] (fun d:List P9=>.mOut d) (fun d=>d=Aae (Gf c hb hp hJ hA hl1 hl2 hS) (l.take 400)):=by
 refine Ex Tryz.func22 ?_
 have hNv:=Aa4 c hb hp hJ hA hl1 hl2 hS
 have hNq:=Q8 c hb hp hJ hA hl1 hl2 hS
 obtain⟨N,hN⟩:∃N,N=Gf c hb hp hJ hA hl1 hl2 hS:=⟨_,rfl⟩
 rw[<- hN] at hNv hNq
 obtain⟨lt,hlt⟩:∃lt,lt=l.take (min l.length 400):=⟨_,rfl⟩
 have hT:List.take (if (400:Int)<(l.length:Int) then (400:Int) else (l.length:Int)).toNat (List.map I5.t l)=List.map I5.t lt:=by rw[hlt,List.map_take];congr 1;split<;>omega
 have hlm:l.take 400=l.take (min l.length 400):=by rw[Nat.min_comm,<- List.take_take,List.take_length]
 have hll:lt.length<=400:=by rw[hlt,A5];omega
 have hlE:∀e∈lt,Lo e:=fun e h=>hE e (by rw[hlt] at h;exact Aq h)
 refine Bq ?_
 refine B8 Dz (hNv) ?_
 refine Bq<|.seq ?_
 refine Bt hT<|.block ?_
 refine Cg 6 49 2 (by decide) (k':=2) (by simp[go_sem]) ?_
 simp[go_sem,-Prod.exists]
 refine Bs (lt.length) (fun i1 (y1:(List F9)×(List G2)×Int×Int×Int×Int×Bool×Int×(List Dy)×(List Ib)×(List Fx)×(List Int)×(List Gp)×(List Er)×(List P9))=>⟨[(5,.ptr 0 0),(6,.own 1 y1.2.2.2.2.2.2.2.2.2.2.2.2.2.2.length),(18,.mEv lt),(19,.li (lt.length)),(20,.li i1)],[.box 40 [.mJun y1.1,.mAg y1.2.1,.li y1.2.2.1,.li y1.2.2.2.1,.li y1.2.2.2.2.1,.li y1.2.2.2.2.2.1,.lb y1.2.2.2.2.2.2.1,.li y1.2.2.2.2.2.2.2.1,.mDesk y1.2.2.2.2.2.2.2.2.1,.mSig y1.2.2.2.2.2.2.2.2.2.1,.mSvc y1.2.2.2.2.2.2.2.2.2.2.1,.mI y1.2.2.2.2.2.2.2.2.2.2.2.1,.mView y1.2.2.2.2.2.2.2.2.2.2.2.2.1,.mSess y1.2.2.2.2.2.2.2.2.2.2.2.2.2.1],.row 49 2 false false (A4l y1.2.2.2.2.2.2.2.2.2.2.2.2.2.2)]⟩) (fun i1 y1=>Qa (bkY y1)/\y1.2.2.2.2.2.2.2.2.2.2.2.2.2.2++Aae (bkY y1) (lt.drop i1)=Aae N lt/\y1.2.2.2.2.2.2.2.2.2.2.2.2.2.2.length<=i1) (N.city.cfg.juns,N.city.cfg.ags,N.city.cfg.per,N.city.cfg.cap,N.city.cfg.hold,N.city.cfg.lock,N.city.ref,N.city.now,N.city.desks,N.city.sigs,N.city.svcs,N.city.stuck,N.city.views,N.sess,[]) (wk Dz [1,2]) (⟨hNq.1,rfl,by simp⟩) fun i1 y1 hi1 hy1=>?_
 refine Bq<|.seq ?_
 refine Br ?_ ?_<;>intro h21
 ·refine Bp<|.seq<|.block ?_
  obtain⟨e1,H1⟩:=gx lt i1
  refine Bt H1 ?_
  have hDv:=Adq (bkY y1) e1 hy1.1 (hlE e1 (Ac H1))
  have hDq:=Gc (bkY y1) e1 hy1.1 (hlE e1 (Ac H1))
  have hDf:=K5 hy1.1 (hlE e1 (Ac H1))
  have hrd:=At0 (b:=bkY y1) H1
  rw[hDf] at hrd
  generalize Li (bkY y1) e1 hy1.1 (hlE e1 (Ac H1))=D at hDv hDq hrd
  refine B8 H1 (hDv) ?_
  refine Bt H1 ?_
  refine Bt H1 ?_
  refine Br ?_ ?_<;>intro h32
  ·refine B0 H1 ?_
   refine B0 H1 ?_
   exact⟨by omega,(D.1.city.cfg.juns,D.1.city.cfg.ags,D.1.city.cfg.per,D.1.city.cfg.cap,D.1.city.cfg.hold,D.1.city.cfg.lock,D.1.city.ref,D.1.city.now,D.1.city.desks,D.1.city.sigs,D.1.city.svcs,D.1.city.stuck,D.1.city.views,D.1.sess,y1.2.2.2.2.2.2.2.2.2.2.2.2.2.2++([D.2.1])),⟨hDq.i,by rw[<- hy1.2.1,hrd];simp[h32];rfl,by (simp;omega)⟩,wk (Fa (Dx ((i1:Int)+1)) H1) [0,1]⟩
  refine Bp<|.H1 H1 ?_
  exact⟨by omega,(D.1.city.cfg.juns,D.1.city.cfg.ags,D.1.city.cfg.per,D.1.city.cfg.cap,D.1.city.cfg.hold,D.1.city.cfg.lock,D.1.city.ref,D.1.city.now,D.1.city.desks,D.1.city.sigs,D.1.city.svcs,D.1.city.stuck,D.1.city.views,D.1.sess,y1.2.2.2.2.2.2.2.2.2.2.2.2.2.2),⟨hDq.i,by rw[<- hy1.2.1,hrd];simp[h32];rfl,by (simp;omega)⟩,wk (Fa (Dx ((i1:Int)+1)) H1) [0,1]⟩
 refine Bu<|.R ?_
 refine B2 Dz 1 ?_
 exact .ret (fin Dz y1.2.2.2.2.2.2.2.2.2.2.2.2.2.2 (by have h:=hy1.2.1;rw[List.drop_eq_nil_of_le (by omega)] at h;rw[<- hN,hlm,<- hlt];simpa[Aae] using h))
def Abi:List P9:=(Ep (Vi c l hb hp hJ hA hl1 hl2 hS hl hE)).choose
theorem Ali:PP 22 [] [c.g,.mEv l] [] (.mOut (Abi c l hb hp hJ hA hl1 hl2 hS hl hE)):=(Ep (Vi c l hb hp hJ hA hl1 hl2 hS hl hE)).choose_spec.1
theorem Al4:(Abi c l hb hp hJ hA hl1 hl2 hS hl hE)=Aae (Gf c hb hp hJ hA hl1 hl2 hS) (l.take 400):=(Ep (Vi c l hb hp hJ hA hl1 hl2 hS hl hE)).choose_spec.2
end
section
variable {b:List Int}
theorem Am5 (h:By b) (k:Nat):By (b.take k):=fun x hx=>h x (Aq hx)
theorem Atj (h:By b) (k:Nat):By (b.drop k):=fun x hx=>h x (Ay hx)
theorem A3b (h:By b) (k:Nat) (v:Int):By (b.set k (IntKind.u8.wrap v)):=fun x hx=>by
 rcases Bi hx with h1 | h1
 ·exact h x h1
 rw[h1];exact Yf v _ List.mem_cons_self
theorem A1x {α:Type} (b:List α) (K:Nat) (h:K<b.length):(K4 b K ((b.drop (K+1)).take (b.length - (K+1)))).take (K+(b.length - (K+1)))=b.take K++b.drop (K+1):=by
 refine List.ext_getElem? fun i=>?_
 by_cases hi:i<K+(b.length - (K+1))
 ·rw[Ag hi,Jy]
  by_cases h1:i<K
  ·rw[if_neg (by omega),Au (by simp;omega),Ag h1]
  rw[if_pos (by simp;omega),Ao (by simp;omega)]
  rw[Ag (by omega)]
  congr 1
  simp
  omega
 rw[List.getElem?_take_eq_none (by omega),Ar (by simp;omega)]
section
variable (b:List Int) (ix:Int) (bv:Int) (hl:b.length<=1000)
include ix bv hl
theorem Ja:Ct 37 [.mY b,.li ix,.li bv] (fun d:List Int=>.mY d) (fun d=>d.length<=1001/\(By b->By d)):=by
 refine Ex Tryz.func37 ?_
 refine Bq ?_
 refine Bt Dz<|.seq ?_
 refine Bq ?_
 refine Br ?_ ?_<;>intro h13
 ·refine Bq ?_
  refine B2 Dz 1 ?_
  exact .ret (fin Dz ([IntKind.u8.wrap bv]) (by exact⟨by simp,fun _=>Yf _⟩))
 refine Bp ?_
 have hbp:1<=b.length:=by have:=List.length_pos_iff.2 h13;omega
 obtain⟨Y1,cY1,qY1⟩:=Ep (Ix ix b.length (by omega) (by omega))
 have hMv:=cY1
 have hMq:=qY1
 obtain⟨K,hK⟩:∃K:Nat,Y1=(K:Int):=⟨_,(Int.toNat_of_nonneg hMq.1).symm⟩
 rw[hK] at hMv hMq
 have hwk:=Dx ((K:Int)+1)
 obtain⟨e0,he0⟩:∃e,b[K]? = some e:=⟨_,Aa (by omega)⟩
 refine B8 Dz (hMv)<|.seq ?_
 refine B3 (fun K kk=>by simp[go_sem];(repeat refine aK ?_);refine .lo (Ki _ 4 (by omega) (by omega)) rfl (by simp[AV.cln,Fu]) ?_;simp[go_sem];exact kk)<|.block ?_
 refine Bq ?_
 refine Br ?_ ?_<;>intro h27
 ·obtain⟨e1,H1⟩:=gx b ((K:Int).toNat)
  refine B0 (Fa H1 he0) ?_
  refine Bt H1 ?_
  refine B2 he0 0 ?_
  refine Bz (Fj ?_);simp[go_sem,he0]
  exact⟨b.set K (IntKind.u8.wrap bv),by simp[go_sem,he0,List.map_set],by simp;omega,fun h=>A3b h _ _⟩
 refine Bq ?_
 refine Br ?_ ?_<;>intro h34
 ·refine C3 hwk ?_
  refine B2 Dz 0 ?_
  refine Bz (Fj ?_);simp[go_sem]
  rw[if_pos (by rw[Fr];simp)]
  refine⟨b.take K++b.drop (K+1),?_,by simp;omega,fun h=>(Am5 h _).app (Atj h _)⟩
  have hsp:=A1x (tY b) K (by simp;omega)
  simp only[A2] at hsp
  rw[hsp]
  simp[go_sem,List.map_take,List.map_drop]
 refine Bq ?_
 refine Br ?_ ?_<;>intro h44
 ·refine C3 hwk ?_
  refine B2 Dz 1 ?_
  refine Bz (Fj ?_);simp[go_sem]
  rw[if_pos (by omega)]
  refine⟨b.take K++[IntKind.u8.wrap bv]++b.drop K,?_,by simp;omega,fun h=>((Am5 h _).app (Yf _)).app (Atj h _)⟩
  have e1:List.take (b.length - K) (List.drop K (tY b))=List.drop K (tY b):=Bf (by simp)
  rw[e1]
  simp[go_sem,List.map_take,List.map_drop]
 refine B2 Dz 0 ?_
 refine Bt Dz ?_
 refine Bz (Fj ?_);simp[go_sem]
 exact⟨b.take K,by simp[go_sem,List.map_take],by simp;omega,fun h=>Am5 h _⟩
def G0:List Int:=(Ep (Ja b ix bv hl)).choose
theorem L4:PP 37 [] [.mY b,.li ix,.li bv] [] (.mY (G0 b ix bv hl)):=(Ep (Ja b ix bv hl)).choose_spec.1
theorem L6:(G0 b ix bv hl).length<=1001/\(By b->By (G0 b ix bv hl)):=(Ep (Ja b ix bv hl)).choose_spec.2
end
end
section
def Yk:List (List (Int×Int)):=[[(0,0),(0,0)],[(0,0),(1,0),(0,1),(1,1)],[(0,0),(1,0),(0,0)],[(0,0),(0,0),(1,0),(1,0),(0,1),(0,1),(1,1),(1,1)],[(1,0),(0,1),(0,2)],[(0,0)]]
theorem Uh (n:Int):Ct 52 [.li n] (fun d:List (Int×Int)=>.imm false 2 (Agm d)) (fun d=>d∈Yk):=by
 refine Ex Tryz.func52 ?_
 refine Bq<|.seq ?_
 refine Bq<|.block ?_
 refine Bq ?_
 refine Br ?_ ?_<;>intro h4
 ·refine Bq ?_
  refine B2 Dz 0 ?_
  exact .ret (fin Dz ([(0,0),(0,0)]) (by decide))
 refine Bq ?_
 refine Br ?_ ?_<;>intro h9
 ·refine Bq ?_
  refine B2 Dz 0 ?_
  exact .ret (fin Dz ([(0,0),(1,0),(0,1),(1,1)]) (by decide))
 refine Bq ?_
 refine Br ?_ ?_<;>intro h16
 ·refine Bq ?_
  refine B2 Dz 0 ?_
  exact .ret (fin Dz ([(0,0),(1,0),(0,0)]) (by decide))
 refine Bq ?_
 refine Br ?_ ?_<;>intro h22
 ·refine Bq ?_
  refine B2 Dz 0 ?_
  exact .ret (fin Dz ([(0,0),(0,0),(1,0),(1,0),(0,1),(0,1),(1,1),(1,1)]) (by decide))
 refine Bq ?_
 refine Br ?_ ?_<;>intro h33
 ·refine Bq ?_
  refine B2 Dz 0 ?_
  exact .ret (fin Dz ([(1,0),(0,1),(0,2)]) (by decide))
 refine Bp<|.R ?_
 refine B2 Dz 0 ?_
 exact .ret (fin Dz ([(0,0)]) (by decide))
variable {l:List (Int×Int)}
theorem Asm (h:l∈Yk):1<=l.length/\l.length<=8:=by
 revert l;decide
def Awc (l:List (Int×Int)) (x:Bool) (i k:Nat):Bool:=i != k&&((l.getD i (0,0)).1 == (l.getD k (0,0)).1||(l.getD i (0,0)).2 != (l.getD k (0,0)).2||x&&(i+k) % 2 == 1)
def Xm (l:List (Int×Int)) (x:Bool) (i:Nat):Nat->Int
 | 0=>0
 | k+1=>Xm l x i k+if Awc l x i k then 2 ^ k else 0
def Zt (l:List (Int×Int)) (ps:List F6):Prop:=∀(i:Nat) (p:F6),ps[i]? = some p->∃s,l[i]? = some s/\p.ring=s.1/\p.grp=s.2/\(1<=p.mi/\p.mi<=3)/\(1<=p.ye/\p.ye<=2)/\(0<=p.re/\p.re<=2)/\((p.wa=0/\p.cl=0)\/(1<=p.wa/\p.wa<=2/\1<=p.cl/\p.cl<=2))/\p.mi<=p.ma/\p.wa+p.cl<=p.ma/\p.ma<=7
def Avi (j:F9):Prop:=∃s,s∈Yk/\∃x:Bool,Zt s j.phs/\j.phs.length=s.length/\j.con=((List.range s.length).map fun t=>Xm s x t s.length)/\0<=j.start/\j.start<=2
theorem Ajo {S:List (Int×Int)} {i k:Nat} {s t:Int×Int} {x:Int} (hs:S[i]? = some s) (ht:S[k]? = some t) (hi:i<8) (hk:k<8):Awc S (x == 3) i k=true<->(¬(i:Int)=(k:Int)/\((s.1=t.1\/¬s.2=t.2)\/x=3/\(IntKind.i64.wrap ((i:Int)+(k:Int))).tmod 2=1)):=by
 have hm:(IntKind.i64.wrap ((i:Int)+(k:Int))).tmod 2=(((i+k) % 2:Nat):Int):=by
  rw[show IntKind.i64.wrap ((i:Int)+(k:Int))=Int.ofNat (i+k) from Dx _]
  rfl
 rw[hm]
 unfold Awc
 rw[Ad,Ad,hs,ht]
 simp only[Bh,Ah,Bool.or_eq_true,bne_iff_ne,beq_iff_eq,ne_eq]
 constructor
 ·rintro⟨h1,h2⟩
  exact⟨by omega,h2.imp id fun h=>⟨h.1,by omega⟩⟩
 rintro⟨h1,h2⟩
 exact⟨by omega,h2.imp id fun h=>⟨h.1,by omega⟩⟩
theorem Zt.app {ps:List F6} {i:Nat} {s:Int×Int} {p:F6} (h:Zt l ps) (hl:ps.length=i) (hs:l[i]? = some s) (h1:p.ring=s.1) (h2:p.grp=s.2) (h3:1<=p.mi/\p.mi<=3) (h4:1<=p.ye/\p.ye<=2) (h5:0<=p.re/\p.re<=2) (h6:(p.wa=0/\p.cl=0)\/(1<=p.wa/\p.wa<=2/\1<=p.cl/\p.cl<=2)) (h7:p.mi<=p.ma) (h8:p.wa+p.cl<=p.ma) (h9:p.ma<=7):Zt l (ps++[p]):=by
 intro k q hq
 by_cases hk:k<ps.length
 ·rw[Au hk] at hq;exact h k q hq
 rw[Ao (by omega)] at hq
 have hk2:k=i:=by
  have:=(Ab.1 hq).1
  simp at this;omega
 subst hk2
 rw[hl,Nat.sub_self] at hq
 simp at hq
 subst hq
 exact⟨s,hs,h1,h2,h3,h4,h5,h6,h7,h8,h9⟩
theorem A4u {k:Nat} (h:k<8):(2:Int) ^ k<=128:=by
 have:∀k:Fin 8,(2:Int) ^ k.val<=128:=by decide
 exact this ⟨k,h⟩
theorem A4m {k:Nat} (h:k<8):IntKind.i64.wrap (2 ^ min (IntKind.u64.wrap (k:Int)).toNat 64)=2 ^ k:=by
 have:∀k:Fin 8,IntKind.i64.wrap (2 ^ min (IntKind.u64.wrap (k.val:Int)).toNat 64)=2 ^ k.val:=by decide
 exact this ⟨k,h⟩
theorem Agp (l:List (Int×Int)) (x:Bool) (i:Nat):∀k,0<=Xm l x i k/\Xm l x i k<2 ^ k
 | 0=>by simp[Xm]
 | k+1=>by
  have:=Agp l x i k
  rw[Xm,Int.pow_succ]
  split<;>omega
theorem M6 (k:E6) (h:k.l.length<=300) (h0:0<=k.pos):Cx 27 [.box 84 (k.a false)] [.ptr 0 0] (fun d:F9×E6=>[.box 84 (d.2.a false)]) (fun d=>d.1.g) (fun d=>d.2.l=k.l/\(0<=d.2.pos/\∀L,k.l=L->Th k.pos L 1 d.2.pos)/\Avi d.1):=by
 refine U3 Tryz.func27 ?_
 refine Bq ?_
 obtain⟨D1,hD1,hd1⟩:=Dw k 6 (by assumption) (by assumption) (by omega) (by omega)
 have hl1:D1.2.l.length<=300:=by rw[hd1.1];assumption
 have hp1:0<=D1.2.pos:=by omega
 obtain⟨Y1,cY1,qY1⟩:=Ep (Uh D1.1)
 have hSq:=qY1
 have hSv:=cY1
 generalize Y1=S at hSq hSv
 have hSl:=Asm hSq
 refine B3 (fun K kk=>by simp[go_sem];refine .o [0] (hD1) ?_;simp[go_sem];refine .l (hSv) ?_;simp[go_sem];exact kk) ?_
 obtain⟨D2,hD2,hd2⟩:=Dw D1.2 3 (by assumption) (by assumption) (by omega) (by omega)
 have hl2:D2.2.l.length<=300:=by rw[hd2.1];assumption
 have hp2:0<=D2.2.pos:=by omega
 refine Dc Dz [0] hD2<|.seq ?_
 refine Bq<|.block ?_
 refine Cl 2 0 124 8 (by decide) rfl rfl ?_
 simp[go_sem,-Prod.exists]
 refine Bs S.length (fun i1 (y1:(List Int)×Int×(List F6))=>⟨[(0,.ptr 0 0),(2,.ptr 1 0),(4,.ptr 2 0),(20,.imm false 2 (Agm S)),(21,.li S.length),(22,.li i1)],[.box 84 [.mI y1.1,.li y1.2.1],.box 88 [.nil 8,.nil 1,.li 0],.box 88 [.own 3 y1.2.2.length,.nil 1,.li D2.1],.row 124 8 false false (R2 y1.2.2)]⟩) (fun i1 y1=>y1.1=k.l/\(0<=y1.2.1/\D1.2.pos<=y1.2.1)/\y1.2.2.length=i1/\Zt S y1.2.2) (D2.2.l,D2.2.pos,[]) (wk Dz [0,1,2,3]) (⟨by rw[hd2.1,hd1.1],⟨hp2,hd2.2.1.1⟩,rfl,fun i p h=>by simp at h⟩) fun i1 y1 hi1 hy1=>?_
 refine Bq<|.seq ?_
 refine Br ?_ ?_<;>intro h23
 ·refine Bp<|.seq<|.block ?_
  obtain⟨e1,H1⟩:=gx S i1
  refine Bt H1 ?_
  have hyl:(⟨y1.1,y1.2.1⟩:E6).l.length<=300:=by show y1.1.length<=300;rw[hy1.1];exact h
  have hyp:0<=(⟨y1.1,y1.2.1⟩:E6).pos:=hy1.2.1.1
  have hyn:=hy1.2.2.1
  obtain⟨D3,hD3,hd3⟩:=Ej ⟨y1.1,y1.2.1⟩ 1 3 (by assumption) (by assumption) (by omega) (by omega) (by omega)
  have hl3:D3.2.l.length<=300:=by rw[hd3.1];assumption
  have hp3:0<=D3.2.pos:=by omega
  obtain⟨D4,hD4,hd4⟩:=Ej D3.2 1 2 (by assumption) (by assumption) (by omega) (by omega) (by omega)
  have hl4:D4.2.l.length<=300:=by rw[hd4.1];assumption
  have hp4:0<=D4.2.pos:=by omega
  obtain⟨D5,hD5,hd5⟩:=Dw D4.2 3 (by assumption) (by assumption) (by omega) (by omega)
  have hl5:D5.2.l.length<=300:=by rw[hd5.1];assumption
  have hp5:0<=D5.2.pos:=by omega
  refine Cy (fun K kk=>by simp[go_sem,H1];(repeat refine aK ?_);refine .o [0] (hD3) ?_;simp[go_sem,H1];refine .o [0] (hD4) ?_;simp[go_sem,H1];refine .o [0] (hD5) ?_;simp[go_sem,H1];exact kk)<|.seq ?_
  obtain⟨D6,hD6,hd6⟩:=Dw D5.2 3 (by assumption) (by assumption) (by omega) (by omega)
  have hl6:D6.2.l.length<=300:=by rw[hd6.1];assumption
  have hp6:0<=D6.2.pos:=by omega
  refine Dc H1 [0] hD6 ?_
  refine Br ?_ ?_<;>intro h39
  ·obtain⟨D7,hD7,hd7⟩:=Ej D6.2 1 2 (by assumption) (by assumption) (by omega) (by omega) (by omega)
   have hl7:D7.2.l.length<=300:=by rw[hd7.1];assumption
   have hp7:0<=D7.2.pos:=by omega
   obtain⟨D8,hD8,hd8⟩:=Ej D7.2 1 2 (by assumption) (by assumption) (by omega) (by omega) (by omega)
   have hl8:D8.2.l.length<=300:=by rw[hd8.1];assumption
   have hp8:0<=D8.2.pos:=by omega
   have hw1:=Dx (D7.1+D8.1)
   obtain⟨MX,hMX⟩:∃MX,(if D3.1<D7.1+D8.1 then D7.1+D8.1 else D3.1)=MX:=⟨_,rfl⟩
   have hmb:D3.1<=MX/\D7.1+D8.1<=MX/\MX<=4:=by rw[<- hMX];split<;>omega
   refine Ck (fun K kk=>by simp[go_sem,H1,hw1];refine .o [0] (hD7) ?_;simp[go_sem,H1,hw1];refine .o [0] (hD8) ?_;simp[go_sem,H1,hw1];exact kk) ?_
   obtain⟨D9,hD9,hd9⟩:=Dw D8.2 4 (by assumption) (by assumption) (by omega) (by omega)
   have hl9:D9.2.l.length<=300:=by rw[hd9.1];assumption
   have hp9:0<=D9.2.pos:=by omega
   have hw2:=Dx (MX+D9.1)
   refine Cy (fun K kk=>by simp[go_sem,H1,hw1,hMX,hw2];refine .o [0] (hD9) ?_;simp[go_sem,H1,hw1,hMX,hw2];exact kk) ?_
   refine B0 H1 ?_
   refine B0 H1 ?_
   exact⟨by omega,(D9.2.l,D9.2.pos,y1.2.2++[⟨e1.1,e1.2,D3.1,MX+D9.1,D4.1,D5.1,D7.1,D8.1⟩]),⟨by rw[hd9.1,hd8.1,hd7.1,hd6.1,hd5.1,hd4.1,hd3.1];exact hy1.1,⟨hp9,by dsimp only;have:=hy1.2.1.2;dsimp only at *;omega⟩,by simp;omega,Zt.app hy1.2.2.2 hyn H1 rfl rfl (by dsimp only;omega) (by dsimp only;omega) (by dsimp only;omega) (by dsimp only;omega) (by dsimp only;omega) (by dsimp only;omega) (by dsimp only;omega)⟩,wk (Fa (Dx ((i1:Int)+1)) H1) [0,1,2,3]⟩
  have hw1:IntKind.i64.wrap 0=0:=by decide
  obtain⟨MX,hMX⟩:∃MX,(if D3.1<0 then 0 else D3.1)=MX:=⟨_,rfl⟩
  have hmb:D3.1<=MX/\0<=MX/\MX<=4:=by rw[<- hMX];split<;>omega
  refine Bp ?_
  obtain⟨D9,hD9,hd9⟩:=Dw D6.2 4 (by assumption) (by assumption) (by omega) (by omega)
  have hl9:D9.2.l.length<=300:=by rw[hd9.1];assumption
  have hp9:0<=D9.2.pos:=by omega
  have hw2:=Dx (MX+D9.1)
  refine Cy (fun K kk=>by simp[go_sem,H1,hw1,hMX,hw2];refine .o [0] (hD9) ?_;simp[go_sem,H1,hw1,hMX,hw2];exact kk) ?_
  refine B0 H1 ?_
  refine B0 H1 ?_
  exact⟨by omega,(D9.2.l,D9.2.pos,y1.2.2++[⟨e1.1,e1.2,D3.1,MX+D9.1,D4.1,D5.1,0,0⟩]),⟨by rw[hd9.1,hd6.1,hd5.1,hd4.1,hd3.1];exact hy1.1,⟨hp9,by dsimp only;have:=hy1.2.1.2;dsimp only at *;omega⟩,by simp;omega,Zt.app hy1.2.2.2 hyn H1 rfl rfl (by dsimp only;omega) (by dsimp only;omega) (by dsimp only;omega) (by dsimp only;omega) (by dsimp only;omega) (by dsimp only;omega) (by dsimp only;omega)⟩,wk (Fa (Dx ((i1:Int)+1)) H1) [0,1,2,3]⟩
 refine Bu ?_
 have hyl:(⟨y1.1,y1.2.1⟩:E6).l.length<=300:=by show y1.1.length<=300;rw[hy1.1];exact h
 have hyp:0<=(⟨y1.1,y1.2.1⟩:E6).pos:=hy1.2.1.1
 have hyn:=hy1.2.2.1
 obtain⟨D10,hD10,hd10⟩:=Dw ⟨y1.1,y1.2.1⟩ 4 (by assumption) (by assumption) (by omega) (by omega)
 have hl10:D10.2.l.length<=300:=by rw[hd10.1];assumption
 have hp10:0<=D10.2.pos:=by omega
 have hn8:y1.2.2.length<=8:=by omega
 refine Dc Dz [0] hD10<|.seq ?_
 refine Bq<|.block ?_
 refine Cl 2 1 3 1 (by decide) rfl rfl ?_
 simp[go_sem,-Prod.exists]
 refine Bs y1.2.2.length (fun i2 (y2:(List F6)×(List Int))=>⟨[(2,.ptr 1 0),(4,.ptr 2 0),(8,.lb ((D10.1:Int) == 3)),(69,.own 3 y2.1.length),(70,.li y1.2.2.length),(71,.li i2)],[.box 84 [.mI D10.2.l,.li D10.2.pos],.box 88 [.nil 8,.nil 1,.li 0],.box 88 [.own 3 y2.1.length,.own 4 y2.2.length,.li D2.1],.row 124 8 false false (R2 y2.1),.row 3 1 false false (tI y2.2)]⟩) (fun i2 y2=>y2.1=y1.2.2/\y2.2.length=i2/\y2.2=(List.range i2).map fun t=>Xm S (D10.1 == 3) t y1.2.2.length) (y1.2.2,[]) (wk Dz [0,1,2,3,4]) (⟨rfl,rfl,rfl⟩) fun i2 y2 hi2 hy2=>?_
 refine Bq<|.seq ?_
 refine Br ?_ ?_<;>intro h72
 ·refine Bp<|.seq<|.block ?_
  have hl2:=hy2.2.1
  have hy21:y2.1.length=y1.2.2.length:=by rw[hy2.1]
  obtain⟨e2,H2⟩:=gx y2.1 i2
  refine Bt H2 ?_
  refine Bt H2<|.seq ?_
  refine Bt H2<|.block ?_
  refine Bs y2.1.length (fun i3 (y3:Int)=>⟨[(2,.ptr 1 0),(4,.ptr 2 0),(8,.lb ((D10.1:Int) == 3)),(9,.li i2),(10,.ptr 5 0),(11,.li y3),(69,.own 3 y2.1.length),(70,.li y1.2.2.length),(71,.li i2),(77,.own 3 y2.1.length),(78,.li y2.1.length),(79,.li i3)],[.box 84 [.mI D10.2.l,.li D10.2.pos],.box 88 [.nil 8,.nil 1,.li 0],.box 88 [.own 3 y2.1.length,.own 4 y2.2.length,.li D2.1],.row 124 8 false false (R2 y2.1),.row 3 1 false false (tI y2.2),.box 124 (e2.a false)]⟩) (fun i3 y3=>y3=Xm S (D10.1 == 3) i2 i3) (0) (wk H2 [0,1,2,3,4,5]) (rfl) fun i3 y3 hi3 hy3=>?_
  refine Bt H2<|.seq ?_
  refine Br ?_ ?_<;>intro h80
  ·refine Bp<|.seq<|.block ?_
   obtain⟨e3,H3⟩:=gx y2.1 i3
   refine Bt (Fa H2 H3) ?_
   refine Bt (Fa H2 H3) ?_
   refine Br ?_ ?_<;>intro h110
   ·have hw3:=A4m (k:=i3) (by omega)
    have hw4:=Dx (y3+2 ^ i3) (by have:=Agp S (D10.1 == 3) i2 i3;have:=A4u (k:=i3) (by omega);omega) (by have:=Agp S (D10.1 == 3) i2 i3;have:=A4u (k:=i3) (by omega);omega)
    refine B0 (Tf H2 H3 hw3 hw4) ?_
    refine B0 (Fa H2 H3) ?_
    refine⟨by omega,((y3+2 ^ i3)),?_,wk (Hq (Dx ((i3:Int)+1)) H2 H3) [0,1,2,3,4,5]⟩
    obtain⟨s,hs,hs1,hs2,_⟩:=hy1.2.2.2 i2 e2 (by rw[<- hy2.1];exact H2);obtain⟨t,ht,ht1,ht2,_⟩:=hy1.2.2.2 i3 e3 (by rw[<- hy2.1];exact H3);rw[Xm,if_pos ((Ajo hs ht (by omega) (by omega)).2 (by rw[<- hs1,<- ht1,<- hs2,<- ht2];exact h110)),hy3]
   refine Bp<|.H1 (Fa H2 H3) ?_
   refine⟨by omega,(y3),?_,wk (Hq (Dx ((i3:Int)+1)) H2 H3) [0,1,2,3,4,5]⟩
   obtain⟨s,hs,hs1,hs2,_⟩:=hy1.2.2.2 i2 e2 (by rw[<- hy2.1];exact H2);obtain⟨t,ht,ht1,ht2,_⟩:=hy1.2.2.2 i3 e3 (by rw[<- hy2.1];exact H3);rw[Xm,if_neg (fun hb=>by obtain⟨ha,hc⟩:=(Ajo hs ht (by omega) (by omega)).1 hb;rw[<- hs1,<- ht1,<- hs2,<- ht2] at hc;have hh:=h110 ha;rcases hc with (hc | hc) | hc;exact hh.1.1 hc;exact hc hh.1.2;exact hh.2 hc.1 hc.2),hy3,Int.add_zero]
  refine Bu<|.H1 H2 ?_
  refine B0 H2 ?_
  exact⟨by omega,(y2.1,y2.2++([y3])),⟨hy2.1,by simp;omega,by have h3:i3=y1.2.2.length:=(by omega);rw[hy2.2.2,List.range_succ,List.map_append,hy3,h3];rfl⟩,wk (Fa (Dx ((i2:Int)+1)) H2) [0,1,2,3,4]⟩
 refine Bu<|.R ?_
 refine B2 Dz 3 ?_
 refine B2 Dz 4 ?_
 exact .ret ⟨(⟨y2.1,y2.2,D2.1⟩,D10.2),rW Dz [0],⟨by rw[hd10.1];exact hy1.1,⟨hp10,(Th.trans (hd1.2.1.2 k.l rfl) (Th.zero (Int.le_trans hy1.2.1.2 hd10.2.1.1))).le (by decide)⟩,S,hSq,(D10.1 == 3),by dsimp only;rw[hy2.1];exact hy1.2.2.2,by dsimp only;rw[hy2.1];omega,by dsimp only;rw[hy2.2.2,show i2=S.length from by omega,show y1.2.2.length=S.length from by omega],by dsimp only;omega,by dsimp only;omega⟩⟩
end
def AgQ (ri:Int) (a:G2):Prop:=a.sec.length=8/\a.lims.length=4/\(∀x∈a.lims,0<=x/\x<=3)/\a.ri=ri/\a.cls=3/\(1<=a.rq/\a.rq<=3)/\(1<=a.se/\a.se<=2)/\(1<=a.ra/\a.ra<=3)/\a.ra<=a.bu/\a.bu<=7/\By a.sec
structure Afc (ri:Int) (c:E5):Prop where
  per:1<=c.per/\c.per<=4
  cap:0<=c.cap/\c.cap<=3
  hold:1<=c.hold/\c.hold<=3
  lock:0<=c.lock/\c.lock<=4
  nj:1<=c.juns.length/\c.juns.length<=2
  na:1<=c.ags.length/\c.ags.length<=3
  jun:∀j∈c.juns,Avi j
  ag:∀a∈c.ags,AgQ ri a
theorem ap1 {α:Type} {p:α->Prop} {l:List α} {x:α} (h:∀y∈l,p y) (hx:p x):∀y∈l++[x],p y:=fun y hy=>by
 rcases A0.1 hy with h1 | h1
 ·exact h y h1
 rw[An.1 h1];exact hx
theorem Jb (k:E6) (ri:Int) (h:k.l.length<=300) (h0:0<=k.pos):Cx 11 [.box 84 (k.a false)] [.ptr 0 0,.li ri] (fun d:E5×E6=>[.box 84 (d.2.a false)]) (fun d=>d.1.g) (fun d=>d.2.l=k.l/\(0<=d.2.pos/\(k.l=[]->d.1.ags.length=1/\∀a∈d.1.ags,a.se=1)/\∀L,k.l=L->Th k.pos L 15 d.2.pos)/\Afc ri d.1):=by
 refine U3 Tryz.func11 ?_
 refine Bq ?_
 obtain⟨D1,hD1,hd1⟩:=Ej k 1 4 (by assumption) (by assumption) (by omega) (by omega) (by omega)
 have hl1:D1.2.l.length<=300:=by rw[hd1.1];assumption
 have hp1:0<=D1.2.pos:=by omega
 obtain⟨D2,hD2,hd2⟩:=Dw D1.2 4 (by assumption) (by assumption) (by omega) (by omega)
 have hl2:D2.2.l.length<=300:=by rw[hd2.1];assumption
 have hp2:0<=D2.2.pos:=by omega
 obtain⟨D3,hD3,hd3⟩:=Ej D2.2 1 3 (by assumption) (by assumption) (by omega) (by omega) (by omega)
 have hl3:D3.2.l.length<=300:=by rw[hd3.1];assumption
 have hp3:0<=D3.2.pos:=by omega
 obtain⟨D4,hD4,hd4⟩:=Dw D3.2 5 (by assumption) (by assumption) (by omega) (by omega)
 have hl4:D4.2.l.length<=300:=by rw[hd4.1];assumption
 have hp4:0<=D4.2.pos:=by omega
 refine B3 (fun K kk=>by simp[go_sem];refine .o [0] (hD1) ?_;simp[go_sem];refine .o [0] (hD2) ?_;simp[go_sem];refine .o [0] (hD3) ?_;simp[go_sem];refine .o [0] (hD4) ?_;simp[go_sem];exact kk)<|.seq ?_
 obtain⟨D5,hD5,hd5⟩:=Dw D4.2 2 (by assumption) (by assumption) (by omega) (by omega)
 have hl5:D5.2.l.length<=300:=by rw[hd5.1];assumption
 have hp5:0<=D5.2.pos:=by omega
 have hw5:=Dx (1+D5.1)
 refine Dc hw5 [0] hD5<|.block ?_
 refine Cl 2 0 88 3 (by decide) rfl rfl ?_
 simp[go_sem,-Prod.exists]
 refine Cj (fun (y1:(List Int)×Int×(List F9)×Int)=>⟨[(0,.ptr 0 0),(1,.li ri),(4,.ptr 1 0),(5,.ptr 2 0),(6,.li y1.2.2.2)],[.box 84 [.mI y1.1,.li y1.2.1],.box 30 [.nil 3,.nil 8,.li 0,.li 0,.li 0,.li 0],.box 30 [.own 3 y1.2.2.1.length,.nil 8,.li D1.1,.li D2.1,.li D3.1,.li D4.1],.row 88 3 false false (Aab y1.2.2.1)]⟩) (fun y1=>y1.1=k.l/\(0<=y1.2.1/\∀L,k.l=L->Th k.pos L (if y1.2.2.1.length=0 then 5 else 6) y1.2.1)/\0<=y1.2.2.2/\(y1.2.2.1.length:Int)+y1.2.2.2=1+D5.1/\∀j∈y1.2.2.1,Avi j) (fun y1=>y1.2.2.2.toNat) (D5.2.l,D5.2.pos,[],(1+D5.1)) (wk Dz [0,1,2,3]) (⟨by rw[hd5.1,hd4.1,hd3.1,hd2.1,hd1.1],⟨hp5,fun L e=>((((hd1.2.1.2 L e).trans (hd2.2.1.2 L (hd1.1.trans e))).trans (hd3.2.1.2 L (hd2.1.trans (hd1.1.trans e)))).trans (hd4.2.1.2 L (by rw[hd3.1,hd2.1,hd1.1,e]))).trans (hd5.2.1.2 L (by rw[hd4.1,hd3.1,hd2.1,hd1.1,e]))⟩,by dsimp only;omega,by simp,fun j hj=>by cases hj⟩) fun y1 hy1=>?_
 refine Ca<|.R ?_
 refine Br ?_ ?_<;>intro h21
 ·refine Bp<|.seq<|.block ?_
  have hyl:(⟨y1.1,y1.2.1⟩:E6).l.length<=300:=by show y1.1.length<=300;rw[hy1.1];exact h
  have hyp:0<=(⟨y1.1,y1.2.1⟩:E6).pos:=hy1.2.1.1
  have hyn:=hy1.2.2
  obtain⟨J,hJ,hj⟩:=M6 ⟨y1.1,y1.2.1⟩ hyl hyp
  refine Dg (fun K kk=>by simp[go_sem];refine .o [0] (hJ) ?_;simp[go_sem];(repeat first | exact kk | refine aK ?_)) ?_
  have hw1:=Dx (y1.2.2.2 - 1:Int)
  refine B0 hw1 ?_
  refine⟨(J.2.l,J.2.pos,y1.2.2.1++([J.1]),(y1.2.2.2 - 1)),?_,?_,wQ [0,1,2,3] ?_ ?_⟩
  ·(dsimp only;omega)
  ·exact⟨by rw[hj.1];exact hy1.1,⟨hj.2.1.1,fun L e=>((hy1.2.1.2 L e).trans (hj.2.1.2 L (hy1.1.trans e))).le (by simp only[Bo,A6];(repeat' split)<;>omega)⟩,by dsimp only;omega,by simp;omega,ap1 hy1.2.2.2.2 hj.2.2⟩
  all_goals simp[go_sem,hw1]
 refine Bu<|.seq ?_
 have hyl:(⟨y1.1,y1.2.1⟩:E6).l.length<=300:=by show y1.1.length<=300;rw[hy1.1];exact h
 have hyp:0<=(⟨y1.1,y1.2.1⟩:E6).pos:=hy1.2.1.1
 obtain⟨D6,hD6,hd6⟩:=Dw ⟨y1.1,y1.2.1⟩ 3 (by assumption) (by assumption) (by omega) (by omega)
 have hl6:D6.2.l.length<=300:=by rw[hd6.1];assumption
 have hp6:0<=D6.2.pos:=by omega
 have hw6:=Dx (1+D6.1)
 refine Dc hw6 [0] hD6<|.block ?_
 refine Cl 2 1 60 8 (by decide) rfl rfl ?_
 simp[go_sem,-Prod.exists]
 refine Bs ((1+D6.1).toNat) (fun i2 (y2:(List Int)×Int×(List F9)×(List G2))=>⟨[(0,.ptr 0 0),(1,.li ri),(4,.ptr 1 0),(5,.ptr 2 0),(33,.li (1+D6.1)),(34,.li i2)],[.box 84 [.mI y2.1,.li y2.2.1],.box 30 [.nil 3,.nil 8,.li 0,.li 0,.li 0,.li 0],.box 30 [.own 3 y2.2.2.1.length,.own 4 y2.2.2.2.length,.li D1.1,.li D2.1,.li D3.1,.li D4.1],.row 88 3 false false (Aab y2.2.2.1),.row 60 8 false false (tAg y2.2.2.2)]⟩) (fun i2 y2=>y2.1=k.l/\(0<=y2.2.1/\∀L,k.l=L->Th k.pos L (if i2=0 then 7 else 15) y2.2.1)/\y2.2.2.1=y1.2.2.1/\(y2.2.2.2.length=i2/\(k.l=[]->∀a∈y2.2.2.2,a.se=1))/\∀a∈y2.2.2.2,AgQ ri a) (D6.2.l,D6.2.pos,y1.2.2.1,[]) (wk Dz [0,1,2,3,4]) (⟨by rw[hd6.1];exact hy1.1,⟨hp6,fun L e=>((hy1.2.1.2 L e).trans (hd6.2.1.2 L (hy1.1.trans e))).le (by rw[if_pos rfl,if_neg (by omega)];decide)⟩,rfl,⟨rfl,fun _ a ha=>by cases ha⟩,fun a ha=>by cases ha⟩) fun i2 y2 hi2 hy2=>?_
 refine Bq<|.seq ?_
 refine Br ?_ ?_<;>intro h35
 ·refine Bp<|.seq<|.block<|.R ?_
  have hyl:(⟨y2.1,y2.2.1⟩:E6).l.length<=300:=by show y2.1.length<=300;rw[hy2.1];exact h
  have hyp:0<=(⟨y2.1,y2.2.1⟩:E6).pos:=hy2.2.1.1
  obtain⟨G,hG,hg⟩:=Nt ⟨y2.1,y2.2.1⟩ i2 ri hyl hyp
  refine Dg (fun K kk=>by simp[go_sem];refine .o [0] (hG) ?_;simp[go_sem];(repeat first | exact kk | refine aK ?_)) ?_
  refine Ci ?_
  exact⟨by omega,(G.2.l,G.2.pos,y2.2.2.1,y2.2.2.2++([G.1])),⟨by rw[hg.1];exact hy2.1,⟨hg.2.1.1,fun L e=>((hy2.2.1.2 L e).trans (hg.2.1.2.2 L (hy2.1.trans e))).le (by (repeat' split)<;>omega)⟩,hy2.2.2.1,⟨by simp;omega,fun e=>ap1 (hy2.2.2.2.1.2 e) (hg.2.1.2.1 (hy2.1.trans e))⟩,ap1 hy2.2.2.2.2 hg.2.2⟩,wk (Dx ((i2:Int)+1)) [0,1,2,3,4]⟩
 refine Bu<|.R ?_
 refine B2 Dz 3 ?_
 refine B2 Dz 4 ?_
 exact .ret ⟨(⟨y2.2.2.1,y2.2.2.2,D1.1,D2.1,D3.1,D4.1⟩,⟨y2.1,y2.2.1⟩),rW Dz [0],⟨hy2.1,⟨hy2.2.1.1,fun e=>⟨by have:=hd6.2.2.2.2 (hy1.1.trans e);dsimp only;omega,hy2.2.2.2.1.2 e⟩,(hy2.2.1.2 k.l rfl).le (by rw[if_neg (by omega)];decide)⟩,⟨by dsimp only;omega,by dsimp only;omega,by dsimp only;omega,by dsimp only;omega,by dsimp only;rw[hy2.2.2.1];omega,by dsimp only;omega,by dsimp only;rw[hy2.2.2.1];exact hy1.2.2.2.2,hy2.2.2.2.2⟩⟩⟩
end Go.Proofs.YtkkimgjinbaemaaGreat
