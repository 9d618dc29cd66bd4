/- The walk. -/
import Derived.Test.YtkkimgjinbaemaaGreatKak
noncomputable section
namespace Go.Proofs.YtkkimgjinbaemaaGreat
open Go.RowKit
set_option linter.unusedVariables false
set_option linter.unusedSimpArgs false
set_option linter.defProp false
set_option linter.unusedSectionVars false
set_option maxRecDepth 100000
set_option maxHeartbeats 4000000
section
variable {x:Dy}
theorem A4z {P:Prop} {k:Int} (hd:Gg x) {ro:Jg×Int×Int} (h:ro.2.2=0->(∃bk,ro.1={ x.reg with bk:=bk }/\LvR k x.reg.bk bk)/\Iy x.reg.toks ro.2.1=true/\P) (h0:ro.2.2=0) :
 Gg ⟨ro.1,x.reqs,x.draws,x.aud⟩/\0<=ro.2.1/\ro.2.1<ro.1.toks.length/\ro.1.num=x.reg.num/\ro.1.ag=x.reg.ag:=by
 obtain⟨⟨bk,e,_⟩,hu,_⟩:=h h0
 have hr:=Agk hu
 obtain⟨r,s,c⟩:=ro
 dsimp only at e hr ⊢
 subst e
 exact⟨⟨⟨⟨hd.b.reg.sec,hd.b.reg.lims,hd.b.reg.toks,hd.b.reg.tsec,hd.b.reg.vehs⟩,hd.b.reqs,hd.b.legs,hd.b.draws,hd.b.draw,hd.b.aud⟩,hd.vehs,hd.reqs,hd.dr,hd.rq,hd.rl,hd.rk⟩,hr.1,hr.2,rfl,rfl⟩
theorem Arz (k v:Int):Hi (Jp k v):=by
 have h:=Na k v
 rw[h]
 simp[Hi]
theorem A4k {k now:Int} (h1:x.reqs.length<=1000) (h2:x.reg.toks.length<=1000000):Hi (Ii x k now h1 h2):=by
 have h:=Xy x k now h1 h2
 unfold Hi
 rw[h.1,h.2.1]
 exact⟨Ae _,h.2.2.1,Ae _⟩
structure OkR (x:Dy) (it:E8) (now:Int) (m:Ea) (y:Dy) (sl:Int):Prop where
  code:it.code=0
  srv:1<=it.kind/\it.kind<=12
  dec:∃h,Fd it.kind it.pay h=(m,0)
  kind:m.kind=it.kind
  args:∀a∈m.args,NB a
  op:∃h1 h2 r,Gi x.reg m now h1 h2=(r,sl,0)/\y=⟨r,x.reqs,x.draws,x.aud⟩
inductive Ab2 (cfg:E5) (x:Dy) (ses:Int) (it:E8) (now:Int):Dy×Ea×Int×Int->Prop
  | bad {c:Int}:c≠0->(c=it.code\/0<=c/\c<=99)->Ab2 cfg x ses it now (x,⟨0,[],[],[]⟩,-1,c)
  | reg {m:Ea} {y:Dy} {sl:Int} {R:Dy×Ea×Int}:OkR x it now m y sl->(m.kind=2\/m.kind=3\/m.kind=4\/m.kind=5)->(∃h1 h2 h3 h4 h5 h6 h7,Eo y m sl now h1 h2 h3 h4 h5 h6 h7=R)->Ab2 cfg x ses it now (R.1,R.2.1,-1,R.2.2)
  | ask {m:Ea} {y:Dy} {sl c:Int} {l:List Ew}:OkR x it now m y sl->(m.kind=6\/m.kind=7\/m.kind=8)->c≠0->(∃h1 h2 h3 h4 h5 h6 h7,Ia cfg y m sl now h1 h2 h3 h4 h5 h6 h7=(l,c))->Ab2 cfg x ses it now (y,⟨0,[],[],[]⟩,-1,c)
  | asked {m:Ea} {y:Dy} {sl v:Int} {l:List Ew}:OkR x it now m y sl->(m.kind=6\/m.kind=7\/m.kind=8)->(∃h1 h2 h3 h4 h5 h6 h7,Ia cfg y m sl now h1 h2 h3 h4 h5 h6 h7=(l,0))->m.args[0]? = some v->Ab2 cfg x ses it now (⟨y.reg,l,y.draws,y.aud⟩,Jp m.kind v,-1,0)
  | no {m:Ea} {y:Dy} {sl:Int}:OkR x it now m y sl->(m.kind=10\/m.kind=11)->Ab2 cfg x ses it now (y,⟨0,[],[],[]⟩,-1,8)
  | aud {m:Ea} {y:Dy} {sl v:Int} {l:List Bool}:OkR x it now m y sl->m.kind=10->m.args[0]? = some v->(l=y.aud\/0<=ses/\l=y.aud.set ses.toNat (v == 1))->Ab2 cfg x ses it now (⟨y.reg,y.reqs,y.draws,l⟩,Jp m.kind v,-1,0)
  | reset {m:Ea} {y:Dy} {sl v:Int}:OkR x it now m y sl->m.kind=11->m.args[0]? = some v->Ab2 cfg x ses it now (y,Jp m.kind v,v,0)
  | tell {m:Ea} {y:Dy} {sl:Int}:OkR x it now m y sl->(m.kind=1\/m.kind=9\/m.kind=12)->(h1:y.reqs.length<=1000)->(h2:y.reg.toks.length<=1000000)->Ab2 cfg x ses it now (y,Ii y m.kind now h1 h2,-1,0)
def Avj (cfg:E5) (x:Dy) (ses:Int) (it:E8) (now:Int) (d:Dy×Ea×F3×Int):Prop:=∃e,Ab2 cfg x ses it now e/\d.1=e.1/\d.2.2.1=⟨e.1.reg.num,it.kind,e.2.2.2⟩/\(e.2.2.2=0->d.2.1=e.2.1/\d.2.2.2=e.2.2.1)/\(e.2.2.2≠0->d.2.1=⟨15,[],[it.kind,e.2.2.2],[]⟩/\d.2.2.2 = -1)
def A08 (x:Dy) (y:Dy) (m:Ea):Prop:=Gg y/\y.aud.length=x.aud.length/\y.reg.num=x.reg.num/\y.reg.ag=x.reg.ag/\Hi m
theorem Gg.reqsI (h:Gg x) {d:List Ew×Int} (hl:d.1.length<=3/\(∀r∈d.1,r.legs.length<=1000000)/\(d.2=0->(d.1.length:Int)<=max 0 x.reg.ag.rq)/\(∀r∈d.1,Zs r)/\0<=d.2/\d.2<=99) (h0:d.2=0):Gg ⟨x.reg,d.1,x.draws,x.aud⟩:=⟨⟨h.b.reg,Ak hl.1 (by decide),hl.2.1,h.b.draws,h.b.draw,h.b.aud⟩,h.vehs,hl.1,h.dr,h.rq,hl.2.2.1 h0,hl.2.2.2.1⟩
theorem Gg.audI (h:Gg x) {l:List Bool} (hl:l.length=x.aud.length):Gg ⟨x.reg,x.reqs,x.draws,l⟩:=⟨⟨h.b.reg,h.b.reqs,h.b.legs,h.b.draws,h.b.draw,by have:=h.b.aud;dsimp only;omega⟩,h.vehs,h.reqs,h.dr,h.rq,h.rl,h.rk⟩
theorem E7.dull {P:Program} {f:FuncId} {σa:List Ob} {args:List AV} {ty k:Nat} {fr fz:Bool} {es:List (List T)} {res:AV} (h:E7 P f σa args [.row ty k fr fz es] res):E7 P f σa args [.row ty k false fz es] res :=
 ⟨h.1,fun E β us hn ho hβ r=>(h.2 E β us hn ho hβ r).mono fun e w' ⟨v,β',he,r'⟩=>⟨v,β',he,(r'.flag (id:=0) rfl (fun h=>Bool.noConfusion h) (fun h=>h)).1⟩⟩
theorem Aeb (cfg:E5) (x:Dy) (ses:Int) (it:E8) (now:Int) (hd:Gg x) (hp:it.pay.length<=1000):Cx 170 [.row 4 1 false false (tB x.aud)] [cfg.g,.agg [.li x.reg.num,.mY x.reg.ag.sec,.li x.reg.ag.ri,.li x.reg.ag.cls,.mI x.reg.ag.lims,.li x.reg.ag.rq,.li x.reg.ag.se,.li x.reg.ag.ra,.li x.reg.ag.bu,.mTok x.reg.toks,.mVeh x.reg.vehs,.li x.reg.bk.lv,.li x.reg.bk.ra,.li x.reg.bk.bu,.mReq x.reqs,.mYs x.draws,.own 0 x.aud.length],.li ses,it.g,.li now] (fun d:Dy×Ea×Int×Int=>[.row 4 1 false true (tB d.1.aud)]) (fun d=>.tup [d.1.g,d.2.1.g,.li d.2.2.1,.li d.2.2.2]) (fun d=>A08 x d.1 d.2.1/\Ab2 cfg x ses it now d):=by
 refine U3 Tryz.func170 ?_
 have hpM:it.pay.length<=1000000:=by omega
 have hv41:=Aco it.kind it.pay hpM
 have hqd:=(Pm it.kind it.pay hpM).1
 have hsh:=(Gm it.kind).2.2.2.2.2.2.2.2.2
 generalize hme:Fd it.kind it.pay hpM=mr at hv41 hqd
 refine Bq<|.seq ?_
 refine Bq ?_
 refine Br ?_ ?_<;>intro h25
 ·refine VX.D ?_
  refine B2 Dz 0 ?_
  exact .ret ⟨(x,⟨0,[],[],[]⟩,(-1),it.code),rW Dz [0],⟨⟨hd,rfl,rfl,rfl,Ai3⟩,.bad (by first | decide | omega) (.inl rfl)⟩⟩
 refine Bp<|.seq<|.L Dz (Yy it.kind) ?_
 refine Br ?_ ?_<;>intro h33
 ·refine Bq ?_
  refine B2 Dz 0 ?_
  exact .ret ⟨(x,⟨0,[],[],[]⟩,(-1),5),rW Dz [0],⟨⟨hd,rfl,rfl,rfl,Ai3⟩,.bad (by decide) (.inr (by decide))⟩⟩
 refine Bp<|.L Dz (hv41)<|.seq ?_
 refine Bq ?_
 refine Br ?_ ?_<;>intro h45
 ·refine Bq ?_
  refine B2 Dz 0 ?_
  exact .ret ⟨(x,⟨0,[],[],[]⟩,(-1),6),rW Dz [0],⟨⟨hd,rfl,rfl,rfl,Ai3⟩,.bad (by decide) (.inr (by decide))⟩⟩
 refine Bp ?_
 obtain⟨hk,hf1,hfl0,hft,hfd,hnb⟩:=hqd h45
 have hnn:∀a∈mr.1.args,0<=a:=fun a h=>(hnb a h).1
 have ht:mr.1.tok.length<=1000000:=by omega
 have hfl:mr.1.args.length<=1000:=hfl0
 have hvo:=Aeo x.reg mr.1 now hd.b.reg ht
 have hqo:=M3 x.reg mr.1 now hd.b.reg ht
 generalize hro:Gi x.reg mr.1 now hd.b.reg ht=ro at hvo hqo
 refine B8 Dz (hvo)<|.seq ?_
 refine Bq ?_
 refine Br ?_ ?_<;>intro h58
 ·refine Bq ?_
  refine B2 Dz 0 ?_
  exact .ret ⟨(x,⟨0,[],[],[]⟩,(-1),ro.2.2),rW Dz [0],⟨⟨hd,rfl,rfl,rfl,Ai3⟩,.bad (by first | decide | omega) (.inr hqo.2)⟩⟩
 refine Bp ?_
 obtain⟨hI,hs0,hs1,hnum,hag⟩:=A4z hd hqo.1 h58
 rw[<- hk] at hsh hf1
 have m1:mr.1.tok.length<=2000:=by omega
 have m2:mr.1.args.length<=2000:=by omega
 have m3:mr.1.data.length<=2000:=by omega
 have a2:mr.1.kind=2->3<=mr.1.args.length:=fun h=>by have:=hsh.1 h;omega
 have a3:mr.1.kind=3\/mr.1.kind=4\/mr.1.kind=5->1<=mr.1.args.length:=fun h=>by rcases h with h | h | h;(have:=hsh.2.2.2 (.inl h);omega);(have:=hsh.2.1 h;omega);(have:=hsh.2.2.2 (.inr (.inl h));omega)
 have a4:mr.1.kind=4->2<=mr.1.args.length:=fun h=>by have:=hsh.2.1 h;omega
 have k6:mr.1.kind=6->3<=mr.1.args.length:=fun h=>by have:=hsh.2.2.1 h;omega
 have hOk:OkR x it now mr.1 ⟨ro.1,x.reqs,x.draws,x.aud⟩ ro.2.1:=⟨by omega,by simp[X3] at h33;omega,⟨hpM,by rw[hme];exact Prod.ext rfl h45⟩,hk,hnb,⟨_,_,ro.1,by rw[hro];exact Prod.ext rfl (Prod.ext rfl h58),rfl⟩⟩
 refine Bq<|.seq ?_
 refine Bq<|.block ?_
 refine Cf (by rfl) fun K1 hK1=>?_
 simp[go_sem]
 refine hK1 _ ⟨_,_,_,_,_,_,_,_,rfl,.more (by decide) rfl rfl (.more (by decide) rfl rfl (.one (by decide) rfl rfl)),by decide,rfl,by simp[go_sem];rfl,by simp[go_sem];rfl,by simp[go_sem],?_⟩;clear hK1
 refine Br ?_ ?_<;>intro h66
 ·refine B2 Dz 0 ?_
  refine B8 Dz (Aew ⟨ro.1,x.reqs,x.draws,x.aud⟩ mr.1 ro.2.1 now hI m1 m2 m3 a2 a3 a4) ?_
  have hau:=(M5 ⟨ro.1,x.reqs,x.draws,x.aud⟩ mr.1 ro.2.1 now hI m1 m2 m3 a2 a3 a4).2.1
  refine C3 hau ?_
  exact .ret ⟨((Eo ⟨ro.1,x.reqs,x.draws,x.aud⟩ mr.1 ro.2.1 now hI m1 m2 m3 a2 a3 a4).1,(Eo ⟨ro.1,x.reqs,x.draws,x.aud⟩ mr.1 ro.2.1 now hI m1 m2 m3 a2 a3 a4).2.1,(-1),(Eo ⟨ro.1,x.reqs,x.draws,x.aud⟩ mr.1 ro.2.1 now hI m1 m2 m3 a2 a3 a4).2.2),rW hau [0],(by have hq:=M5 ⟨ro.1,x.reqs,x.draws,x.aud⟩ mr.1 ro.2.1 now hI m1 m2 m3 a2 a3 a4;exact⟨⟨hq.1,congrArg List.length hq.2.1,hq.2.2.1.trans hnum,hq.2.2.2.1.trans hag,hq.2.2.2.2.1⟩,.reg hOk (by omega) ⟨hI,m1,m2,m3,a2,a3,a4,rfl⟩⟩)⟩
 refine Cf (by rfl) fun K1 hK1=>?_
 simp[go_sem]
 refine hK1 _ ⟨_,_,_,_,_,_,_,_,rfl,.more (by decide) rfl rfl (.one (by decide) rfl rfl),by decide,rfl,by simp[go_sem];rfl,by simp[go_sem];rfl,by simp[go_sem],?_⟩;clear hK1
 refine Br ?_ ?_<;>intro h83
 ·have hk83:mr.1.kind=6\/mr.1.kind=7\/mr.1.kind=8:=by omega
  have ha1:1<=mr.1.args.length:=by rcases hk83 with h | h | h;(have:=k6 h;omega);(have:=hsh.2.2.2 (.inr (.inr (.inl h)));omega);(have:=hsh.2.2.2 (.inr (.inr (.inr (.inl h))));omega)
  refine B2 Dz 0 ?_
  refine B8 Dz (Aqj cfg ⟨ro.1,x.reqs,x.draws,x.aud⟩ mr.1 ro.2.1 now hI ha1 k6 hfl hnn hs0 hs1)<|.seq ?_
  refine Bq ?_
  refine Br ?_ ?_<;>intro h97
  ·refine Bq ?_
   exact .ret ⟨(⟨ro.1,x.reqs,x.draws,x.aud⟩,⟨0,[],[],[]⟩,(-1),(Ia cfg ⟨ro.1,x.reqs,x.draws,x.aud⟩ mr.1 ro.2.1 now hI ha1 k6 hfl hnn hs0 hs1).2),rW Dz [0],⟨⟨hI,rfl,hnum,hag,Ai3⟩,.ask hOk hk83 (by omega) ⟨hI,ha1,k6,hfl,hnn,hs0,hs1,rfl⟩⟩⟩
  refine Bp<|.R ?_
  obtain⟨e1,H1⟩:=gx mr.1.args 0
  refine Db H1 (Vq mr.1.kind e1) ?_
  exact .ret ⟨(⟨ro.1,(Ia cfg ⟨ro.1,x.reqs,x.draws,x.aud⟩ mr.1 ro.2.1 now hI ha1 k6 hfl hnn hs0 hs1).1,x.draws,x.aud⟩,(Jp mr.1.kind e1),(-1),0),rW H1 [0],⟨⟨hI.reqsI (Ag3 cfg ⟨ro.1,x.reqs,x.draws,x.aud⟩ mr.1 ro.2.1 now hI ha1 k6 hfl hnn hs0 hs1) h97,rfl,hnum,hag,Arz _ _⟩,.asked hOk hk83 ⟨hI,ha1,k6,hfl,hnn,hs0,hs1,Prod.ext rfl h97⟩ H1⟩⟩
 refine Bq ?_
 refine Br ?_ ?_<;>intro h111
 ·refine Ca ?_
  have ha1:1<=mr.1.args.length:=by have:=hsh.2.2.2 (.inr (.inr (.inr (.inr (.inl h111)))));omega
  obtain⟨e2,H2⟩:=gx mr.1.args 0
  refine Bt H2 ?_
  refine Br ?_ ?_<;>intro h117
  ·refine Bt H2 ?_
   refine B2 H2 0 ?_
   exact .ret ⟨(⟨ro.1,x.reqs,x.draws,x.aud⟩,⟨0,[],[],[]⟩,(-1),8),rW H2 [0],(by first | exact⟨⟨hI,rfl,hnum,hag,Arz _ _⟩,.reset hOk h146 (by assumption)⟩ | exact⟨⟨hI,rfl,hnum,hag,Ai3⟩,.no hOk (by omega)⟩)⟩
  refine Bp<|.seq<|.H H2 ?_
  refine Br ?_ ?_<;>intro h128
  ·obtain⟨e3,H3⟩:=gx x.aud ses.toNat
   refine VX.G1 (Fa H2 H3) ?_
   refine Db (Fa H2 H3) (Vq mr.1.kind e2) ?_
   refine B2 (Fa H2 H3) 0 ?_
   exact .ret ⟨(⟨ro.1,x.reqs,x.draws,(x.aud).set ses.toNat ((e2:Int) == 1)⟩,(Jp mr.1.kind e2),(-1),0),rW (Fa H2 H3) [0],⟨⟨hI.audI (by simp),by simp,hnum,hag,Arz _ _⟩,.aud hOk h111 H2 (.inr ⟨by omega,rfl⟩)⟩⟩
  refine Bp<|.M H2 (Vq mr.1.kind e2) ?_
  refine B2 H2 0 ?_
  exact .ret ⟨(⟨ro.1,x.reqs,x.draws,x.aud⟩,(Jp mr.1.kind e2),(-1),0),rW H2 [0],⟨⟨hI,rfl,hnum,hag,Arz _ _⟩,.aud hOk h111 H2 (.inl rfl)⟩⟩
 refine Bq ?_
 refine Br ?_ ?_<;>intro h146
 ·refine Ca ?_
  have ha1:1<=mr.1.args.length:=by have:=hsh.2.2.2 (.inr (.inr (.inr (.inr (.inr h146)))));omega
  obtain⟨e4,H4⟩:=gx mr.1.args 0
  refine C3 H4 ?_
  refine Br ?_ ?_<;>intro h155
  ·refine Bt H4 ?_
   refine B2 H4 0 ?_
   exact .ret ⟨(⟨ro.1,x.reqs,x.draws,x.aud⟩,⟨0,[],[],[]⟩,(-1),8),rW H4 [0],(by first | exact⟨⟨hI,rfl,hnum,hag,Arz _ _⟩,.reset hOk h146 (by assumption)⟩ | exact⟨⟨hI,rfl,hnum,hag,Ai3⟩,.no hOk (by omega)⟩)⟩
  refine Bp<|.M H4 (Vq mr.1.kind e4) ?_
  refine B2 H4 0 ?_
  exact .ret ⟨(⟨ro.1,x.reqs,x.draws,x.aud⟩,(Jp mr.1.kind e4),e4,0),rW H4 [0],(by exact⟨⟨hI,rfl,hnum,hag,Arz _ _⟩,.reset hOk h146 (by assumption)⟩)⟩
 refine Bp<|.Z Dz 0 ?_
 refine Db Dz (Anz ⟨ro.1,x.reqs,x.draws,x.aud⟩ mr.1.kind now (Ak hI.reqs (by decide)) hI.b.reg.toks) ?_
 exact .ret ⟨(⟨ro.1,x.reqs,x.draws,x.aud⟩,(Ii ⟨ro.1,x.reqs,x.draws,x.aud⟩ mr.1.kind now (Ak hI.reqs (by decide)) hI.b.reg.toks),(-1),0),rW Dz [0],(by first | exact⟨⟨hI,rfl,hnum,hag,Arz _ _⟩,.reset hOk h146 (by assumption)⟩ | exact⟨⟨hI,rfl,hnum,hag,Ai3⟩,.no hOk (by omega)⟩ | exact⟨⟨hI,rfl,hnum,hag,A4k (Ak hI.reqs (by decide)) hI.b.reg.toks⟩,.tell hOk (by have:=hOk.srv;have:=hOk.kind;omega) (Ak hI.reqs (by decide)) hI.b.reg.toks⟩)⟩
theorem Qq (x:Dy) (hb:L8 x):PP 86 [] [x.g] [.row 4 1 false false (tB x.aud)] (.agg [.li x.reg.num,.mY x.reg.ag.sec,.li x.reg.ag.ri,.li x.reg.ag.cls,.mI x.reg.ag.lims,.li x.reg.ag.rq,.li x.reg.ag.se,.li x.reg.ag.ra,.li x.reg.ag.bu,.mTok x.reg.toks,.mVeh x.reg.vehs,.li x.reg.bk.lv,.li x.reg.bk.ra,.li x.reg.bk.bu,.mReq x.reqs,.mYs x.draws,.own 0 x.aud.length]):=(Zg x hb).dull
section
variable (cfg:E5) (x:Dy) (ses:Int) (it:E8) (now:Int) (hd:Gg x) (hp:it.pay.length<=1000)
include cfg ses now hd hp
theorem Tq:Ct 149 [cfg.g,x.g,.li ses,it.g,.li now] (fun d:Dy×Ea×F3×Int=>.tup [d.1.g,d.2.1.g,d.2.2.1.g,.li d.2.2.2]) (fun d=>A08 x d.1 d.2.1/\Avj cfg x ses it now d):=by
 refine Ex Tryz.func149 ?_
 obtain⟨Y1,cY1,qY1⟩:=Aeb cfg x ses it now hd hp
 have hQx:=qY1
 have hQ:=hQx.1
 refine Bq ?_
 refine Cy (fun K kk=>by simp[go_sem];refine .l (Qq x hd.b) ?_;simp[go_sem];refine .o [6] cY1 ?_;simp[go_sem];exact kk)<|.seq ?_
 refine Bq ?_
 refine Br ?_ ?_<;>intro h31
 ·refine Bq ?_
  refine Ci ?_
  refine Bq ?_
  refine VX.D ?_
  refine B2 Dz 8 ?_
  exact .ret (fin Dz (Y1.1,⟨15,[],[it.kind,Y1.2.2.2],[]⟩,⟨Y1.1.reg.num,it.kind,Y1.2.2.2⟩,(-1)) (by first | exact⟨hQ,_,hQx.2,rfl,rfl,fun _=>⟨rfl,rfl⟩,fun h=>absurd (by omega) h⟩ | exact⟨⟨hQ.1,hQ.2.1,hQ.2.2.1,hQ.2.2.2.1,by simp[Hi]⟩,_,hQx.2,rfl,rfl,fun h=>absurd h (by omega),fun _=>⟨rfl,rfl⟩⟩))
 refine Bp<|.R ?_
 refine VX.D ?_
 exact .ret (fin Dz (Y1.1,Y1.2.1,⟨Y1.1.reg.num,it.kind,Y1.2.2.2⟩,Y1.2.2.1) (by exact⟨hQ,_,hQx.2,rfl,rfl,fun _=>⟨rfl,rfl⟩,fun h=>absurd (by omega) h⟩))
def Ga:Dy×Ea×F3×Int:=(Ep (Tq cfg x ses it now hd hp)).choose
theorem T0:PP 149 [] [cfg.g,x.g,.li ses,it.g,.li now] [] (.tup [.agg ((Ga cfg x ses it now hd hp).1.a false),.agg ((Ga cfg x ses it now hd hp).2.1.a false),.agg ((Ga cfg x ses it now hd hp).2.2.1.a false),.lit (.int .i64 (Ga cfg x ses it now hd hp).2.2.2)]):=(Ep (Tq cfg x ses it now hd hp)).choose_spec.1
theorem Kz:A08 x (Ga cfg x ses it now hd hp).1 (Ga cfg x ses it now hd hp).2.1/\Avj cfg x ses it now (Ga cfg x ses it now hd hp):=(Ep (Tq cfg x ses it now hd hp)).choose_spec.2
end
end
section
theorem Wu (a:G2):Ct 130 [a.g] (fun d:Int=>.li d) (fun d=>0<=d/\d<=2/\(1<=a.se/\a.se<=2->d=a.se)):=by
 refine Ex Tryz.func130 ?_
 iterate 2 refine Bq ?_
 refine Bz (Fj ?_);simp[go_sem]
 exact⟨(if 2<(if a.se<0 then 0 else a.se) then 2 else (if a.se<0 then 0 else a.se)),by rfl,(by dsimp only;(repeat' split)<;>omega)⟩
def Ee (a:G2):Int:=(Ep (Wu a)).choose
theorem Ado (a:G2):PP 130 [] [a.g] [] (.li (Ee a)):=(Ep (Wu a)).choose_spec.1
theorem He (a:G2):0<=(Ee a)/\(Ee a)<=2/\(1<=a.se/\a.se<=2->(Ee a)=a.se):=(Ep (Wu a)).choose_spec.2
def Eg (l:List G2):Nat->Int
 | 0=>0
 | k+1=>Eg l k+match l[k]? with
  | some a=>Ee a
  | none=>0
theorem Iq (l:List G2):∀k,0<=Eg l k/\Eg l k<=2*(k:Int)
 | 0=>by simp[Eg]
 | k+1=>by
  have ih:=Iq l k
  rw[Eg]
  cases h:l[k]? with
  | none=>simp only;omega
  | some a=>have:=He a;simp only;omega
variable {l:List G2}
theorem S4 {k:Nat} {a:G2} (h:l[k]? = some a):Eg l (k+1)=Eg l k+Ee a:=by rw[Eg,h]
def Zj (l:List G2) (k:Nat) (a:G2):List (Int×Int×Int):=(List.range (Ee a).toNat).map fun (n:Nat)=>((k:Int),(n:Int),Eg l k+(n:Int))
theorem Yl (l:List G2) (k:Nat) (a:G2):((Zj l k a).length:Int)=Ee a:=by
 have:=He a
 simp[Zj]
 omega
theorem Aty {k:Nat} {a:G2} {n:Nat} (h:(n:Int)<Ee a):(Zj l k a)[n]? = some ((k:Int),(n:Int),Eg l k+n):=by
 have hn:n<(Ee a).toNat:=by omega
 unfold Zj
 rw[Ap,List.getElem?_range hn]
 rfl
abbrev cfT (c:E5):List T:=[.sl 3 (Aab c.juns),.sl 8 (tAg c.ags),.li c.per,.li c.cap,.li c.hold,.li c.lock]
abbrev plA (x:Int×Int×Int):AV:=.agg [.li x.1,.li x.2.1,.li x.2.2]
theorem Zf (c:E5) (k:Nat) (ag:G2) (hk:c.ags[k]? = some ag) (h:c.ags.length<=1000000):Zu Tryz.prog 129 [.iptr false (cfT c) 0,.iptr false [.li (k:Int)] 0] ((Zj c.ags k ag).map fun a=>[plA a]):=by
 have hkl:=(Ab.1 hk).1
 refine Afr Tryz.func129 rfl rfl rfl (by simp[Tryz.ntmps129]) rfl fun yl=>?_
 refine B9 (by rfl) fun K1 hK1=>?_
 simp[go_sem]
 refine hK1 _ ?_;clear hK1
 refine C4 ?_
 refine B9 (by rfl) fun K1 hK1=>?_
 simp[go_sem]
 repeat' with_reducible refine Ax ?_ ?_
 all_goals try (intros;(repeat' refine Ax ?_ ?_)<;>omega)
 refine hK1 _ ?_;clear hK1
 refine Cz ?_
 refine Dq k (fun j=>⟨[(0,.lit (.func (.yield yl) #[] #[])),(1,.iptr false (cfT c) 0),(2,.iptr false [.li (k:Int)] 0),(4,.li (Eg c.ags j)),(11,.imm false 8 ((tAg c.ags).take k)),(12,.li (k:Int)),(13,.li (j:Int))],[]⟩) (fun j=>0)
  (fun j=>True) (wQ [] ?_ ?_) ⟨rfl,rfl,trivial⟩ fun j hj _=>?_
 ·simp[go_sem,Eg,Nat.min_eq_left (Nat.le_of_lt hkl)]
 ·simp[go_sem]
 refine B9 (by rfl) fun K1 hK1=>?_
 simp[go_sem]
 refine hK1 _ ?_;clear hK1
 refine C4 ?_
 refine VI.Q ?_ ?_<;>intro h14
 ·
  refine Dd ?_
  refine C4 ?_
  refine Cz ?_
  obtain⟨e1,hx⟩:∃e,c.ags[j]? = some e:=⟨_,Aa (by omega)⟩
  have hb:=Iq c.ags j
  have hq:=He e1
  have hxt:((tAg c.ags).take k)[j]? = some e1.t:=by rw[Ag (by omega),Ap,hx];rfl
  refine B9 (by rfl) fun K1 hK1=>?_
  simp[go_sem,hx,hxt]
  repeat' with_reducible refine Ax ?_ ?_
  all_goals try (intros;(repeat' refine Ax ?_ ?_)<;>omega)
  refine hK1 _ ?_;clear hK1
  refine Cu (by rfl) fun K1 hK1=>?_
  simp[go_sem,hx]
  refine .l (Ado e1) ?_
  simp[go_sem]
  refine hK1 _ ?_;clear hK1
  refine Cu (by rfl) fun K1 hK1=>?_
  simp[go_sem]
  refine hK1 _ ?_;clear hK1
  refine⟨by omega,rfl,rfl,trivial,wQ [] ?_ ?_⟩
  ·simp[go_sem,Dx ((j:Int)+1),S4 hx,Dx (Eg c.ags j+Ee e1)]
  simp[go_sem]
 -- the agency itself
 obtain rfl:j=k:=by omega
 refine VI.exit ?_
 have hb:=Iq c.ags j
 have hq:=He ag
 refine B9 (by rfl) fun K1 hK1=>?_
 simp[go_sem,hk]
 repeat' with_reducible refine Ax ?_ ?_
 all_goals try (intros;(repeat' refine Ax ?_ ?_)<;>omega)
 refine .l (Ado ag) ?_
 simp[go_sem,hk]
 refine hK1 _ ?_;clear hK1
 refine Cz ?_
 refine Dq (Ee ag).toNat (fun n=>⟨[(0,.lit (.func (.yield yl) #[] #[])),(2,.iptr false [.li (j:Int)] 0),(4,.li (Eg c.ags j)),(27,.li (Ee ag)),(28,.li (n:Int))],[]⟩) (fun n=>n)
  (fun n=>True) (wQ [] ?_ ?_) ⟨rfl,rfl,trivial⟩ fun n hn _=>?_
 ·simp[go_sem]
 ·simp[go_sem]
 refine B9 (by rfl) fun K1 hK1=>?_
 simp[go_sem]
 refine hK1 _ ?_;clear hK1
 refine C4 ?_
 refine VI.Q ?_ ?_<;>intro h29
 ·refine Dd ?_
  refine C4 ?_
  refine Cz ?_
  refine B9 (by rfl) fun K1 hK1=>?_
  simp[go_sem]
  refine hK1 _ ?_;clear hK1
  refine C4 (Du ?_)
  refine V1.first 7 (by rfl) fun K1 hK1=>?_
  simp[go_sem,Dx (Eg c.ags j+n)]
  refine hK1 _ ?_;clear hK1
  refine V1.yield (vs:=[plA ((j:Int),(n:Int),Eg c.ags j+n)]) (by simp[go_sem]) (by simp[go_sem]) (by decide) (by simp[go_sem]) (by simp[go_sem]) (by simp[go_sem]) (by simp[Aty (l:=c.ags) (k:=j) (a:=ag) (n:=n) (by omega)]) (by simp[go_sem]) rfl fun b=>?_
  refine V1.rest (by rfl) fun K1 hK1=>?_
  cases b with
  | true =>
   simp[go_sem]
   refine hK1 _ ?_;clear hK1
   refine C7 (by simp[go_sem]) (by simp[go_sem]) (fun h39=>?_) (fun h39=>?_)<;>simp[go_sem] at h39
   exact VI.ret ⟨.inr rfl,fun h=>by cases h⟩
  | false =>
   simp[go_sem]
   refine hK1 _ ?_;clear hK1
   refine C7 (by simp[go_sem]) (by simp[go_sem]) (fun h39=>?_) (fun h39=>?_)<;>simp[go_sem] at h39
   refine Dd ?_
   refine Cu (by rfl) fun K1 hK1=>?_
   simp[go_sem]
   refine hK1 _ ?_;clear hK1
   refine⟨by omega,rfl,rfl,trivial,wQ [] ?_ ?_⟩
   ·simp[go_sem,Dx ((n:Int)+1)]
   simp[go_sem]
 refine VI.exit ?_
 exact⟨.inl rfl,fun _=>by have:=Yl c.ags j ag;simp only[A2];omega⟩
theorem Us (c:E5) (k:Int):PP 98 [] [c.g,.li k] [] (.fn 129 [.iptr false (cfT c) 0,.iptr false [.li k] 0]):=by
 refine E7.boxes (σr:=[.box 30 (c.a false),.box 3 [.li k]]) (res:=.fn 129 [.ptr 0 0,.ptr 1 0]) ?_ (by simp[go_sem,St.o])
 refine Em Tryz.func98 ?_
 iterate 2 refine Bw ?_
 exact .ret (rW Dz [0,1])
end
section
theorem Aid (c:Fm) (jn:Int) (ph:Int) (hb:Apz c) (hs:c.stuck.length=c.cfg.juns.length):Ct 43 [c.g,.li jn,.li ph] (fun d:Fm=>d.g) (fun d=>d.cfg=c.cfg/\d.ref=c.ref/\d.now=c.now/\d.desks=c.desks/\d.sigs=c.sigs/\d.svcs=c.svcs/\d.views=c.views/\d.stuck.length=c.stuck.length):=by
 refine Ex Tryz.func43 ?_
 refine Bq ?_
 refine B8 Dz (Pt c hb)<|.seq ?_
 refine Bq ?_
 refine Br ?_ ?_<;>intro h26
 ·refine Bq ?_
  refine B2 Dz 2 ?_
  refine B2 Dz 3 ?_
  refine B2 Dz 4 ?_
  refine B2 Dz 5 ?_
  exact .ret (fin Dz ⟨c.cfg,c.ref,c.now,c.desks,c.sigs,c.svcs,c.stuck,c.views⟩ ⟨rfl,rfl,rfl,rfl,rfl,rfl,rfl,by rfl⟩)
 refine Bp<|.seq ?_
 have hj:0<=jn/\jn<c.cfg.juns.length:=by omega
 obtain⟨j1,hj1⟩:∃e,c.cfg.juns[jn.toNat]? = some e:=⟨_,Aa (by omega)⟩
 refine B3 (fun K kk=>by simp +contextual[go_sem,hj1];(repeat first | exact kk | refine aK ?_)) ?_
 refine Br ?_ ?_<;>intro h41
 ·have hjs:jn<c.stuck.length:=by omega
  obtain⟨e1,H1⟩:=gx c.stuck jn.toNat
  refine B0 H1 ?_
  refine Bt H1 ?_
  refine B2 Dz 2 ?_
  refine B2 Dz 3 ?_
  refine B2 Dz 4 ?_
  refine B2 Dz 5 ?_
  exact .ret (fin H1 ⟨c.cfg,c.ref,c.now,c.desks,c.sigs,c.svcs,(c.stuck).set jn.toNat ph,c.views⟩ ⟨rfl,rfl,rfl,rfl,rfl,rfl,rfl,by first | rfl | simp⟩)
 refine Bp<|.R ?_
 refine B2 Dz 2 ?_
 refine B2 Dz 3 ?_
 refine B2 Dz 4 ?_
 refine B2 Dz 5 ?_
 exact .ret (fin Dz ⟨c.cfg,c.ref,c.now,c.desks,c.sigs,c.svcs,c.stuck,c.views⟩ ⟨rfl,rfl,rfl,rfl,rfl,rfl,rfl,by rfl⟩)
theorem E7.frozB {P:Program} {f:FuncId} {args:List AV} {ty k ty2 k2:Nat} {fr fz fr2 fz2:Bool} {es es2:List (List T)} {res res':AV} (h:E7 P f [] args [.row ty k fr fz es,.row ty2 k2 fr2 fz2 es2] res) (hr:((res.melt fun i=>[Ob.row ty k fr true es,Ob.row ty2 k2 fr2 true es2].getD i .gone).ren fun _=>none).low=res'):E7 P f [] args [] res':=by
 refine⟨h.1,fun E β us hn ho hβ r=>(h.2 E β us hn ho hβ r).mono ?_⟩
 rintro e w' ⟨v,β',rfl,r1⟩
 have r2:=((r1.freeze (id:=0) (ty:=ty) (k:=k) (fr:=fr) (fz:=fz) (es:=es) rfl).1.freeze (id:=1) (ty:=ty2) (k:=k2) (fr:=fr2) (fz:=fz2) (es:=es2) rfl).1.melt
 obtain⟨β2,r3⟩:=r2.weak (sel:=[]) (st':=⟨[(0,res')],[]⟩) ⟨.cons (by rw[<- hr];exact Le.low _) .nil,fun j hj=>by simp at hj,rfl,List.nodup_nil⟩ fun id hid=>absurd (by show E.o0 id=_;rw[ho];simp[St.o]) hid
 exact⟨v,β2,rfl,r3⟩
theorem Akz (n:Int) (hn:n<=1000):Ct 57 [.li n] (fun d:Fx=>d.g) (fun d=>d.ended.length<=1000):=by
 refine Ex Tryz.func57 ?_
 refine Bq ?_
 refine Bq<|.seq ?_
 refine Bq ?_
 refine Br ?_ ?_<;>intro h11
 ·refine B0 Dz<|.seq ?_
  refine Bq<|.block ?_
  refine Bs n.toNat (fun i1 (y1:(List Int))=>⟨[(2,.ptr 0 0),(3,.ptr 1 0),(17,.li n.toNat),(18,.li i1)],[.box 138 [.li 0,.li 0,.nil 1],.box 138 [.li (-1),.li 0,.own 2 y1.length],.row 3 1 false false (tI y1)]⟩) (fun i1 y1=>y1.length=n.toNat) (List.replicate n.toNat 0) (wk Dz [0,1,2]) (by simp) fun i1 y1 hi1 hy1=>?_
  refine Bq<|.seq ?_
  refine Br ?_ ?_<;>intro h19
  ·refine Bp<|.seq<|.block<|.R ?_
   obtain⟨e1,H1⟩:=gx y1 i1
   refine B0 H1 ?_
   refine B0 H1 ?_
   refine⟨by omega,((y1).set i1 (-1)),?_,wk (Fa (Dx ((i1:Int)+1)) H1) [0,1,2]⟩
   simpa using hy1
  refine Bu<|.R ?_
  refine B2 Dz 2 ?_
  exact .ret (fin Dz ⟨(-1),0,y1⟩ (by first | (simp;done) | (simp only[List.length_replicate];omega)))
 refine Bp<|.seq<|.R<|.block ?_
 refine Bs 0 (fun i2 (y2:Unit)=>⟨[(2,.ptr 0 0),(3,.ptr 1 0),(17,.li 0),(18,.li i2)],[.box 138 [.li 0,.li 0,.nil 1],.box 138 [.li (-1),.li 0,.nil 1]]⟩) (fun i2 y2=>True) () (wk Dz [0,1]) (trivial) fun i2 y2 hi2 hy2=>?_
 refine Bq<|.seq ?_
 refine Cs ?_ ?_<;>intro h19<;>simp[go_sem] at h19
 ·exfalso;omega
 refine Bu<|.R ?_
 exact .ret (fin Dz ⟨(-1),0,[]⟩ (by (simp;done)))
section
variable (j:F9) (s:Ib) (v:Fx) (h1:j.phs.length<=8) (h2:s.ctl.lights.length<=8)
include v h1 h2
theorem Tl:∃d:Gp,PP 58 [] [j.g,s.g,v.g] [.row 3 1 false false (tI d.col),.row 3 1 false false (tI d.cnt)] (.agg [.lb d.fl,.lb d.ov,.own 0 d.col.length,.own 1 d.cnt.length])/\(d.col.length=j.phs.length/\d.cnt.length=j.phs.length):=by
 refine Oh (D:=Gp) (F:=fun d=>.agg [.lb d.fl,.lb d.ov,.own 0 d.col.length,.own 1 d.cnt.length]) (S:=fun d=>[.row 3 1 false false (tI d.col),.row 3 1 false false (tI d.cnt)]) (Q:=fun d=>d.col.length=j.phs.length/\d.cnt.length=j.phs.length) Tryz.func58 rfl rfl rfl (by simp[Tryz.ntmps58]) ?_
 have hf:=Abj j (by omega)
 refine Bq ?_
 refine B8 Dz (Yx j (by first | assumption | omega))<|.seq ?_
 refine Bq ?_
 refine Br ?_ ?_<;>intro h14
 ·refine Bq ?_
  exact .ret ⟨⟨(Fc j (by first | assumption | omega)).fl,(Fc j (by first | assumption | omega)).ov,(Fc j (by first | assumption | omega)).col,(Fc j (by first | assumption | omega)).cnt⟩,rW Dz [4,5],(by dsimp only;omega)⟩
 refine Bp<|.R ?_
 refine Bq<|.seq ?_
 refine Bq<|.block ?_
 refine Bs j.phs.length (fun i1 (y1:(List Int)×(List Int))=>⟨[(4,.ptr 0 0),(6,.ptr 1 0),(7,.ptr 4 0),(22,.mPhase j.phs),(23,.li j.phs.length),(24,.li i1)],[.box 135 (s.a false),.box 128 [.lb false,.lb false,.nil 1,.nil 1],.row 3 1 false false (tI y1.1),.row 3 1 false false (tI y1.2),.box 128 [.lb false,.lb ((v.ph:Int) != (-1)),.own 2 y1.1.length,.own 3 y1.2.length]]⟩) (fun i1 y1=>y1.1.length=j.phs.length/\y1.2.length=j.phs.length) ((Fc j (by first | assumption | omega)).col,(Fc j (by first | assumption | omega)).cnt) (wk Dz [1,3,4,5,6]) (hf) fun i1 y1 hi1 hy1=>?_
 refine Bq<|.seq ?_
 refine Br ?_ ?_<;>intro h25
 ·refine Bp<|.seq<|.block ?_
  obtain⟨e1,H1⟩:=gx j.phs i1
  refine Bt H1<|.seq ?_
  refine Bt H1 ?_
  refine Br ?_ ?_<;>intro h34
  ·refine Bu<|.H H1 ?_
   exact .ret ⟨⟨false,((v.ph:Int) != (-1)),y1.1,y1.2⟩,rW H1 [2,3],(by dsimp only;omega)⟩
  refine Bp ?_
  obtain⟨e2,H2⟩:=gx s.ctl.lights i1
  refine Bt (Fa H1 H2) ?_
  obtain⟨e3,H3⟩:=gx y1.1 i1
  refine Bt (Hq H1 H2 H3) ?_
  refine Ds 2 rfl (by simp) (fun x:Int=>[T.lit (Value.int IntKind.i64 x)]) j.phs.length ?_ fun R hR=>?_
  ·apply Lf
   ·repeat' first | exact Nk | exact Nj | exact Ni (x:=0) rfl | apply Lb | apply Ld | apply Lc | apply Rf | apply (fun h=>Re (x:=_) h rfl)
   first | rfl | omega
  simp[go_sem,-Prod.exists]
  refine Ca<|.H (Tf H1 H2 H3 hR) ?_
  refine Br ?_ ?_<;>intro h52
  ·obtain⟨e4,H4⟩:=gx R i1
   refine B0 (X9 H1 H2 H3 hR H4) ?_
   obtain⟨e5,H5⟩:=gx y1.2 i1
   obtain⟨Y1,cY1,qY1⟩:=Ep (Aat e1 e2)
   refine Cp (cj6 H1 H2 H3 hR H4 H5) cY1 ?_
   refine B0 (cj6 H1 H2 H3 hR H4 H5) ?_
   refine⟨by omega,((R).set i1 e2.l,(y1.2).set i1 Y1),?_,wQ [0,1,2,3,4] ?_ ?_⟩
   ·first | omega | (simp;omega)
   all_goals simp[go_sem,Dx ((i1:Int)+1),H1,H2,H3,hR,H4,H5,hy1.1,hy1.2]
  refine Bp ?_
  obtain⟨e6,H6⟩:=gx y1.2 i1
  obtain⟨Y2,cY2,qY2⟩:=Ep (Aat e1 e2)
  refine Cp (X9 H1 H2 H3 hR H6) cY2 ?_
  refine B0 (X9 H1 H2 H3 hR H6) ?_
  refine⟨by omega,(R,(y1.2).set i1 Y2),?_,wQ [0,1,2,3,4] ?_ ?_⟩
  ·first | omega | (simp;omega)
  all_goals simp[go_sem,Dx ((i1:Int)+1),H1,H2,H3,hR,H6,hy1.1,hy1.2]
 refine Bu<|.R ?_
 exact .ret ⟨⟨false,((v.ph:Int) != (-1)),y1.1,y1.2⟩,rW Dz [2,3],(by dsimp only;omega)⟩
def Hd:Gp:=(Tl j s v h1 h2).choose
theorem Aio:PP 58 [] [j.g,s.g,v.g] [.row 3 1 false false (tI (Hd j s v h1 h2).col),.row 3 1 false false (tI (Hd j s v h1 h2).cnt)] (.agg [.lit (.bool (Hd j s v h1 h2).fl),.lit (.bool (Hd j s v h1 h2).ov),.own 0 ((Hd j s v h1 h2).col).length,.own 1 ((Hd j s v h1 h2).cnt).length]):=(Tl j s v h1 h2).choose_spec.1
theorem T8:(Hd j s v h1 h2).col.length=j.phs.length/\(Hd j s v h1 h2).cnt.length=j.phs.length:=(Tl j s v h1 h2).choose_spec.2
theorem Ad0:(Hd j s v h1 h2).col.length<=8/\(Hd j s v h1 h2).cnt.length<=8:=by have:=T8 j s v h1 h2;omega
theorem Adl:PP 58 [] [j.g,s.g,v.g] [] (.agg ((Hd j s v h1 h2).a false)):=(Aio j s v h1 h2).frozB (by simp[go_sem])
end
structure Kf (x:Fm):Prop where
  ref:x.ref=false
  jun:∀j∈x.cfg.juns,Ou j/\j.phs.length<=8
  nj:x.cfg.juns.length<=4
  na:x.cfg.ags.length<=4
  desks:x.desks.length=x.cfg.ags.length
  desk:∀d∈x.desks,Gg d/\1<=d.aud.length/\d.aud.length<=2
  sigs:x.sigs.length=x.cfg.juns.length
  sig:∀g∈x.sigs,g.ctl.lights.length<=8/\g.ctl.nxt.length<=2
  svcs:x.svcs.length=x.cfg.juns.length
  svc:∀g∈x.svcs,g.ended.length<=1000
  stuck:x.stuck.length=x.cfg.juns.length
  views:x.views.length=x.cfg.juns.length
  view:∀v∈x.views,v.col.length<=8/\v.cnt.length<=8
  vw:x.views.map (fun v=>v.cnt.length)=x.cfg.juns.map fun j=>j.phs.length
  dl:∀(k:Nat) (d:Dy) (a:G2),x.desks[k]? = some d->x.cfg.ags[k]? = some a->(d.aud.length:Int)=Ee a
def Yc (c d:Fm):Prop:=d.now=c.now/\∀(k:Nat) (x:Dy),c.desks[k]? = some x->∃l,d.desks[k]? = some ⟨x.reg,x.reqs,l,x.aud⟩
theorem Yc.same {c d:Fm} (h1:d.now=c.now) (h2:d.desks=c.desks):Yc c d:=⟨h1,fun k x h=>⟨x.draws,by rw[h2];exact h⟩⟩
theorem Yc.refl (c:Fm):Yc c c:=.same rfl rfl
theorem Kf.b {x:Fm} (h:Kf x):Apz x:=⟨by have:=h.desks;have:=h.na;omega,fun d hd=>(h.desk d hd).1.b,by have:=h.sigs;have:=h.nj;omega,fun g hg=>⟨Ak (h.sig g hg).1 (by decide),Ak (h.sig g hg).2 (by decide)⟩,
 by have:=h.svcs;have:=h.nj;omega,fun g hg=>Ak (h.svc g hg) (by decide),by have:=h.stuck;have:=h.nj;omega,by have:=h.views;have:=h.nj;omega,fun v hv=>⟨Ak (h.view v hv).1 (by decide),Ak (h.view v hv).2 (by decide)⟩⟩
theorem Lz {α:Type} {p:α->Prop} {l:List α} {x:α} (h:∀y∈l,p y) (hx:p x):∀y∈l++[x],p y:=fun y hy=>by
 rcases A0.1 hy with h1 | h1
 ·exact h y h1
 rw[An.1 h1];exact hx
theorem Atd {α β:Type} {l:List α} {r:List β} {x:α} {y:β} {i:Nat} {f:β->Nat} {g:α->Nat} (h:r.map f=(l.take i).map g) (hx:l[i]? = some x) (hy:f y=g x):(r++[y]).map f=(l.take (i+1)).map g:=by
 rw[List.take_add_one,hx,List.map_append,List.map_append,h]
 simp[hy]
theorem Axb {n:Int} {a:G2} {h1:a.sec.length<=1000000} {h2:a.lims.length<=1000000} (hs:1<=a.se/\a.se<=2):((Fz n a h1 h2).aud.length:Int)=a.se:=by
 rw[(R6 n a h1 h2).2.2.2.2.2,List.length_replicate,if_neg (show ¬a.se<0 by omega),if_neg (by omega)]
 omega
theorem Ax5 {n:Int} {a:G2} {h1:a.sec.length<=1000000} {h2:a.lims.length<=1000000} (hr:a.rq<=3) (hs:1<=a.se/\a.se<=2):Gg (Fz n a h1 h2)/\1<=(Fz n a h1 h2).aud.length/\(Fz n a h1 h2).aud.length<=2:=by
 have h:=R6 n a h1 h2
 have hg:=Xv n a h1 h2
 have ht:=Aoq a h1
 have hv:(Fz n a h1 h2).reg=G5 n a h1 h2:=h.1
 refine⟨⟨⟨⟨?_,?_,?_,?_,?_⟩,?_,?_,?_,?_,?_⟩,?_,?_,?_,?_,?_,?_⟩,by have:=Axb (n:=n) (h1:=h1) (h2:=h2) hs;omega,h.2.2.2.1⟩
 ·rw[hv,hg.2.1];exact h1
 ·rw[hv,hg.2.1];exact h2
 ·rw[hv,hg.2.2.1];omega
 ·rw[hv,hg.2.2.1];exact ht.2
 ·rw[hv,hg.2.2.2.1];exact Ae _
 ·rw[h.2.1];exact Ae _
 ·rw[h.2.1];intro r hr;cases hr
 ·rw[h.2.2.1];exact Ae _
 ·rw[h.2.2.1];intro r hr;cases hr
 ·have:=h.2.2.2.1;omega
 ·rw[hv,hg.2.2.2.1];exact Ae _
 ·rw[h.2.1];exact Ae _
 ·rw[h.2.2.1];intro r hr;cases hr
 ·rw[hv,hg.2.1];exact hr
 ·rw[h.2.1];show (0:Int)<=max 0 _;exact Int.le_max_left _ _
 rw[h.2.1];intro r hr;cases hr
variable {l:List G2} {y:List Dy}
theorem Az8 {e:G2} {i:Nat} {g1:e.sec.length<=1000000} {g2:e.lims.length<=1000000} (hl:y.length=i) (he:l[i]? = some e) (h:∀(k:Nat) (a:G2),k<i->l[k]? = some a->∃h1 h2,y[k]? = some (Fz k a h1 h2)):∀(k:Nat) (a:G2),k<i+1->l[k]? = some a->∃h1 h2,(y++[Fz i e g1 g2])[k]? = some (Fz k a h1 h2):=fun k a hk ha=>by
 by_cases hi:k<i
 ·obtain⟨p,q,h⟩:=h k a hi ha
  exact⟨p,q,by rw[Au (by omega)];exact h⟩
 have:k=i:=by omega
 subst this
 rw[he] at ha
 injection ha with ha
 subst ha
 exact⟨g1,g2,by rw[<- hl];simp⟩
theorem A41 (hS:∀x∈l,1<=x.se/\x.se<=2) (h:∀(k:Nat) (a:G2),l[k]? = some a->∃h1 h2,y[k]? = some (Fz k a h1 h2)):∀(k:Nat) (d:Dy) (a:G2),y[k]? = some d->l[k]? = some a->(d.aud.length:Int)=Ee a:=fun k d a hd ha=>by
 obtain⟨h1,h2,e⟩:=h k a ha
 rw[hd] at e
 injection e with e
 have hs:=hS a (Ac ha)
 rw[e,Axb hs,(He a).2.2 hs]
theorem Anc (c:E5) (hb:Adg c) (hp:L7 c=true) (hJ:∀j∈c.juns,Ou j/\j.phs.length<=8) (hA:∀a∈c.ags,a.sec.length<=1000000/\a.lims.length<=1000000/\a.rq<=3) (hl1:c.juns.length<=4) (hl2:c.ags.length<=4) (hS:∀x∈c.ags,1<=x.se/\x.se<=2):Ct 29 [c.g] (fun d:Fm=>d.g) (fun d=>Kf d/\d.cfg=c/\d.now=0/\∀(k:Nat) (a:G2),c.ags[k]? = some a->∃h1 h2,d.desks[k]? = some (Fz k a h1 h2)):=by
 refine Ex Tryz.func29 ?_
 refine Bt hp ?_
 refine Bt hp<|.seq ?_
 refine B8 hp (Aiq c hb) ?_
 refine Cs ?_ ?_<;>intro h16<;>simp[go_sem] at h16
 refine Bp<|.seq ?_
 refine Cl 2 8 70 17 (by decide) rfl rfl ?_
 simp[go_sem,-Prod.exists]
 refine Bt hp<|.block ?_
 refine Bs c.ags.length (fun i1 (y1:(List Dy))=>⟨[(1,.ptr 0 0),(2,.ptr 1 0),(3,.ptr 2 0),(35,.mAg c.ags),(36,.li c.ags.length),(37,.li i1)],[.box 30 (c.a false),.box 37 [.nil 3,.nil 8,.li 0,.li 0,.li 0,.li 0,.lb false,.li 0,.nil 17,.nil 5,.nil 3,.nil 1,.nil 4],.box 37 [.mJun c.juns,.mAg c.ags,.li c.per,.li c.cap,.li c.hold,.li c.lock,.lb false,.li 0,.own 3 y1.length,.nil 5,.nil 3,.nil 1,.nil 4],.row 70 17 false false (Jc y1)]⟩) (fun i1 y1=>y1.length=i1/\(∀d∈y1,Gg d/\1<=d.aud.length/\d.aud.length<=2)/\∀(k:Nat) (a:G2),k<i1->c.ags[k]? = some a->∃h1 h2,y1[k]? = some (Fz k a h1 h2)) ([]) (wk Dz [0,1,2,3]) (⟨rfl,fun d h=>(by cases h),fun k a hk=>absurd hk (Nat.not_lt_zero _)⟩) fun i1 y1 hi1 hy1=>?_
 refine Bt hp<|.seq ?_
 refine Br ?_ ?_<;>intro h38
 ·refine Bp<|.seq<|.block ?_
  obtain⟨e1,H1⟩:=gx c.ags i1
  refine Bt (Fa hp H1) ?_
  have ha:=hA e1 (Ac H1)
  refine Cp (Fa hp H1) (Aqk i1 e1 ha.1 ha.2.1) ?_
  refine B0 (Fa hp H1) ?_
  exact⟨by omega,(y1++([(Fz i1 e1 ha.1 ha.2.1)])),⟨by simp;omega,Lz hy1.2.1 (Ax5 ha.2.2 (hS e1 (Ac H1))),Az8 hy1.1 H1 hy1.2.2⟩,wk (Fa (Dx ((i1:Int)+1)) H1) [0,1,2,3]⟩
 refine Bu<|.seq ?_
 refine Cl 2 12 128 4 (by decide) rfl rfl ?_
 simp[go_sem,-Prod.exists]
 refine Cl 2 9 135 5 (by decide) rfl rfl ?_
 simp[go_sem,-Prod.exists]
 refine Cl 2 10 138 3 (by decide) rfl rfl ?_
 simp[go_sem,-Prod.exists]
 refine Cl 2 11 3 1 (by decide) rfl rfl ?_
 simp[go_sem,-Prod.exists]
 refine Bt hp<|.block ?_
 refine Bs c.juns.length (fun i2 (y2:(List Dy)×(List Gp)×(List Ib)×(List Fx)×(List Int))=>⟨[(2,.ptr 0 0),(3,.ptr 1 0),(52,.mJun c.juns),(53,.li c.juns.length),(54,.li i2)],[.box 37 [.nil 3,.nil 8,.li 0,.li 0,.li 0,.li 0,.lb false,.li 0,.nil 17,.nil 5,.nil 3,.nil 1,.nil 4],.box 37 [.mJun c.juns,.mAg c.ags,.li c.per,.li c.cap,.li c.hold,.li c.lock,.lb false,.li 0,.own 2 y2.1.length,.own 4 y2.2.2.1.length,.own 5 y2.2.2.2.1.length,.own 6 y2.2.2.2.2.length,.own 3 y2.2.1.length],.row 70 17 false false (Jc y2.1),.row 128 4 false false (S2 y2.2.1),.row 135 5 false false (P2 y2.2.2.1),.row 138 3 false false (Qr y2.2.2.2.1),.row 3 1 false false (tI y2.2.2.2.2)]⟩) (fun i2 y2=>(y2.1=y1/\y2.2.1.length=i2/\y2.2.2.1.length=i2/\y2.2.2.2.1.length=i2/\y2.2.2.2.2.length=i2)/\((∀v∈y2.2.1,v.col.length<=8/\v.cnt.length<=8)/\y2.2.1.map (fun v=>v.cnt.length)=(c.juns.take i2).map fun j=>j.phs.length)/\(∀g∈y2.2.2.1,g.ctl.lights.length<=8/\g.ctl.nxt.length<=2)/\∀g∈y2.2.2.2.1,g.ended.length<=1000) (y1,[],[],[],[]) (wk Dz [1,2,3,4,5,6,7]) (⟨⟨rfl,rfl,rfl,rfl,rfl⟩,⟨fun d h=>(by cases h),rfl⟩,fun d h=>(by cases h),fun d h=>(by cases h)⟩) fun i2 y2 hi2 hy2=>?_
 refine Bt hp<|.seq ?_
 refine Br ?_ ?_<;>intro h55
 ·refine Bp<|.seq<|.block ?_
  obtain⟨e2,H2⟩:=gx c.juns i2
  refine Bt (Fa hp H2) ?_
  have hj:=hJ e2 (Ac H2)
  obtain⟨Y1,cY1,qY1⟩:=Ep (Ww e2 hj.1)
  have hqj:=qY1
  refine B8 (Fa hp H2) cY1 ?_
  obtain⟨Y2,cY2,qY2⟩:=Ep (Akz e2.phs.length (by omega))
  refine B8 (Fa hp H2) cY2 ?_
  refine Db (Fa hp H2) (Adl e2 Y1 Y2 hj.2 (by omega)) ?_
  refine Bt (Fa hp H2) ?_
  refine Bt (Fa hp H2) ?_
  refine B0 (Fa hp H2) ?_
  refine B0 (Fa hp H2) ?_
  exact⟨by omega,(y2.1,y2.2.1++([(Hd e2 Y1 Y2 hj.2 (by omega))]),y2.2.2.1++([Y1]),y2.2.2.2.1++([Y2]),y2.2.2.2.2++([(-1)])),⟨⟨hy2.1.1,by simp;omega,by simp;omega,by simp;omega,by simp;omega⟩,⟨Lz hy2.2.1.1 (Ad0 e2 Y1 Y2 hj.2 (by omega)),Atd hy2.2.1.2 H2 (T8 e2 Y1 Y2 hj.2 (by omega)).2⟩,Lz hy2.2.2.1 ⟨by rw[hqj.2.1];exact hj.2,by rw[hqj.2.2];exact Aj _⟩,Lz hy2.2.2.2 qY2⟩,wk (Fa (Dx ((i2:Int)+1)) H2) [0,1,2,3,4,5,6]⟩
 refine Bu<|.H hp ?_
 refine B2 Dz 2 ?_
 refine B2 Dz 4 ?_
 refine B2 Dz 5 ?_
 refine B2 Dz 6 ?_
 refine B2 Dz 3 ?_
 exact .ret (fin hp ⟨c,false,0,y2.1,y2.2.2.1,y2.2.2.2.1,y2.2.2.2.2,y2.2.1⟩ ⟨⟨rfl,hJ,hl1,hl2,by dsimp only;rw[hy2.1.1];omega,by dsimp only;rw[hy2.1.1];exact hy1.2.1,by dsimp only;omega,hy2.2.2.1,by dsimp only;omega,hy2.2.2.2,by dsimp only;omega,by dsimp only;omega,hy2.2.1.1,by have h:=hy2.2.1.2;rwa[Bf (by omega)] at h,A41 (l:=c.ags) (y:=y2.1) hS fun k a hk=>by rw[hy2.1.1];exact hy1.2.2 k a (by have:=(Ab.1 hk).1;omega) hk⟩,rfl,rfl,fun k a hk=>by have h:=hy1.2.2 k a (by have:=(Ab.1 hk).1;omega) hk;rw[hy2.1.1];exact h⟩)
end
section
theorem Afq {m:Ea} (h:m.tok.length<=2000) (h2:m.args.length<=2000) (h3:m.data.length<=2000):Hi m:=⟨h,h2,h3⟩
variable {n:Int}
theorem A2b {m:Ea} (h:Hi m) (hP:P17 m n):(!Ov m)=true:=by
 have hv:=Qw m h.v.1 h.v.2.1 h.v.2.2
 have he:=(Pl m h.v.1 h.v.2.1 h.v.2.2).2 n hP
 unfold Ov
 rw[dif_pos h,hv,he]
 rfl
def Ll (e:F3):List Int:=[e.ag,e.kind,e.code]
theorem Apf (l:List F3):(l.flatMap Ll).length=3*l.length:=by
 induction l with
 | nil=>rfl
 | cons e l ih=>rw[List.flatMap_cons,Bo,ih];simp[Ll];omega
theorem A0k {l:List F3} {i:Nat} {e:F3} {y:List Int} (h:y=n::(l.take i).flatMap Ll) (he:l[i]? = some e):y++[e.ag,e.kind,e.code]=n::(l.take (i+1)).flatMap Ll:=by
 rw[h,List.take_add_one,he]
 simp[Ll]
def Xi (n:Int) (pl:Ln) (rep:List (List Ea)) (ents:List F3) (a:List Bool) (S:Ea):List Ea:=(rep[pl.num.toNat]?).getD []++[S]++(if a[pl.num.toNat]? = some true then [⟨18,[],n::(ents.take 16).flatMap Ll,[]⟩] else [])
variable {pl:Ln} {rep:List (List Ea)} {a:List Bool} {S:Ea} {r:List Ea}
theorem Ask {ents et:List F3} {y:List Ea×List Int} {i:Nat} (h1:(rep[pl.num.toNat]?).getD []=r) (h2:a[pl.num.toNat]? = some true) (hq:y.1=r++[S]/\y.2=n::(et.take i).flatMap Ll) (he:et=ents.take (min ents.length 16)) (hi:et.length<=i):y.1++[⟨18,[],y.2,[]⟩]=Xi n pl rep ents a S:=by
 have h:et=ents.take 16:=by rw[he,List.take_eq_take_iff];omega
 unfold Xi
 rw[h1,if_pos h2,hq.1,hq.2,Bf hi,h]
variable {ents:List F3}
theorem Azj (h1:(rep[pl.num.toNat]?).getD []=r) (h2:¬a[pl.num.toNat]? = some true):r++[S]=Xi n pl rep ents a S:=by
 unfold Xi
 rw[h1,if_neg h2,List.append_nil]
theorem An8 (hrep:∀l∈rep,l.length<=900/\∀m∈l,Hi m) (hs:Hi S):(Xi n pl rep ents a S).length<=910/\∀m∈Xi n pl rep ents a S,Hi m:=by
 have hr:((rep[pl.num.toNat]?).getD []).length<=900/\∀m∈(rep[pl.num.toNat]?).getD [],Hi m:=by
  cases h:rep[pl.num.toNat]? with
  | none=>exact⟨Ae _,fun m hm=>by cases hm⟩
  | some l=>exact hrep l (Ac h)
 have he:=Apf (ents.take 16)
 have hl:(ents.take 16).length<=16:=by rw[A5];omega
 unfold Xi
 refine⟨?_,fun m hm=>?_⟩
 ·split<;>simp<;>omega
 rcases A0.1 hm with hm | hm
 ·rcases A0.1 hm with hm | hm
  ·exact hr.2 m hm
  rw[An.1 hm];exact hs
 split at hm
 ·rw[An.1 hm];exact Afq (by simp) (by rw[A6];omega) (by simp)
 cases hm
def StS (c:Fm) (e:Dy) (S:Ea):Prop:=S.kind=17/\S.args=[c.now]/\S.tok=[]/\S.data.length=vwl c.views+(e.reg.ag.rq*3).toNat/\By S.data
def A5i (c:Fm) (pl:Ln) (rep:List (List Ea)) (ents:List F3) (d:List Ea):Prop:=∃e S,c.desks[pl.ag.toNat]? = some e/\StS c e S/\d=(Xi c.now pl rep ents e.aud S).filter fun m=>!Ov m
theorem Aku (c:Fm) (pl:Ln) (rep:List (List Ea)) (ents:List F3) (hc:Kf c) (h0:0<=pl.ag) (h1:pl.ag<c.desks.length) (hn:0<=pl.num) (hrep:∀l∈rep,l.length<=900/\∀m∈l,Hi m) (hr2:rep.length<=1000) (hen:ents.length<=100000) (hn1:pl.num<rep.length) (hn2:∀d,c.desks[pl.ag.toNat]? = some d->pl.num<d.aud.length):Ct 99 [c.g,pl.g,.imm false 1 (S3 rep),.mEnt ents] (fun d:List Ea=>.mMsg d) (fun d=>d.length<=910/\(∀m∈d,Hi m)/\A5i c pl rep ents d):=by
 refine Ex Tryz.func99 ?_
 obtain⟨et,het⟩:∃et,et=ents.take (min ents.length 16):=⟨_,rfl⟩
 have hT:List.take (if (16:Int)<(ents.length:Int) then (16:Int) else (ents.length:Int)).toNat (List.map F3.t ents)=List.map F3.t et:=by rw[het,List.map_take];congr 1;split<;>omega
 have hel:et.length<=16:=by rw[het,A5];omega
 have hv4:c.views.length<=4:=by have:=hc.views;have:=hc.nj;omega
 refine Bq ?_
 obtain⟨e1,H1⟩:=gx c.desks pl.ag.toNat
 refine Bt H1 ?_
 refine Bt H1<|.seq ?_
 refine Bt H1 ?_
 refine Br ?_ ?_<;>intro h24
 ·obtain⟨e2,H2⟩:=gx rep pl.num.toNat
  refine C5 (by rfl) fun K1 hK1=>?_
  simp[go_sem,H1,H2]
  repeat' with_reducible refine Ax ?_ ?_
  all_goals try (intros;(repeat' refine Ax ?_ ?_)<;>omega)
  all_goals try (have he2:=(hrep e2 (Ac H2)).1;omega)
  refine hK1 _ ?_;clear hK1
  have hd:=hc.desk e1 (Ac H1)
  have hst:Hi (Fg e1 c.views c.now hd.1.b.reqs hd.1.rq hv4 hc.view):=by have hq:=Ai1 e1 c.views c.now hd.1.b.reqs hd.1.rq hv4 hc.view;exact Afq (by rw[hq.2.2.1];simp) (by rw[hq.2.1];simp) (by omega)
  refine B7 (by rfl) fun K1 hK1=>?_
  simp[go_sem,H1,H2]
  refine .l (Aiv e1 c.views c.now hd.1.b.reqs hd.1.rq hv4 hc.view) ?_
  simp[go_sem,H1,H2]
  repeat' with_reducible refine Ax ?_ ?_
  all_goals try (intros;(repeat' refine Ax ?_ ?_)<;>omega)
  all_goals try (have he2:=(hrep e2 (Ac H2)).1;omega)
  refine hK1 _ ?_;clear hK1
  refine Ca ?_
  have hc6:=hn2 e1 H1
  obtain⟨e3,H3⟩:=gx e1.aud pl.num.toNat
  refine Bt (Tf H1 H2 H3 hc6) ?_
  refine Br ?_ ?_<;>intro h54
  ·refine Bt (Hq H1 H2 H3)<|.seq ?_
   refine Bt (Tf H1 H2 H3 hT)<|.block ?_
   refine Bs (et.length) (fun i1 (y1:(List Ea)×(List Int))=>⟨[(10,.own 0 y1.1.length),(11,.ptr 2 0),(63,.mEnt et),(64,.li (et.length)),(65,.li i1)],[.row 56 4 false false (T3 y1.1),.row 3 1 false false (tI y1.2),.box 56 [.li 18,.nil 1,.own 1 y1.2.length,.nil 1]]⟩) (fun i1 y1=>(y1.1=e2++[(Fg e1 c.views c.now hd.1.b.reqs hd.1.rq hv4 hc.view)]/\y1.2=c.now::(et.take i1).flatMap Ll)/\y1.1.length<=901/\y1.2.length<=1+3*i1) (e2++([(Fg e1 c.views c.now hd.1.b.reqs hd.1.rq hv4 hc.view)]),[c.now]) (wk (Hq H1 H2 H3) [3,5,6]) (⟨⟨rfl,rfl⟩,by have:=(hrep e2 (Ac H2)).1;simp;omega,by simp⟩) fun i1 y1 hi1 hy1=>?_
   refine Bt (Hq H1 H2 H3)<|.seq ?_
   refine Br ?_ ?_<;>intro h66
   ·refine Bp<|.seq<|.block ?_
    obtain⟨e4,H4⟩:=gx et i1
    refine Bt (Tf H1 H2 H3 H4) ?_
    refine B0 (Tf H1 H2 H3 H4) ?_
    refine B0 (Tf H1 H2 H3 H4) ?_
    exact⟨by omega,(y1.1,y1.2++([e4.ag,e4.kind,e4.code])),⟨⟨hy1.1.1,A0k hy1.1.2 H4⟩,hy1.2.1,by simp;omega⟩,wk (X9 (Dx ((i1:Int)+1)) H1 H2 H3 H4) [0,1,2]⟩
   refine Bu<|.Z (Hq H1 H2 H3) 1 ?_
   refine B0 (Hq H1 H2 H3) ?_
   have hE:(((y1.1++([⟨18,[],y1.2,[]⟩])):List Ea))=Xi c.now pl rep ents e1.aud (Fg e1 c.views c.now hd.1.b.reqs hd.1.rq hv4 hc.view):=by exact Ask (r:=e2) (by rw[H2]<;>rfl) (by rw[H3,h54]) hy1.1 het (by omega)
   have hpk:=An8 (n:=c.now) (pl:=pl) (ents:=ents) (a:=e1.aud) hrep hst
   rw[<- hE] at hpk
   obtain⟨R,hR,_⟩:=Tm (((y1.1++([⟨18,[],y1.2,[]⟩])):List Ea)) (by have:=hpk.1;omega) hpk.2
   generalize hV:List.filter (fun t=>!Ov t) (((y1.1++([⟨18,[],y1.2,[]⟩])):List Ea))=V at hR
   refine Dc (Hq H1 H2 H3) [0] hR ?_
   exact .ret (fin (Hq H1 H2 H3) V ⟨by rw[<- hV];exact Ak (Az _ _) hpk.1,(fun m hm=>by rw[<- hV] at hm;exact hpk.2 m (Bn.1 hm).1),e1,_,H1,Qx e1 c.views c.now hd.1.b.reqs hd.1.rq hv4 hc.view,by rw[<- hE];exact hV.symm⟩)
  refine Bp ?_
  have hE:(((e2++([(Fg e1 c.views c.now hd.1.b.reqs hd.1.rq hv4 hc.view)])):List Ea))=Xi c.now pl rep ents e1.aud (Fg e1 c.views c.now hd.1.b.reqs hd.1.rq hv4 hc.view):=by first | exact Ask (r:=e2) (by rw[H2]<;>rfl) (by rw[H3,h54]) hy1.1 het (by omega) | exact Azj (r:=e2) (by rw[H2]<;>rfl) (by rw[H3,h54]<;>decide)
  have hpk:=An8 (n:=c.now) (pl:=pl) (ents:=ents) (a:=e1.aud) hrep hst
  rw[<- hE] at hpk
  obtain⟨R,hR,_⟩:=Tm (((e2++([(Fg e1 c.views c.now hd.1.b.reqs hd.1.rq hv4 hc.view)])):List Ea)) (by have:=hpk.1;omega) hpk.2
  generalize hV:List.filter (fun t=>!Ov t) (((e2++([(Fg e1 c.views c.now hd.1.b.reqs hd.1.rq hv4 hc.view)])):List Ea))=V at hR
  refine Dc (Hq H1 H2 H3) [3] hR ?_
  exact .ret (fin (Hq H1 H2 H3) V ⟨by rw[<- hV];exact Ak (Az _ _) hpk.1,(fun m hm=>by rw[<- hV] at hm;exact hpk.2 m (Bn.1 hm).1),e1,_,H1,Qx e1 c.views c.now hd.1.b.reqs hd.1.rq hv4 hc.view,by rw[<- hE];exact hV.symm⟩)
 exfalso;omega
end
section
section
variable (c:Fm) (k:Int) (hd:c.desks.length<=1000) (hr:∀d∈c.desks,d.reqs.length<=1000/\∀r∈d.reqs,r.legs.length<=1000000)
include k hd hr
theorem Tn:∃d:List Fe,PP 128 [] [c.g,.li k] [.row 287 5 false false (Xk d)] (.own 0 d.length)/\(d.length<=1000000):=by
 refine Oh (D:=List Fe) (F:=fun d=>.own 0 d.length) (S:=fun d=>[.row 287 5 false false (Xk d)]) (Q:=fun d=>d.length<=1000000) Tryz.func128 rfl rfl rfl (by simp[Tryz.ntmps128]) ?_
 refine Bq ?_
 refine Bq<|.seq ?_
 refine Bq<|.block ?_
 refine Cg 5 287 5 (by decide) (k':=5) (by simp[go_sem]) ?_
 simp[go_sem,-Prod.exists]
 refine Bs c.desks.length (fun i1 (y1:(List Fe))=>⟨[(1,.li k),(5,.own 0 y1.length),(9,.mDesk c.desks),(10,.li c.desks.length),(11,.li i1)],[.row 287 5 false false (Xk y1)]⟩) (fun i1 y1=>y1.length<=1000*i1) ([]) (wk Dz [1]) (by simp) fun i1 y1 hi1 hy1=>?_
 refine Bq<|.seq ?_
 refine Br ?_ ?_<;>intro h12
 ·refine Bp<|.seq<|.block ?_
  obtain⟨e1,H1⟩:=gx c.desks i1
  refine Bt H1 ?_
  have hr1:=hr e1 (Ac H1)
  have hr2:e1.reqs.length<=1000000:=by omega
  obtain⟨Y1,cY1,qY1⟩:=Ep (Aca e1.reqs e1.reg.num k hr2 hr1.2)
  have hq1:=qY1
  refine Dj H1 cY1 ?_
  refine B0 H1 ?_
  refine⟨by omega,(y1++Y1),?_,wk (Fa (Dx ((i1:Int)+1)) H1) [0]⟩
  simp;omega
 refine Bu<|.R ?_
 exact .ret ⟨y1,rW Dz [0],(by omega)⟩
def Nl:List Fe:=(Tn c k hd hr).choose
theorem Ais:PP 128 [] [c.g,.li k] [.row 287 5 false false (Xk (Nl c k hd hr))] (.own 0 (Nl c k hd hr).length):=(Tn c k hd hr).choose_spec.1
theorem Aor:(Nl c k hd hr).length<=1000000:=(Tn c k hd hr).choose_spec.2
theorem Air:PP 128 [] [c.g,.li k] [] (.imm true 5 (Xk (Nl c k hd hr))):=by
 have h:=(Ais c k hd hr).fresh (by simp[T.plain,Fe.t])
 refine E7.froz (es:=Xk (Nl c k hd hr)) (fz:=false) (ty:=287) ?_
 simpa using h
end
variable {α:Type}
theorem Av5 {l:List α} {i:Nat} (x:α) (h:i<l.length):(l.set i x).take (i+1)=l.take i++[x]:=by
 rw[List.take_add_one,Bg h,List.take_set_of_le (Aj _)]
 rfl
structure A7p (c:Fm) (i:Nat) (y:List Ib×List Fx×List Int×List Gp):Prop where
  sigs:y.1.length=c.cfg.juns.length
  sig:∀g∈y.1,g.ctl.lights.length<=8/\g.ctl.nxt.length<=2
  svcs:y.2.1.length=c.cfg.juns.length
  svc:∀g∈y.2.1,g.ended.length<=1000
  stuck:y.2.2.1.length=c.cfg.juns.length
  views:y.2.2.2.length=c.cfg.juns.length
  view:∀v∈y.2.2.2,v.col.length<=8/\v.cnt.length<=8
  vw:(y.2.2.2.take i).map (fun v=>v.cnt.length)=(c.cfg.juns.take i).map fun j=>j.phs.length
theorem Aml {p:α->Prop} {l:List α} {i:Nat} {x:α} (h:∀y∈l,p y) (hx:p x):∀y∈l.set i x,p y:=fun y hy=>by
 rcases Bi hy with h1 | h1
 ·exact h y h1
 rw[h1];exact hx
theorem Aea (c:Fm) (hc:Kf c):Cx 97 [.box 37 [.mJun c.cfg.juns,.mAg c.cfg.ags,.li c.cfg.per,.li c.cfg.cap,.li c.cfg.hold,.li c.cfg.lock,.lb c.ref,.li c.now,.mDesk c.desks,.own 1 c.sigs.length,.own 2 c.svcs.length,.own 3 c.stuck.length,.mView c.views],.row 135 5 false false (P2 c.sigs),.row 138 3 false false (Qr c.svcs),.row 3 1 false false (tI c.stuck)] [.ptr 0 0] (fun d:Fm=>[.box 37 [.mJun d.cfg.juns,.mAg d.cfg.ags,.li d.cfg.per,.li d.cfg.cap,.li d.cfg.hold,.li d.cfg.lock,.lb d.ref,.li d.now,.mDesk d.desks,.own 1 d.sigs.length,.own 2 d.svcs.length,.own 3 d.stuck.length,.own 4 d.views.length],.row 135 5 false false (P2 d.sigs),.row 138 3 false false (Qr d.svcs),.row 3 1 false false (tI d.stuck),.row 128 4 false false (S2 d.views)]) (fun d=>.tup []) (fun d=>Kf d/\d.cfg=c.cfg/\d.now=c.now/\d.desks=c.desks):=by
 refine U3 Tryz.func97 ?_
 have hj4:=hc.nj
 have hsg:=hc.sigs
 have hsv:=hc.svcs
 have hst:=hc.stuck
 have hdl:c.desks.length<=1000:=by have:=hc.desks;have:=hc.na;omega
 have hdr:∀d∈c.desks,d.reqs.length<=1000/\∀r∈d.reqs,r.legs.length<=1000000:=fun d hd=>⟨Ak (hc.desk d hd).1.reqs (by decide),(hc.desk d hd).1.b.legs⟩
 refine Cy (fun K kk=>by simp[go_sem,hsg,hsv];exact kk) ?_
 refine B3 (fun K kk=>by simp[go_sem,hsg,hsv];repeat first | exact kk | refine aK ?_) ?_
 refine Bq<|.block ?_
 refine Bs c.cfg.juns.length (fun i1 (y1:(List Ib)×(List Fx)×(List Int)×(List Gp))=>⟨[(0,.ptr 0 0),(28,.li c.cfg.juns.length),(29,.li i1)],[.box 37 [.mJun c.cfg.juns,.mAg c.cfg.ags,.li c.cfg.per,.li c.cfg.cap,.li c.cfg.hold,.li c.cfg.lock,.lb c.ref,.li c.now,.mDesk c.desks,.own 1 y1.1.length,.own 2 y1.2.1.length,.own 3 y1.2.2.1.length,.own 4 y1.2.2.2.length],.row 135 5 false false (P2 y1.1),.row 138 3 false false (Qr y1.2.1),.row 3 1 false false (tI y1.2.2.1),.row 128 4 false false (S2 y1.2.2.2)]⟩) (fun i1 y1=>A7p c i1 y1) (c.sigs,c.svcs,c.stuck,List.replicate c.cfg.juns.length ⟨false,false,[],[]⟩) ⟨[0,1,2,3,4],Es (by decide) ?_ ?_,F7 rfl⟩ (⟨hc.sigs,hc.sig,hc.svcs,hc.svc,hc.stuck,by simp,(fun v hv=>by have:=List.eq_of_mem_replicate hv;subst this;exact⟨Ae _,Ae _⟩),rfl⟩) fun i1 y1 hi1 hy1=>?_
 ·repeat' (first | exact .nil | refine .cons (by simp[go_sem,hsg,hsv]) ?_)
 ·repeat' (first | exact .nil | refine .cons (by simp[go_sem,hsg,hsv]) ?_)
 refine Bq<|.seq ?_
 refine Br ?_ ?_<;>intro h30
 ·refine Bp<|.seq<|.block ?_
  have hl1:=hy1.sigs
  have hl2:=hy1.svcs
  have hl3:=hy1.stuck
  have hl4:=hy1.views
  refine Bq ?_
  obtain⟨e1,H1⟩:=gx c.cfg.juns i1
  refine B3 (fun K kk=>by simp[go_sem,H1];repeat first | exact kk | refine aK ?_) ?_
  refine B3 (fun K kk=>by simp[go_sem,H1];exact kk)<|.seq ?_
  refine B3 (fun K kk=>by simp[go_sem,H1];exact kk) ?_
  refine Cs ?_ ?_<;>intro h46<;>simp[go_sem] at h46
  obtain⟨e2,H2⟩:=gx y1.2.2.1 i1
  refine B3 (fun K kk=>by simp[go_sem,H1,H2];repeat first | exact kk | refine aK ?_) ?_
  refine Ck (fun K kk=>by simp[go_sem,H1,H2];repeat first | exact kk | refine aK ?_) ?_
  obtain⟨gk,hgk⟩:∃e,y1.1[i1]? = some e:=⟨_,Aa (by omega)⟩
  obtain⟨vk,hvk⟩:∃e,y1.2.1[i1]? = some e:=⟨_,Aa (by omega)⟩
  have hjb:=hc.jun e1 (Ac H1)
  have hsb:=hy1.sig gk (Ac hgk)
  have hvb:vk.ended.length<=1000000:=Ak (hy1.svc vk (Ac hvk)) (by decide)
  have hCv:=Air ⟨c.cfg,c.ref,c.now,c.desks,y1.1,y1.2.1,(y1.2.2.1).set i1 (-1),y1.2.2.2⟩ i1 hdl hdr
  have hCl:=Aor ⟨c.cfg,c.ref,c.now,c.desks,y1.1,y1.2.1,(y1.2.2.1).set i1 (-1),y1.2.2.2⟩ i1 hdl hdr
  generalize Nl ⟨c.cfg,c.ref,c.now,c.desks,y1.1,y1.2.1,(y1.2.2.1).set i1 (-1),y1.2.2.2⟩ i1 hdl hdr=CL at hCv hCl
  have hQ:=Al3 c.cfg e1 gk vk CL e2 c.now hjb.2 hjb.1.con hsb.1 hsb.2 hvb hCl
  have hDv:=Ale c.cfg e1 gk vk CL e2 c.now hjb.2 hjb.1.con hsb.1 hsb.2 hvb hCl
  generalize Lv c.cfg e1 gk vk CL e2 c.now hjb.2 hjb.1.con hsb.1 hsb.2 hvb hCl=D at hQ hDv
  refine Dh (by kernel_rfl) (by rfl) (by kernel_rfl) fun K1 hK1=>?_
  simp[go_sem,H1,H2,hgk,hvk]
  repeat' with_reducible refine Ax ?_ ?_
  all_goals try (intros;(repeat' refine Ax ?_ ?_)<;>omega)
  refine .lo (hCv) (by simp[go_sem,AV.low,Kq,List.map_set]) (by simp[AV.cln,Fu]) ?_
  simp[go_sem,H1,H2,hgk,hvk]
  refine .l (hDv) ?_
  simp[go_sem,H1,H2,hgk,hvk]
  repeat' with_reducible refine Ax ?_ ?_
  all_goals try (intros;(repeat' refine Ax ?_ ?_)<;>omega)
  refine hK1 _ _ (by kernel_rfl) ?_;clear hK1
  have hs1:∀v,((P2 y1.1).set i1 v)[i1]? = some v:=fun v=>Bg (by simp;omega)
  have hs2:∀v,((Qr y1.2.1).set i1 v)[i1]? = some v:=fun v=>Bg (by simp;omega)
  have hWv:=Adl e1 D.1 D.2 hjb.2 hQ.1
  have hW:=Ad0 e1 D.1 D.2 hjb.2 hQ.1
  have hWn:=(T8 e1 D.1 D.2 hjb.2 hQ.1).2
  generalize Hd e1 D.1 D.2 hjb.2 hQ.1=W at hWv hW hWn
  obtain⟨e3,H3⟩:=gx ((y1.1).set i1 D.1) i1
  obtain⟨e4,H4⟩:=gx ((y1.2.1).set i1 D.2) i1
  obtain⟨e5,H5⟩:=gx y1.2.2.2 i1
  refine VX.draw1 (by kernel_rfl) (by rfl) (by kernel_rfl) fun K1 hK1=>?_
  simp[go_sem,H1,H2,H3,H4,H5,hs1,hs2]
  repeat' with_reducible refine Ax ?_ ?_
  all_goals try (intros;(repeat' refine Ax ?_ ?_)<;>omega)
  refine .l (hWv) ?_
  simp[go_sem,H1,H2,H3,H4,H5,hs1,hs2]
  repeat' with_reducible refine Ax ?_ ?_
  all_goals try (intros;(repeat' refine Ax ?_ ?_)<;>omega)
  refine hK1 _ _ (by kernel_rfl) ?_;clear hK1
  refine Ck (fun K kk=>by simp[go_sem,H1,H2,H3,H4,H5];exact kk) ?_
  refine⟨by omega,((y1.1).set i1 D.1,(y1.2.1).set i1 D.2,(y1.2.2.1).set i1 (-1),(y1.2.2.2).set i1 W),?_,[0,1,2,3,4],Es (by decide) ?_ ?_,F7 rfl⟩
  ·exact⟨by simpa using hl1,Aml hy1.sig ⟨hQ.1,hQ.2.1⟩,by simpa using hl2,Aml hy1.svc (by rw[hQ.2.2];exact hy1.svc vk (Ac hvk)),by simpa using hl3,by simpa using hl4,Aml hy1.view hW,by rw[Av5 _ (by omega)];exact Atd hy1.vw H1 hWn⟩
  all_goals repeat' (first | exact .nil | refine .cons (by simp[go_sem,Dx ((i1:Int)+1),H1,H2,H3,H4,H5]) ?_)
 refine Bu ?_
 refine⟨⟨c.cfg,c.ref,c.now,c.desks,y1.1,y1.2.1,y1.2.2.1,y1.2.2.2⟩,Alw [0,1,2,3,4] (by simp[go_sem]) (by decide) (F7 rfl) (by simp[go_sem]) ?_,⟨⟨hc.ref,hc.jun,hc.nj,hc.na,hc.desks,hc.desk,hy1.sigs,hy1.sig,hy1.svcs,hy1.svc,hy1.stuck,hy1.views,hy1.view,by have h:=hy1.vw;have h4:=hy1.views;rwa[Bf (by omega),Bf (by omega)] at h,hc.dl⟩,rfl,rfl,rfl⟩⟩
 repeat' (first | exact .nil | refine .cons (by simp[go_sem]) ?_)
end
section
variable {β:Nat->Option Nat} {w:World}
theorem Aud {P:Program} {E:Gs} {st:St} {a:Act} (r:Eu E β st a w) {nid:Nat} (hn:st.o nid=.gone) {t:TypeId} {l c:AV} {ul uc:Value} (hl:Ec (E.C β st w) l ul) (hcc:Ec (E.C β st w) c uc) (hc:(V8 P t l c nid).c) (hs1:Gj P (Ed P t)=1) (hz1:Nr P (Ed P t)=[.slice none 0 0]) :
 ∃u w' β',(Instr.makeSlice t ul uc).run P w=.ok u w'/\Eu E β' (st.set nid (.row (Ed P t) 1 true false (List.replicate (Fy l).toNat [.lit (.slice none 0 0)]))) a w'/\Ec (E.C β' (st.set nid (.row (Ed P t) 1 true false (List.replicate (Fy l).toNat [.lit (.slice none 0 0)]))) w') (.own nid (Fy l).toNat) u:=by
 obtain⟨h1,h2,h3,h4,h5,h6,h7,h8,h9⟩:=hc
 obtain⟨kl,rfl⟩:=Ir h1 hl
 obtain⟨kc,rfl⟩:=Ir h2 hcc
 obtain⟨i,z,hi,hz,hsz,hzs,htl,hcell⟩:=Q2 h4
 have hby:i.bytes<=1000000:=by simpa[Jx,hi] using h9
 have hmul:(i.bytes:Int)*Fy c<=281474976710656:=by
  have a1:(i.bytes:Int)<=1000000:=by omega
  have a2:=Int.mul_le_mul a1 h8 (by omega) (by omega)
  omega
 have hrun:=run_make (P:=P) w t _ i z (Fv h3) hi hz kl kc (Fy l) (Fy c) h6 h7 hmul (by omega)
 have hms:=size_madeCells z.cells ((Fy c).toNat*i.size)
 rw[hsz] at hrun hms
 have hzc:z.cells.toList=[.slice none 0 0]:=by rw[<- hz1];simp[Nr,hi,hz]
 have hz0:z.cells = #[.slice none 0 0]:=by rw[<- hzc]
 obtain⟨q1,q2⟩:=Alt (ty:=Ed P t) (fr:=true) r hn (es:=List.replicate (Fy l).toNat [.lit (.slice none 0 0)]) (k:=1) (cur:=madeCells z.cells ((Fy c).toNat*Gj P (Ed P t))) (c:=(Fy c).toNat) (by decide)
  (fun i e he=>by rw[List.getElem?_replicate] at he;split at he<;>simp at he;rw[<- he];rfl) (by rw[hms,hs1]) (by rw[List.length_replicate];omega) (by simp only[maxLen];omega) (fun i' e j x he hx=>by
   rw[List.getElem?_replicate] at he
   split at he
   ·rename_i hlt
    simp at he
    subst he
    have hj:j=0:=by
     have:=(Ab.1 hx).1
     simp at this;omega
    subst hj
    simp at hx
    subst hx
    refine⟨.slice none 0 0,?_,.lit _ rfl⟩
    have hlt2:i'*1+0<(Fy c).toNat*Gj P (Ed P t):=by rw[hs1];omega
    have h0:(0:Nat)<z.cells.size:=by rw[hz0];decide
    simp only[madeCells]
    rw[Array.getElem?_map,Array.getElem?_range,if_pos hlt2]
    have hmod:(i'*1+0) % z.cells.size=0:=by rw[hz0];show _ % 1=0;omega
    simp only[Ai,hmod]
    rw[getElem!_pos z.cells 0 h0]
    simp[hz0]
   cases he)
 rw[List.length_replicate] at q2
 exact⟨_,_,_,hrun,q1,q2⟩
variable {id0:Nat} {l:List Oper}
section
variable {P:Program} {n m:Nat} {st:St} {K:Exit->St->Prop} {c:Code}
theorem VW.region_mk (j:Nat) (o:Oper) (t:TypeId) (x y:Operand) (hd:Ft n l=true) (hj:l.drop j=o::l.drop (j+1)) (hop:o.op=.makeSlice t x y) (hg:Oi l.toArray o=.no) (hs1:Gj P (Ed P t)=1) (hz1:Nr P (Ed P t)=[.slice none 0 0]) (h:runs P ((Gh l).take j) st (fun s=>(s.raw x).sb=true/\(s.raw y).sb=true/\(V8 P t (s.raw x).sv (s.raw y).sv s.ob.length).c /\
  runs P ((Gh l).drop (j+1)) ((s.put o.dst (.own s.ob.length (Fy (s.raw x).sv).toNat)).set s.ob.length (.row (Ed P t) 1 true false (List.replicate (Fy (s.raw x).sv).toNat [.lit (.slice none 0 0)]))) (K .normal))):VW P n m (.region id0 l.toArray false) st K:=fun E F hE hF β a w r=>by
 have hd':∀o∈l,∀x,o.dst=some x->x<E.n:=fun o ho x hx=>by rw[hE.1];exact Pq hd o ho x hx
 refine wpIn_region_lit ?_
 have key:=Xp (P:=P) (Q:=Ah1 E K) hF (ops:=l.toArray) (l.drop j) (fun s β a w hs r=>?_) (l.take j) (fun o ho=>hd' o (Aq ho)) st β a w (by
  have:=h
  simp only[Gh,<- List.map_take] at this
  exact this) r
 ·rwa[List.take_append_drop] at key
 obtain⟨h1,h2,h3,h4⟩:=hs
 rw[hj]
 unfold wpListIn
 rw[Yg r l.toArray o (by rw[hg];trivial),hg]
 rw[if_pos (by rfl)]
 obtain⟨u,w',β',g1,g2,g3⟩:=Aud (P:=P) r (Hf s _ (Aj _)) ((M9 r x).sv.1 h1) ((M9 r y).sv.1 h2) h3 hs1 hz1
 refine Ru hF (by rw[hop];intro c e;cases e) ?_
 have ho:o∈l:=Ay (by rw[hj];exact List.mem_cons_self)
 unfold Oper.wp
 simp only[execOp,hop,Sem.run_bind,g1,Result.andThen_ok]
 have key2:Eu E β' ((s.put o.dst (.own s.ob.length (Fy (s.raw x).sv).toNat)).set s.ob.length (.row (Ed P t) 1 true false (List.replicate (Fy (s.raw x).sv).toNat [.lit (.slice none 0 0)]))) (a.put o.dst u) w':=by
  rw[St.put_set]
  exact g2.put g3 o.dst (hd' o ho)
 refine Aa9 hF (fun s β a w h1 h2=>⟨E,s,β,Hs.refl E,h1,h2⟩) (l.drop (j+1)) (fun o ho=>hd' o (Ay ho)) _ β' _ w' ?_ key2
 rw[List.map_drop]
 exact h4
theorem VX.region_mk (j:Nat) (o:Oper) (t:TypeId) (x y:Operand) (hd:Ft n l=true) (hj:l.drop j=o::l.drop (j+1)) (hop:o.op=.makeSlice t x y) (hg:Oi l.toArray o=.no) (hs1:Gj P (Ed P t)=1) (hz1:Nr P (Ed P t)=[.slice none 0 0]) (h:∀K1:St->Prop,(∀s,K .normal s->K1 s)->runs P ((Gh l).take j) st (fun s=>(s.raw x).sb=true/\(s.raw y).sb=true/\(V8 P t (s.raw x).sv (s.raw y).sv s.ob.length).c /\
  runs P ((Gh l).drop (j+1)) ((s.put o.dst (.own s.ob.length (Fy (s.raw x).sv).toNat)).set s.ob.length (.row (Ed P t) 1 true false (List.replicate (Fy (s.raw x).sv).toNat [.lit (.slice none 0 0)]))) K1)):VX P n m (.region id0 l.toArray false) st K:=by
 obtain⟨s,h1,h2,h3,h4,h5⟩:=Q6 _ _ (h _ fun _ h=>h)
 obtain⟨s2,h6,h7⟩:=Q6 _ _ h5
 refine⟨.normal,s2,.region_mk j o t x y hd hj hop hg hs1 hz1 (Lt _ _ ?_ h1),h7⟩
 rintro s' rfl
 exact⟨h2,h3,h4,Lt _ _ (by rintro s' rfl;exact⟨rfl,rfl⟩) h6⟩
theorem VX.region_mk_seq {y0:Code} (j:Nat) (o:Oper) (t:TypeId) (x y:Operand) (hd:Ft n l=true) (hj:l.drop j=o::l.drop (j+1)) (hop:o.op=.makeSlice t x y) (hg:Oi l.toArray o=.no) (hs1:Gj P (Ed P t)=1) (hz1:Nr P (Ed P t)=[.slice none 0 0]) (h:∀K1:St->Prop,(∀s,VX P n m y0 s K->K1 s)->runs P ((Gh l).take j) st (fun s=>(s.raw x).sb=true/\(s.raw y).sb=true/\(V8 P t (s.raw x).sv (s.raw y).sv s.ob.length).c /\
  runs P ((Gh l).drop (j+1)) ((s.put o.dst (.own s.ob.length (Fy (s.raw x).sv).toNat)).set s.ob.length (.row (Ed P t) 1 true false (List.replicate (Fy (s.raw x).sv).toNat [.lit (.slice none 0 0)]))) K1)):VX P n m (.seq (.region id0 l.toArray false) y0) st K :=
 .seq (.region_mk j o t x y hd hj hop hg hs1 hz1 fun K1 hK1=>h K1 hK1)
abbrev Dl:=@VX.region_mk_seq
end
variable {cs:List AV}
theorem Eu.cellTo {E:Gs} {st:St} {a:Act} (r:Eu E β st a w) {b i:Nat} {c0 c1:AV} {ty:TypeId} (hb:st.o b=.box ty cs) (hi:cs[i]? = some c0) (hn:∀u,Ec (E.C β st w) c0 u->Ec (E.C β st w) c1 u) :
 Eu E β (st.set b (.box ty (cs.set i (c1)))) a w:=by
 have ho':∀j,j≠b->(st.set b (.box ty (cs.set i (c1)))).o j=st.o j:=fun j hj=>by rw[St.set_o,if_neg hj]
 have ho:(st.set b (.box ty (cs.set i (c1)))).o b=.box ty (cs.set i (c1)):=by rw[St.set_o,if_pos rfl]
 have hng:∀j,(st.set b (.box ty (cs.set i (c1)))).o j≠.gone->st.o j≠.gone:=fun j hj=>by
  by_cases e:j=b
  ·subst e;rw[hb];simp
  rw[ho' j e] at hj;exact hj
 have s:Ot (E.C β st w) (E.C β (st.set b (.box ty (cs.set i (c1)))) w):=by
  refine⟨rfl,fun _ h=>h,fun _ h=>h,fun _ h=>h,Aj _,?_,fun _ _ _=>rfl,?_,?_⟩
  ·rintro x hx ⟨j,h1,h2⟩
   have h2:((st.set b (.box ty (cs.set i (c1)))).o j).live:=h2
   by_cases e:j=b
   ·subst e;exact⟨j,h1,by show (st.o j).live;rw[hb];trivial⟩
   rw[ho' j e] at h2;exact⟨j,h1,h2⟩
  ·intro j ty' cs' hj
   have hj:st.o j=.box ty' cs':=hj
   by_cases e:j=b
   ·subst e
    rw[hb] at hj
    injection hj with e1 e2
    subst e1
    exact⟨⟨_,ho⟩,rfl⟩
   exact⟨⟨cs',(ho' j e).trans hj⟩,rfl⟩
  intro j ty' k' fr' fz' es' hj
  have hj:st.o j=.row ty' k' fr' fz' es':=hj
  have e:j≠b:=fun e=>by subst e;rw[hb] at hj;cases hj
  exact⟨_,_,_,(ho' j e).trans hj,Aj _,fun _=>⟨rfl,fun b cc hb hc=>⟨cc,hc,rfl⟩⟩⟩
 refine r.move s rfl (fun j=>?_) (fun i j x hi hj=>r.inj i j x (hng i hi) (hng j hj)) (fun j x hj=>r.rng j x (hng j hj)) r.kp
 by_cases e:j=b
 ·subst e
  rw[ho]
  have h:=r.ob j
  rw[hb] at h
  obtain⟨x,cur,h1,h2,h3,h4⟩:=h
  refine⟨x,cur,h1,h2,by rw[List.length_set];exact h3,fun q c u hc hu=>?_⟩
  rw[List.getElem?_set] at hc
  split at hc
  ·rename_i e
   subst e
   split at hc
   ·injection hc with hc
    subst hc
    obtain⟨g1,g2⟩:=h4 i _ u hi hu
    exact⟨(hn u g1).step s,g2⟩
   cases hc
  exact⟨(h4 q c u hc hu).1.step s,(h4 q c u hc hu).2⟩
 rw[ho' j e]
 exact (r.ob j).step s rfl fun _ _=>rfl
variable {bt:TypeId}
section
variable {P:Program} {n m:Nat} {st:St} {K:Exit->St->Prop} {c:Code}
theorem VW.own0l (b i:Nat) (ty k:Nat) (hk:0<k) (hb:st.o b=.box bt cs) (hi:cs[i]? = some (.lit (.slice none 0 0))) (hv:VW P n m c ((st.set st.ob.length (.row ty k true false [])).set b (.box bt (cs.set i (.own st.ob.length 0)))) K):VW P n m c st K:=fun E F hE hF β a w r=>by
 obtain⟨r1,h1⟩:=r.empty (Hf st st.ob.length (Aj _)) ty hk true
 have hne:b≠st.ob.length:=fun e=>by
  have:=Hf st st.ob.length (Aj _)
  rw[<- e,hb] at this
  cases this
 exact hv E F hE hF _ a w (r1.cellTo (by rw[St.set_o,if_neg hne];exact hb) hi fun u hu=>by cases hu;exact h1 none)
theorem VX.own0l (b i:Nat) (ty k:Nat) (hk:0<k) (hb:st.o b=.box bt cs) (hi:cs[i]? = some (.lit (.slice none 0 0))) (hv:VX P n m c ((st.set st.ob.length (.row ty k true false [])).set b (.box bt (cs.set i (.own st.ob.length 0)))) K):VX P n m c st K:=by
 obtain⟨e,s,h1,h2⟩:=hv
 exact⟨e,s,.own0l b i ty k hk hb hi h1,h2⟩
end
end
section
def HdR (cfg:E5) (x:Dy) (ses:Int) (it:E8) (now:Int) (d:Dy×Ea×F3×Int):Prop:=∃hd hp,Ga cfg x ses it now hd hp=d
inductive ItR (cfg:E5) (ses now:Int) (x:Dy):List E8->Dy->List Ea->List F3->List Int->Prop
  | nil:ItR cfg ses now x [] x [] [] []
  | app {l:List E8} {y z:Dy} {r:List Ea} {e:List F3} {s:List Int} {t:E8} {m:Ea} {n:F3} {k:Int}:ItR cfg ses now x l y r e s->HdR cfg y ses t now (z,m,n,k)->ItR cfg ses now x (l++[t]) z (r++[m]) (e++[n]) (s++if 0<=k then [k] else [])
inductive Zr (cfg:E5) (now:Int) (x:Dy):List Fs->Dy->List (List Ea)->List F3->List Int->Prop
  | nil:Zr cfg now x [] x [] [] []
  | closed {l:List Fs} {y:Dy} {r:List (List Ea)} {e:List F3} {s:List Int} {p:Fs}:Zr cfg now x l y r e s->p.op=false->Zr cfg now x (l++[p]) y (r++[[]]) e s
  | opened {l:List Fs} {y z:Dy} {r:List (List Ea)} {e e':List F3} {s s':List Int} {p:Fs} {q:List Ea}:Zr cfg now x l y r e s->p.op=true->ItR cfg l.length now y p.items z q e' s'->Zr cfg now x (l++[p]) z (r++[q]) (e++e') (s++s')
variable {cfg:E5} {x y:Dy} {e:List F3} {s s':List Int} {i:Nat}
theorem ItR.next {ses now:Int} {l:List E8} {r:List Ea} {t:E8} {d:Dy×Ea×F3×Int} (h:ItR cfg ses now x (l.take i) y r e s) (ht:l[i]? = some t) (hd:HdR cfg y ses t now d) (hs:s'=s++if 0<=d.2.2.2 then [d.2.2.2] else []):ItR cfg ses now x (l.take (i+1)) d.1 (r++[d.2.1]) (e++[d.2.2.1]) s':=by
 rw[List.take_add_one,ht,hs]
 exact h.app hd
variable {now:Int} {l:List Fs} {r:List (List Ea)}
theorem Zr.shut {s:List Int} {p:Fs} (h:Zr cfg now x (l.take i) y r e s) (hp:l[i]? = some p) (ho:p.op=false):Zr cfg now x (l.take (i+1)) y (r++[[]]) e s:=by
 rw[List.take_add_one,hp]
 exact h.closed ho
theorem Zr.next {x y z:Dy} {e e':List F3} {p:Fs} {q:List Ea} (h:Zr cfg now x (l.take i) y r e s) (hp:l[i]? = some p) (ho:p.op=true) (hi:ItR cfg i now y p.items z q e' s'):Zr cfg now x (l.take (i+1)) z (r++[q]) (e++e') (s++s'):=by
 have hl:(l.take i).length=i:=by have:=(Ab.1 hp).1;rw[A5];omega
 rw[List.take_add_one,hp]
 exact h.opened ho (by rw[hl];exact hi)
def Ayg (x y:List Bool):Prop:=∀k:Nat,y[k]? = x[k]? \/ y[k]? = some false
theorem Amk {x y:List Bool} (h:Ayg x y) (i:Nat):Ayg x (y.set i false):=fun k=>by
 by_cases hk:i=k
 ·subst hk
  by_cases hl:i<y.length
  ·exact .inr (Bg hl)
  rw[List.set_eq_of_length_le (by omega)];exact h _
 rw[A9 hk];exact h k
def Wl (cfg:E5) (x:Dy) (l:List Fs) (now:Int) (d:Dy×List (List Ea)×List F3×List Int):Prop:=∃(b:List Bool) (y:Dy) (r:List (List Ea)) (h1:y.reqs.length<=3) (h2:∀q∈y.reqs,q.legs.length<=1000000),b.length=x.aud.length/\Ayg x.aud b/\Zr cfg now ⟨x.reg,x.reqs,x.draws,b⟩ (l.take x.aud.length) y r d.2.2.1 d.2.2.2/\d.1=⟨y.reg,Ih y.reqs now h1 h2,y.draws,y.aud⟩/\d.2.1=r++List.replicate (x.aud.length - r.length) []
def Ate (x:Dy) (d:Dy×List (List Ea)×List F3×List Int):Prop:=Gg d.1/\d.1.aud.length=x.aud.length/\d.1.reg.num=x.reg.num/\d.1.reg.ag=x.reg.ag/\d.2.1.length=x.aud.length/\(∀r∈d.2.1,r.length<=257/\∀m∈r,Hi m)/\d.2.2.1.length<=600/\d.2.2.2.length<=600
structure Tg (x y:Dy):Prop where
  d:Gg y
  aud:y.aud.length=x.aud.length
  num:y.reg.num=x.reg.num
  ag:y.reg.ag=x.reg.ag
theorem Kr {α:Type} {p:α->Prop} {l:List α} {x:α} (h:∀y∈l,p y) (hx:p x):∀y∈l++[x],p y:=fun y hy=>by
 rcases A0.1 hy with h1 | h1
 ·exact h y h1
 rw[An.1 h1];exact hx
theorem Tg.next {x y z:Dy} {m:Ea} (h:Tg x y) (q:A08 y z m):Tg x z:=⟨q.1,q.2.1.trans h.aud,q.2.2.1.trans h.num,q.2.2.2.1.trans h.ag⟩
theorem Tg.marked (h:Tg x y) {rs:List Ew} (h1:rs.length=y.reqs.length) (h2:∀r∈rs,r.legs.length<=1000000) (h3:(∀r∈y.reqs,Zs r)->∀r∈rs,Zs r):Gg ⟨y.reg,rs,y.draws,y.aud⟩:=⟨⟨h.d.b.reg,by rw[h1];exact h.d.b.reqs,h2,h.d.b.draws,h.d.b.draw,h.d.b.aud⟩,h.d.vehs,by rw[h1];exact h.d.reqs,h.d.dr,h.d.rq,by rw[h1];exact h.d.rl,h3 h.d.rk⟩
theorem Tg.audited {x:Dy} (h:Gg x) {l:List Bool} (h1:l.length=x.aud.length):Tg x ⟨x.reg,x.reqs,x.draws,l⟩:=⟨⟨⟨h.b.reg,h.b.reqs,h.b.legs,h.b.draws,h.b.draw,by show l.length<=_;rw[h1];exact h.b.aud⟩,h.vehs,h.reqs,h.dr,h.rq,h.rl,h.rk⟩,h1,rfl,rfl⟩
theorem Aih (cfg:E5) (x:Dy) (l:List Fs) (now:Int) (hd:Gg x) (hn:x.aud.length=1) (hl:l.length<=1000) (hi:∀p∈l,p.items.length<=257/\∀t∈p.items,t.pay.length<=1000):Ct 125 [cfg.g,x.g,.mInp l,.li now] (fun d:Dy×List (List Ea)×List F3×List Int=>.tup [d.1.g,.imm false 1 (S3 d.2.1),.mEnt d.2.2.1,.mI d.2.2.2]) (fun d=>Ate x d/\Wl cfg x l now d):=by
 refine Ex Tryz.func125 ?_
 refine Bq ?_
 refine B3 (fun K kk=>by simp[go_sem,hn];refine .l (Qq x hd.b) ?_;simp[go_sem,hn];exact kk) ?_
 refine Dl 3 _ 152 (.tmp 27) (.tmp 27) (by rfl) rfl rfl rfl (by rfl) (by rfl) fun K1 hK1=>?_
 simp[go_sem,hn]
 refine hK1 _ ?_;clear hK1
 refine VX.toBox 4 rfl (by simp) (by simp) ?_
 simp[go_sem,hn,P8,List.replicate]
 refine VX.own0l 4 0 56 4 (by decide) rfl rfl ?_
 simp[go_sem]
 iterate 2 refine Bq ?_
 refine Cg 13 248 3 (by decide) (k':=3) (by simp[go_sem]) ?_
 simp[go_sem]
 refine Cg 14 3 1 (by decide) (k':=1) (by simp[go_sem]) ?_
 simp[go_sem]
 obtain⟨lq,hlq⟩:∃lq,lq=l.take (min l.length 1):=⟨_,rfl⟩
 have hll:lq.length<=1:=by rw[hlq,A5];omega
 have hiq:∀p∈lq,p.items.length<=257/\∀t∈p.items,t.pay.length<=1000:=fun p hp=>hi p (Aq (by rw[hlq] at hp;exact hp))
 have hT:List.take (if (1:Int)<(l.length:Int) then (1:Int) else (l.length:Int)).toNat (List.map Fs.t l)=List.map Fs.t lq:=by rw[hlq,List.map_take];congr 1;split<;>omega
 refine B3 (fun K kk=>by simp[go_sem,hn,hT];repeat first | exact kk | refine aK ?_)<|.seq ?_
 refine B3 (fun K kk=>by simp[go_sem,hn];exact kk)<|.block ?_
 refine Bs 1 (fun i1 (y1:List Bool)=>⟨[(2,.mInp lq),(3,.li now),(4,.ptr 0 0),(5,.ptr 1 0),(8,.ptr 2 0),(9,.nil 1),(10,.nil 3),(11,.nil 1),(12,.bsl 4 1),(13,.own 6 0),(14,.own 7 0),(39,.li 1),(40,.li i1)],[.box 30 (cfg.a false),.box 70 [.li x.reg.num,.mY x.reg.ag.sec,.li x.reg.ag.ri,.li x.reg.ag.cls,.mI x.reg.ag.lims,.li x.reg.ag.rq,.li x.reg.ag.se,.li x.reg.ag.ra,.li x.reg.ag.bu,.mTok x.reg.toks,.mVeh x.reg.vehs,.li x.reg.bk.lv,.li x.reg.bk.ra,.li x.reg.bk.bu,.mReq x.reqs,.mYs x.draws,.own 3 1],.box 70 [.li 0,.nil 1,.li 0,.li 0,.nil 1,.li 0,.li 0,.li 0,.li 0,.nil 6,.nil 2,.li 0,.li 0,.li 0,.nil 5,.nil 1,.nil 1],.row 4 1 false false (tB y1),.box 80 [.own 5 0],.row 56 4 true false [],.row 248 3 true false [],.row 3 1 true false []]⟩) (fun i1 y1=>y1.length=1/\Ayg x.aud y1) x.aud (wQ [0,1,2,3,4,5,6,7] ?_ ?_) ⟨hn,fun k=>.inl rfl⟩ fun i1 y1 hi1 hy1=>?_
 ·simp[go_sem,hn]
 ·simp[go_sem,hn]
 obtain⟨hy1,hya⟩:=hy1
 refine Bq<|.seq ?_
 refine Br ?_ ?_<;>intro h41
 ·
  refine Bp<|.seq<|.block<|.R ?_
  obtain⟨ax,hax⟩:∃e,y1[i1]? = some e:=⟨_,Aa (by omega)⟩
  by_cases hc:i1<lq.length
  ·obtain⟨p,hx⟩:∃e,lq[i1]? = some e:=⟨_,Aa hc⟩
   have hcq:¬((lq.length:Int)<=i1):=by omega
   refine B3 (fun K kk=>by simp[go_sem,hcq,hx,hc];repeat first | exact kk | refine aK ?_) ?_
   refine Br ?_ ?_<;>intro h54
   ·
    refine Ck (fun K kk=>by simp[go_sem,hax,hy1];repeat first | exact kk | refine aK ?_) ?_
    refine Ci ?_
    refine⟨by omega,y1.set i1 false,?_,wQ [0,1,2,3,4,5,6,7] ?_ ?_⟩
    ·exact⟨by simpa using hy1,Amk hya i1⟩
    ·simp[go_sem,Dx ((i1:Int)+1)]
    simp[go_sem,hy1,List.map_set]
   refine Bp<|.R1 ?_
   refine⟨by omega,y1,?_,wQ [0,1,2,3,4,5,6,7] ?_ ?_⟩
   ·exact⟨by simpa using hy1,hya⟩
   ·simp[go_sem,Dx ((i1:Int)+1)]
   simp[go_sem,hy1,List.map_set]
  have hcq:(lq.length:Int)<=i1:=by omega
  refine B3 (fun K kk=>by simp[go_sem,hcq];exact kk) ?_
  refine Cs ?_ ?_<;>intro h54<;>simp[go_sem] at h54
  refine Ck (fun K kk=>by simp[go_sem,hax,hy1];repeat first | exact kk | refine aK ?_) ?_
  refine Ci ?_
  refine⟨by omega,y1.set i1 false,?_,wQ [0,1,2,3,4,5,6,7] ?_ ?_⟩
  ·exact⟨by simpa using hy1,Amk hya i1⟩
  ·simp[go_sem,Dx ((i1:Int)+1)]
  simp[go_sem,hy1,List.map_set]
 refine Bu<|.F 3 ?_
 simp[go_sem,hy1]
 refine Ca<|.R<|.block ?_
 refine Bs lq.length (fun i3 (y3:Dy×List Ea×List F3×List Int)=>⟨[(2,.mInp lq),(3,.li now),(4,.ptr 0 0),(5,.ptr 1 0),(8,.ptr 2 0),(9,.nil 1),(10,.nil 3),(11,.nil 1),(12,.bsl 3 1),(13,.own 5 y3.2.2.1.length),(14,.own 6 y3.2.2.2.length),(61,.li lq.length),(62,.li i3)],[.box 30 (cfg.a false),.box 70 (y3.1.a false),.box 70 [.li 0,.nil 1,.li 0,.li 0,.nil 1,.li 0,.li 0,.li 0,.li 0,.nil 6,.nil 2,.li 0,.li 0,.li 0,.nil 5,.nil 1,.nil 1],.box 80 [.own 4 y3.2.1.length],.row 56 4 false false (T3 y3.2.1),.row 248 3 false false (Aiw y3.2.2.1),.row 3 1 false false (tI y3.2.2.2)]⟩) (fun i3 y3=>Tg x y3.1/\(y3.2.1.length<=257/\(∀m∈y3.2.1,Hi m)/\(i3<=0->y3.2.1=[]))/\y3.2.2.1.length<=257*i3/\y3.2.2.2.length<=257*i3/\Zr cfg now ⟨x.reg,x.reqs,x.draws,y1⟩ (lq.take i3) y3.1 (([y3.2.1]:List (List Ea)).take i3) y3.2.2.1 y3.2.2.2) (⟨x.reg,x.reqs,x.draws,y1⟩,[],[],[]) (wQ [0,1,2,4,5,6,7] ?_ ?_) (⟨Tg.audited hd (by omega),⟨by simp,fun m hm=>by simp at hm,fun _=>rfl⟩,by simp,by simp,.nil⟩) fun i3 y3 hi3 hy3=>?_
 ·simp[go_sem,hy1]
 ·simp[go_sem,hy1]
 refine Bq<|.seq ?_
 refine Br ?_ ?_<;>intro h63
 ·
  obtain⟨p,hx⟩:∃e,lq[i3]? = some e:=⟨_,Aa (by omega)⟩
  have hp:=hiq p (Ac hx)
  refine Bp<|.seq<|.block<|.R<|.seq ?_
  refine B3 (fun K kk=>by simp[go_sem,hx];repeat first | exact kk | refine aK ?_) ?_
  refine Br ?_ ?_<;>intro h70
  ·
   have hs:=Zr.shut hy3.2.2.2.2 hx h70
   have hSx:Zr cfg now ⟨x.reg,x.reqs,x.draws,y1⟩ (lq.take (i3+1)) y3.1 (([y3.2.1]:List (List Ea)).take (i3+1)) y3.2.2.1 y3.2.2.2:=by
    have hin:i3=0:=by omega
    subst hin
    have h0:=(hy3.2.1).2.2 (by omega)
    simpa[h0] using hs
   refine Bu<|.R1 ?_
   refine⟨by omega,y3,⟨hy3.1,⟨(hy3.2.1).1,(hy3.2.1).2.1,fun h=>(hy3.2.1).2.2 (by omega)⟩,by have:=hy3.2.2.1;omega,by have:=hy3.2.2.2.1;omega,hSx⟩,wQ [0,1,2,3,4,5,6] ?_ ?_⟩
   ·simp[go_sem,Dx ((i3:Int)+1)]
   simp[go_sem]
  refine Bp<|.S (fun K kk=>by simp[go_sem,hx];repeat first | exact kk | refine aK ?_)<|.block ?_
  have hin:i3=0:=by omega
  subst hin
  have hr0:y3.2.1=[]:=(hy3.2.1).2.2 (by omega)
  refine Bs p.items.length (fun i4 (y4:Dy×List Ea×List F3×List Int)=>⟨[(2,.mInp lq),(3,.li now),(4,.ptr 0 0),(5,.ptr 1 0),(8,.ptr 2 0),(9,.nil 1),(10,.nil 3),(11,.nil 1),(12,.bsl 3 1),(13,.own 5 y4.2.2.1.length),(14,.own 6 y4.2.2.2.length),(61,.li lq.length),(62,.li 0),(16,.li 0),(75,.mItem p.items),(76,.li p.items.length),(77,.li i4)],[.box 30 (cfg.a false),.box 70 (y4.1.a false),.box 70 [.li 0,.nil 1,.li 0,.li 0,.nil 1,.li 0,.li 0,.li 0,.li 0,.nil 6,.nil 2,.li 0,.li 0,.li 0,.nil 5,.nil 1,.nil 1],.box 80 [.own 4 y4.2.1.length],.row 56 4 false false (T3 y4.2.1),.row 248 3 false false (Aiw y4.2.2.1),.row 3 1 false false (tI y4.2.2.2)]⟩) (fun i4 y4=>Tg x y4.1/\y4.2.1.length=i4/\(∀m∈y4.2.1,Hi m)/\y4.2.2.1.length<=257*0+i4/\y4.2.2.2.length<=257*0+i4/\∃e' s',ItR cfg 0 now y3.1 (p.items.take i4) y4.1 y4.2.1 e' s'/\y4.2.2.1=y3.2.2.1++e'/\y4.2.2.2=y3.2.2.2++s') (y3.1,[],y3.2.2.1,y3.2.2.2) (wQ [0,1,2,3,4,5,6] ?_ ?_) ⟨hy3.1,rfl,fun m hm=>by simp at hm,by have:=hy3.2.2.1;dsimp only;omega,by have:=hy3.2.2.2.1;dsimp only;omega,[],[],.nil,by simp,by simp⟩ fun i4 y4 hi4 hy4=>?_
  ·simp[go_sem,hr0]
  ·simp[go_sem,hr0]
  refine Bq<|.seq ?_
  refine Br ?_ ?_<;>intro h78
  ·
   obtain⟨t,ht⟩:∃e,p.items[i4]? = some e:=⟨_,Aa (by omega)⟩
   have htp:=hp.2 t (Ac ht)
   have hG:=T0 cfg y4.1 0 t now hy4.1.d htp
   have hq:=(Kz cfg y4.1 0 t now hy4.1.d htp).1
   have hGe:HdR cfg y4.1 0 t now (Ga cfg y4.1 0 t now hy4.1.d htp):=⟨_,_,rfl⟩
   generalize Ga cfg y4.1 0 t now hy4.1.d htp=G at hG hq hGe
   have hl1:y4.2.1.length<=257:=by have:=hp.1;have:=hy4.2.1;omega
   have hl2:y4.2.2.1.length<=600:=by have:=hp.1;have:=hy4.2.2.2.1;omega
   have hl3:y4.2.2.2.length<=600:=by have:=hp.1;have:=hy4.2.2.2.2.1;omega
   refine Bp<|.seq<|.block<|.S (fun K kk=>by simp[go_sem,ht];repeat first | exact kk | refine aK ?_) ?_
   refine B3 (fun K kk=>by simp[go_sem];refine .l (hG) ?_;simp[go_sem];exact kk) ?_
   refine Bq ?_
   refine Cy (fun K kk=>by simp[go_sem];repeat first | exact kk | refine aK ?_) ?_
   refine B3 (fun K kk=>by simp[go_sem];repeat first | exact kk | refine aK ?_) ?_
   refine Bq ?_
   refine Br ?_ ?_<;>intro h108
   ·
    refine Ck (fun K kk=>by simp[go_sem];repeat first | exact kk | refine aK ?_) ?_
    obtain⟨e',s',hI,he,hs⟩:=hy4.2.2.2.2.2
    have hIx:∃e'' s'',ItR cfg 0 now y3.1 (p.items.take (i4+1)) G.1 (y4.2.1++[G.2.1]) e'' s''/\y4.2.2.1++[G.2.2.1]=y3.2.2.1++e''/\y4.2.2.2++[G.2.2.2]=y3.2.2.2++s'':=⟨_,_,hI.next ht hGe rfl,(congrArg (fun v=>v++[G.2.2.1]) he).trans (List.append_assoc _ _ _),by rw[if_pos h108];exact (congrArg (fun v=>v++[G.2.2.2]) hs).trans (List.append_assoc _ _ _)⟩
    refine Ci ?_
    refine⟨by omega,(G.1,y4.2.1++[G.2.1],y4.2.2.1++[G.2.2.1],y4.2.2.2++[G.2.2.2]),⟨hy4.1.next hq,?_,Kr hy4.2.2.1 hq.2.2.2.2,?_,?_,hIx⟩,wQ [0,1,2,3,4,5,6] ?_ ?_⟩
    ·have:=hy4.2.1;simp;omega
    ·have:=hy4.2.2.2.1;simp;omega
    ·have:=hy4.2.2.2.2.1;simp;omega
    ·simp[go_sem,Dx ((i4:Int)+1)]
    simp[go_sem]
   refine Bp ?_
   obtain⟨e',s',hI,he,hs⟩:=hy4.2.2.2.2.2
   have hIx:∃e'' s'',ItR cfg 0 now y3.1 (p.items.take (i4+1)) G.1 (y4.2.1++[G.2.1]) e'' s''/\y4.2.2.1++[G.2.2.1]=y3.2.2.1++e''/\y4.2.2.2=y3.2.2.2++s'':=⟨_,_,hI.next ht hGe rfl,(congrArg (fun v=>v++[G.2.2.1]) he).trans (List.append_assoc _ _ _),by rw[if_neg (by omega),List.append_nil];exact hs⟩
   refine Ci ?_
   refine⟨by omega,(G.1,y4.2.1++[G.2.1],y4.2.2.1++[G.2.2.1],y4.2.2.2),⟨hy4.1.next hq,?_,Kr hy4.2.2.1 hq.2.2.2.2,?_,?_,hIx⟩,wQ [0,1,2,3,4,5,6] ?_ ?_⟩
   ·have:=hy4.2.1;simp;omega
   ·have:=hy4.2.2.2.1;simp;omega
   ·have:=hy4.2.2.2.2.1;simp;omega
   ·simp[go_sem,Dx ((i4:Int)+1)]
   simp[go_sem]
  obtain⟨e',s',hI,he,hs⟩:=hy4.2.2.2.2.2
  rw[Bf (by omega)] at hI
  have hSx:Zr cfg now ⟨x.reg,x.reqs,x.draws,y1⟩ (lq.take (0+1)) y4.1 (([y4.2.1]:List (List Ea)).take (0+1)) y4.2.2.1 y4.2.2.2:=by
   have hS:=Zr.next hy3.2.2.2.2 hx h70 hI
   rw[he,hs]
   simpa using hS
  refine Bu<|.R1 ?_
  refine⟨by omega,(y4.1,y4.2.1,y4.2.2.1,y4.2.2.2),⟨hy4.1,⟨by have:=hp.1;have:=hy4.2.1;dsimp only;omega,hy4.2.2.1,fun h=>absurd h (by omega)⟩,by have:=hp.1;have:=hy4.2.2.2.1;dsimp only;omega,by have:=hp.1;have:=hy4.2.2.2.2.1;dsimp only;omega,hSx⟩,wQ [0,1,2,3,4,5,6] ?_ ?_⟩
  ·simp[go_sem,Dx (1:Int)]
  simp[go_sem]
 refine Bu ?_
 have hre:=hy3.1.d.reqs
 have hle:=hy3.1.d.b.legs
 have hqm:=Xt y3.1.reqs now hre hle
 refine B3 (fun K kk=>by simp[go_sem];refine .l (Xa y3.1.reqs now hre hle) ?_;simp[go_sem];exact kk) ?_
 refine Bq ?_
 refine Do 4 ?_
 simp[go_sem]
 refine C9 3 1 (S3 [y3.2.1]) rfl rfl (by simp) (by simp) ?_
 simp[go_sem]
 refine Do 5 ?_
 simp[go_sem]
 refine Do 6 ?_
 simp[go_sem]
 refine Bz (Fj ?_);simp[go_sem]
 refine⟨(⟨y3.1.reg,Ih y3.1.reqs now hre hle,y3.1.draws,y3.1.aud⟩,[y3.2.1],y3.2.2.1,y3.2.2.2),by simp[go_sem],⟨hy3.1.marked hqm.1 hqm.2.1 hqm.2.2,hy3.1.aud,hy3.1.num,hy3.1.ag,hn.symm,fun r hr=>by simp only[List.mem_cons,A8,or_false] at hr;subst hr<;>first | exact⟨(hy3.2.1).1,(hy3.2.1).2.1⟩,?_,?_⟩,y1,y3.1,([y3.2.1]:List (List Ea)).take i3,hre,hle,by omega,hya,?_,rfl,?_⟩
 ·have:=hy3.2.2.1;dsimp only;omega
 ·have:=hy3.2.2.2.1;dsimp only;omega
 ·have hS:=hy3.2.2.2.2
  rw[hn,show l.take 1=lq.take i3 by rw[Bf (l:=lq) (i:=i3) (by omega),hlq,List.take_eq_take_iff];omega]
  exact hS
 have hin:i3=0\/i3=1:=by omega
 rcases hin with rfl | rfl<;>simp[hn,List.replicate,(hy3.2.1).2.2]
theorem Aig (cfg:E5) (x:Dy) (l:List Fs) (now:Int) (hd:Gg x) (hn:x.aud.length=2) (hl:l.length<=1000) (hi:∀p∈l,p.items.length<=257/\∀t∈p.items,t.pay.length<=1000):Ct 125 [cfg.g,x.g,.mInp l,.li now] (fun d:Dy×List (List Ea)×List F3×List Int=>.tup [d.1.g,.imm false 1 (S3 d.2.1),.mEnt d.2.2.1,.mI d.2.2.2]) (fun d=>Ate x d/\Wl cfg x l now d):=by
 refine Ex Tryz.func125 ?_
 refine Bq ?_
 refine B3 (fun K kk=>by simp[go_sem,hn];refine .l (Qq x hd.b) ?_;simp[go_sem,hn];exact kk) ?_
 refine Dl 3 _ 152 (.tmp 27) (.tmp 27) (by rfl) rfl rfl rfl (by rfl) (by rfl) fun K1 hK1=>?_
 simp[go_sem,hn]
 refine hK1 _ ?_;clear hK1
 refine VX.toBox 4 rfl (by simp) (by simp) ?_
 simp[go_sem,hn,P8,List.replicate]
 refine VX.own0l 4 0 56 4 (by decide) rfl rfl ?_
 simp[go_sem]
 refine VX.own0l 4 1 56 4 (by decide) rfl rfl ?_
 simp[go_sem]
 iterate 2 refine Bq ?_
 refine Cg 13 248 3 (by decide) (k':=3) (by simp[go_sem]) ?_
 simp[go_sem]
 refine Cg 14 3 1 (by decide) (k':=1) (by simp[go_sem]) ?_
 simp[go_sem]
 obtain⟨lq,hlq⟩:∃lq,lq=l.take (min l.length 2):=⟨_,rfl⟩
 have hll:lq.length<=2:=by rw[hlq,A5];omega
 have hiq:∀p∈lq,p.items.length<=257/\∀t∈p.items,t.pay.length<=1000:=fun p hp=>hi p (Aq (by rw[hlq] at hp;exact hp))
 have hT:List.take (if (2:Int)<(l.length:Int) then (2:Int) else (l.length:Int)).toNat (List.map Fs.t l)=List.map Fs.t lq:=by rw[hlq,List.map_take];congr 1;split<;>omega
 refine B3 (fun K kk=>by simp[go_sem,hn,hT];repeat first | exact kk | refine aK ?_)<|.seq ?_
 refine B3 (fun K kk=>by simp[go_sem,hn];exact kk)<|.block ?_
 refine Bs 2 (fun i1 (y1:List Bool)=>⟨[(2,.mInp lq),(3,.li now),(4,.ptr 0 0),(5,.ptr 1 0),(8,.ptr 2 0),(9,.nil 1),(10,.nil 3),(11,.nil 1),(12,.bsl 4 2),(13,.own 7 0),(14,.own 8 0),(39,.li 2),(40,.li i1)],[.box 30 (cfg.a false),.box 70 [.li x.reg.num,.mY x.reg.ag.sec,.li x.reg.ag.ri,.li x.reg.ag.cls,.mI x.reg.ag.lims,.li x.reg.ag.rq,.li x.reg.ag.se,.li x.reg.ag.ra,.li x.reg.ag.bu,.mTok x.reg.toks,.mVeh x.reg.vehs,.li x.reg.bk.lv,.li x.reg.bk.ra,.li x.reg.bk.bu,.mReq x.reqs,.mYs x.draws,.own 3 2],.box 70 [.li 0,.nil 1,.li 0,.li 0,.nil 1,.li 0,.li 0,.li 0,.li 0,.nil 6,.nil 2,.li 0,.li 0,.li 0,.nil 5,.nil 1,.nil 1],.row 4 1 false false (tB y1),.box 80 [.own 5 0,.own 6 0],.row 56 4 true false [],.row 56 4 true false [],.row 248 3 true false [],.row 3 1 true false []]⟩) (fun i1 y1=>y1.length=2/\Ayg x.aud y1) x.aud (wQ [0,1,2,3,4,5,6,7,8] ?_ ?_) ⟨hn,fun k=>.inl rfl⟩ fun i1 y1 hi1 hy1=>?_
 ·simp[go_sem,hn]
 ·simp[go_sem,hn]
 obtain⟨hy1,hya⟩:=hy1
 refine Bq<|.seq ?_
 refine Br ?_ ?_<;>intro h41
 ·
  refine Bp<|.seq<|.block<|.R ?_
  obtain⟨ax,hax⟩:∃e,y1[i1]? = some e:=⟨_,Aa (by omega)⟩
  by_cases hc:i1<lq.length
  ·obtain⟨p,hx⟩:∃e,lq[i1]? = some e:=⟨_,Aa hc⟩
   have hcq:¬((lq.length:Int)<=i1):=by omega
   refine B3 (fun K kk=>by simp[go_sem,hcq,hx,hc];repeat first | exact kk | refine aK ?_) ?_
   refine Br ?_ ?_<;>intro h54
   ·
    refine Ck (fun K kk=>by simp[go_sem,hax,hy1];repeat first | exact kk | refine aK ?_) ?_
    refine Ci ?_
    refine⟨by omega,y1.set i1 false,?_,wQ [0,1,2,3,4,5,6,7,8] ?_ ?_⟩
    ·exact⟨by simpa using hy1,Amk hya i1⟩
    ·simp[go_sem,Dx ((i1:Int)+1)]
    simp[go_sem,hy1,List.map_set]
   refine Bp<|.R1 ?_
   refine⟨by omega,y1,?_,wQ [0,1,2,3,4,5,6,7,8] ?_ ?_⟩
   ·exact⟨by simpa using hy1,hya⟩
   ·simp[go_sem,Dx ((i1:Int)+1)]
   simp[go_sem,hy1,List.map_set]
  have hcq:(lq.length:Int)<=i1:=by omega
  refine B3 (fun K kk=>by simp[go_sem,hcq];exact kk) ?_
  refine Cs ?_ ?_<;>intro h54<;>simp[go_sem] at h54
  refine Ck (fun K kk=>by simp[go_sem,hax,hy1];repeat first | exact kk | refine aK ?_) ?_
  refine Ci ?_
  refine⟨by omega,y1.set i1 false,?_,wQ [0,1,2,3,4,5,6,7,8] ?_ ?_⟩
  ·exact⟨by simpa using hy1,Amk hya i1⟩
  ·simp[go_sem,Dx ((i1:Int)+1)]
  simp[go_sem,hy1,List.map_set]
 refine Bu<|.F 3 ?_
 simp[go_sem,hy1]
 refine Ca<|.R<|.block ?_
 refine Bs lq.length (fun i3 (y3:Dy×List Ea×List Ea×List F3×List Int)=>⟨[(2,.mInp lq),(3,.li now),(4,.ptr 0 0),(5,.ptr 1 0),(8,.ptr 2 0),(9,.nil 1),(10,.nil 3),(11,.nil 1),(12,.bsl 3 2),(13,.own 6 y3.2.2.2.1.length),(14,.own 7 y3.2.2.2.2.length),(61,.li lq.length),(62,.li i3)],[.box 30 (cfg.a false),.box 70 (y3.1.a false),.box 70 [.li 0,.nil 1,.li 0,.li 0,.nil 1,.li 0,.li 0,.li 0,.li 0,.nil 6,.nil 2,.li 0,.li 0,.li 0,.nil 5,.nil 1,.nil 1],.box 80 [.own 4 y3.2.1.length,.own 5 y3.2.2.1.length],.row 56 4 false false (T3 y3.2.1),.row 56 4 false false (T3 y3.2.2.1),.row 248 3 false false (Aiw y3.2.2.2.1),.row 3 1 false false (tI y3.2.2.2.2)]⟩) (fun i3 y3=>Tg x y3.1/\(y3.2.1.length<=257/\(∀m∈y3.2.1,Hi m)/\(i3<=0->y3.2.1=[]))/\(y3.2.2.1.length<=257/\(∀m∈y3.2.2.1,Hi m)/\(i3<=1->y3.2.2.1=[]))/\y3.2.2.2.1.length<=257*i3/\y3.2.2.2.2.length<=257*i3/\Zr cfg now ⟨x.reg,x.reqs,x.draws,y1⟩ (lq.take i3) y3.1 (([y3.2.1,y3.2.2.1]:List (List Ea)).take i3) y3.2.2.2.1 y3.2.2.2.2) (⟨x.reg,x.reqs,x.draws,y1⟩,[],[],[],[]) (wQ [0,1,2,4,5,6,7,8] ?_ ?_) (⟨Tg.audited hd (by omega),⟨by simp,fun m hm=>by simp at hm,fun _=>rfl⟩,⟨by simp,fun m hm=>by simp at hm,fun _=>rfl⟩,by simp,by simp,.nil⟩) fun i3 y3 hi3 hy3=>?_
 ·simp[go_sem,hy1]
 ·simp[go_sem,hy1]
 refine Bq<|.seq ?_
 refine Br ?_ ?_<;>intro h63
 ·
  obtain⟨p,hx⟩:∃e,lq[i3]? = some e:=⟨_,Aa (by omega)⟩
  have hp:=hiq p (Ac hx)
  refine Bp<|.seq<|.block<|.R<|.seq ?_
  refine B3 (fun K kk=>by simp[go_sem,hx];repeat first | exact kk | refine aK ?_) ?_
  refine Br ?_ ?_<;>intro h70
  ·
   have hs:=Zr.shut hy3.2.2.2.2.2 hx h70
   have hSx:Zr cfg now ⟨x.reg,x.reqs,x.draws,y1⟩ (lq.take (i3+1)) y3.1 (([y3.2.1,y3.2.2.1]:List (List Ea)).take (i3+1)) y3.2.2.2.1 y3.2.2.2.2:=by
    have hin:i3=0\/i3=1:=by omega
    rcases hin with rfl | rfl
    ·have h0:=(hy3.2.1).2.2 (by omega)
     simpa[h0] using hs
    have h0:=(hy3.2.2.1).2.2 (by omega)
    simpa[h0] using hs
   refine Bu<|.R1 ?_
   refine⟨by omega,y3,⟨hy3.1,⟨(hy3.2.1).1,(hy3.2.1).2.1,fun h=>(hy3.2.1).2.2 (by omega)⟩,⟨(hy3.2.2.1).1,(hy3.2.2.1).2.1,fun h=>(hy3.2.2.1).2.2 (by omega)⟩,by have:=hy3.2.2.2.1;omega,by have:=hy3.2.2.2.2.1;omega,hSx⟩,wQ [0,1,2,3,4,5,6,7] ?_ ?_⟩
   ·simp[go_sem,Dx ((i3:Int)+1)]
   simp[go_sem]
  refine Bp<|.S (fun K kk=>by simp[go_sem,hx];repeat first | exact kk | refine aK ?_)<|.block ?_
  have hin:i3=0\/i3=1:=by omega
  rcases hin with rfl | rfl
  ·
   have hr0:y3.2.1=[]:=(hy3.2.1).2.2 (by omega)
   refine Bs p.items.length (fun i4 (y4:Dy×List Ea×List F3×List Int)=>⟨[(2,.mInp lq),(3,.li now),(4,.ptr 0 0),(5,.ptr 1 0),(8,.ptr 2 0),(9,.nil 1),(10,.nil 3),(11,.nil 1),(12,.bsl 3 2),(13,.own 6 y4.2.2.1.length),(14,.own 7 y4.2.2.2.length),(61,.li lq.length),(62,.li 0),(16,.li 0),(75,.mItem p.items),(76,.li p.items.length),(77,.li i4)],[.box 30 (cfg.a false),.box 70 (y4.1.a false),.box 70 [.li 0,.nil 1,.li 0,.li 0,.nil 1,.li 0,.li 0,.li 0,.li 0,.nil 6,.nil 2,.li 0,.li 0,.li 0,.nil 5,.nil 1,.nil 1],.box 80 [.own 4 y4.2.1.length,.own 5 y3.2.2.1.length],.row 56 4 false false (T3 y4.2.1),.row 56 4 false false (T3 y3.2.2.1),.row 248 3 false false (Aiw y4.2.2.1),.row 3 1 false false (tI y4.2.2.2)]⟩) (fun i4 y4=>Tg x y4.1/\y4.2.1.length=i4/\(∀m∈y4.2.1,Hi m)/\y4.2.2.1.length<=257*0+i4/\y4.2.2.2.length<=257*0+i4/\∃e' s',ItR cfg 0 now y3.1 (p.items.take i4) y4.1 y4.2.1 e' s'/\y4.2.2.1=y3.2.2.2.1++e'/\y4.2.2.2=y3.2.2.2.2++s') (y3.1,[],y3.2.2.2.1,y3.2.2.2.2) (wQ [0,1,2,3,4,5,6,7] ?_ ?_) ⟨hy3.1,rfl,fun m hm=>by simp at hm,by have:=hy3.2.2.2.1;dsimp only;omega,by have:=hy3.2.2.2.2.1;dsimp only;omega,[],[],.nil,by simp,by simp⟩ fun i4 y4 hi4 hy4=>?_
   ·simp[go_sem,hr0]
   ·simp[go_sem,hr0]
   refine Bq<|.seq ?_
   refine Br ?_ ?_<;>intro h78
   ·
    obtain⟨t,ht⟩:∃e,p.items[i4]? = some e:=⟨_,Aa (by omega)⟩
    have htp:=hp.2 t (Ac ht)
    have hG:=T0 cfg y4.1 0 t now hy4.1.d htp
    have hq:=(Kz cfg y4.1 0 t now hy4.1.d htp).1
    have hGe:HdR cfg y4.1 0 t now (Ga cfg y4.1 0 t now hy4.1.d htp):=⟨_,_,rfl⟩
    generalize Ga cfg y4.1 0 t now hy4.1.d htp=G at hG hq hGe
    have hl1:y4.2.1.length<=257:=by have:=hp.1;have:=hy4.2.1;omega
    have hl2:y4.2.2.1.length<=600:=by have:=hp.1;have:=hy4.2.2.2.1;omega
    have hl3:y4.2.2.2.length<=600:=by have:=hp.1;have:=hy4.2.2.2.2.1;omega
    refine Bp<|.seq<|.block<|.S (fun K kk=>by simp[go_sem,ht];repeat first | exact kk | refine aK ?_) ?_
    refine B3 (fun K kk=>by simp[go_sem];refine .l (hG) ?_;simp[go_sem];exact kk) ?_
    refine Bq ?_
    refine Cy (fun K kk=>by simp[go_sem];repeat first | exact kk | refine aK ?_) ?_
    refine B3 (fun K kk=>by simp[go_sem];repeat first | exact kk | refine aK ?_) ?_
    refine Bq ?_
    refine Br ?_ ?_<;>intro h108
    ·
     refine Ck (fun K kk=>by simp[go_sem];repeat first | exact kk | refine aK ?_) ?_
     obtain⟨e',s',hI,he,hs⟩:=hy4.2.2.2.2.2
     have hIx:∃e'' s'',ItR cfg 0 now y3.1 (p.items.take (i4+1)) G.1 (y4.2.1++[G.2.1]) e'' s''/\y4.2.2.1++[G.2.2.1]=y3.2.2.2.1++e''/\y4.2.2.2++[G.2.2.2]=y3.2.2.2.2++s'':=⟨_,_,hI.next ht hGe rfl,(congrArg (fun v=>v++[G.2.2.1]) he).trans (List.append_assoc _ _ _),by rw[if_pos h108];exact (congrArg (fun v=>v++[G.2.2.2]) hs).trans (List.append_assoc _ _ _)⟩
     refine Ci ?_
     refine⟨by omega,(G.1,y4.2.1++[G.2.1],y4.2.2.1++[G.2.2.1],y4.2.2.2++[G.2.2.2]),⟨hy4.1.next hq,?_,Kr hy4.2.2.1 hq.2.2.2.2,?_,?_,hIx⟩,wQ [0,1,2,3,4,5,6,7] ?_ ?_⟩
     ·have:=hy4.2.1;simp;omega
     ·have:=hy4.2.2.2.1;simp;omega
     ·have:=hy4.2.2.2.2.1;simp;omega
     ·simp[go_sem,Dx ((i4:Int)+1)]
     simp[go_sem]
    refine Bp ?_
    obtain⟨e',s',hI,he,hs⟩:=hy4.2.2.2.2.2
    have hIx:∃e'' s'',ItR cfg 0 now y3.1 (p.items.take (i4+1)) G.1 (y4.2.1++[G.2.1]) e'' s''/\y4.2.2.1++[G.2.2.1]=y3.2.2.2.1++e''/\y4.2.2.2=y3.2.2.2.2++s'':=⟨_,_,hI.next ht hGe rfl,(congrArg (fun v=>v++[G.2.2.1]) he).trans (List.append_assoc _ _ _),by rw[if_neg (by omega),List.append_nil];exact hs⟩
    refine Ci ?_
    refine⟨by omega,(G.1,y4.2.1++[G.2.1],y4.2.2.1++[G.2.2.1],y4.2.2.2),⟨hy4.1.next hq,?_,Kr hy4.2.2.1 hq.2.2.2.2,?_,?_,hIx⟩,wQ [0,1,2,3,4,5,6,7] ?_ ?_⟩
    ·have:=hy4.2.1;simp;omega
    ·have:=hy4.2.2.2.1;simp;omega
    ·have:=hy4.2.2.2.2.1;simp;omega
    ·simp[go_sem,Dx ((i4:Int)+1)]
    simp[go_sem]
   obtain⟨e',s',hI,he,hs⟩:=hy4.2.2.2.2.2
   rw[Bf (by omega)] at hI
   have hSx:Zr cfg now ⟨x.reg,x.reqs,x.draws,y1⟩ (lq.take (0+1)) y4.1 (([y4.2.1,y3.2.2.1]:List (List Ea)).take (0+1)) y4.2.2.1 y4.2.2.2:=by
    have hS:=Zr.next hy3.2.2.2.2.2 hx h70 hI
    rw[he,hs]
    simpa using hS
   refine Bu<|.R1 ?_
   refine⟨by omega,(y4.1,y4.2.1,y3.2.2.1,y4.2.2.1,y4.2.2.2),⟨hy4.1,⟨by have:=hp.1;have:=hy4.2.1;dsimp only;omega,hy4.2.2.1,fun h=>absurd h (by omega)⟩,⟨(hy3.2.2.1).1,(hy3.2.2.1).2.1,fun h=>(hy3.2.2.1).2.2 (by omega)⟩,by have:=hp.1;have:=hy4.2.2.2.1;dsimp only;omega,by have:=hp.1;have:=hy4.2.2.2.2.1;dsimp only;omega,hSx⟩,wQ [0,1,2,3,4,5,6,7] ?_ ?_⟩
   ·simp[go_sem,Dx (1:Int)]
   simp[go_sem]
  have hr0:y3.2.2.1=[]:=(hy3.2.2.1).2.2 (by omega)
  refine Bs p.items.length (fun i4 (y4:Dy×List Ea×List F3×List Int)=>⟨[(2,.mInp lq),(3,.li now),(4,.ptr 0 0),(5,.ptr 1 0),(8,.ptr 2 0),(9,.nil 1),(10,.nil 3),(11,.nil 1),(12,.bsl 3 2),(13,.own 6 y4.2.2.1.length),(14,.own 7 y4.2.2.2.length),(61,.li lq.length),(62,.li 1),(16,.li 1),(75,.mItem p.items),(76,.li p.items.length),(77,.li i4)],[.box 30 (cfg.a false),.box 70 (y4.1.a false),.box 70 [.li 0,.nil 1,.li 0,.li 0,.nil 1,.li 0,.li 0,.li 0,.li 0,.nil 6,.nil 2,.li 0,.li 0,.li 0,.nil 5,.nil 1,.nil 1],.box 80 [.own 4 y3.2.1.length,.own 5 y4.2.1.length],.row 56 4 false false (T3 y3.2.1),.row 56 4 false false (T3 y4.2.1),.row 248 3 false false (Aiw y4.2.2.1),.row 3 1 false false (tI y4.2.2.2)]⟩) (fun i4 y4=>Tg x y4.1/\y4.2.1.length=i4/\(∀m∈y4.2.1,Hi m)/\y4.2.2.1.length<=257*1+i4/\y4.2.2.2.length<=257*1+i4/\∃e' s',ItR cfg 1 now y3.1 (p.items.take i4) y4.1 y4.2.1 e' s'/\y4.2.2.1=y3.2.2.2.1++e'/\y4.2.2.2=y3.2.2.2.2++s') (y3.1,[],y3.2.2.2.1,y3.2.2.2.2) (wQ [0,1,2,3,4,5,6,7] ?_ ?_) ⟨hy3.1,rfl,fun m hm=>by simp at hm,by have:=hy3.2.2.2.1;dsimp only;omega,by have:=hy3.2.2.2.2.1;dsimp only;omega,[],[],.nil,by simp,by simp⟩ fun i4 y4 hi4 hy4=>?_
  ·simp[go_sem,hr0]
  ·simp[go_sem,hr0]
  refine Bq<|.seq ?_
  refine Br ?_ ?_<;>intro h78
  ·
   obtain⟨t,ht⟩:∃e,p.items[i4]? = some e:=⟨_,Aa (by omega)⟩
   have htp:=hp.2 t (Ac ht)
   have hG:=T0 cfg y4.1 1 t now hy4.1.d htp
   have hq:=(Kz cfg y4.1 1 t now hy4.1.d htp).1
   have hGe:HdR cfg y4.1 1 t now (Ga cfg y4.1 1 t now hy4.1.d htp):=⟨_,_,rfl⟩
   generalize Ga cfg y4.1 1 t now hy4.1.d htp=G at hG hq hGe
   have hl1:y4.2.1.length<=257:=by have:=hp.1;have:=hy4.2.1;omega
   have hl2:y4.2.2.1.length<=600:=by have:=hp.1;have:=hy4.2.2.2.1;omega
   have hl3:y4.2.2.2.length<=600:=by have:=hp.1;have:=hy4.2.2.2.2.1;omega
   refine Bp<|.seq<|.block<|.S (fun K kk=>by simp[go_sem,ht];repeat first | exact kk | refine aK ?_) ?_
   refine B3 (fun K kk=>by simp[go_sem];refine .l (hG) ?_;simp[go_sem];exact kk) ?_
   refine Bq ?_
   refine Cy (fun K kk=>by simp[go_sem];repeat first | exact kk | refine aK ?_) ?_
   refine B3 (fun K kk=>by simp[go_sem];repeat first | exact kk | refine aK ?_) ?_
   refine Bq ?_
   refine Br ?_ ?_<;>intro h108
   ·
    refine Ck (fun K kk=>by simp[go_sem];repeat first | exact kk | refine aK ?_) ?_
    obtain⟨e',s',hI,he,hs⟩:=hy4.2.2.2.2.2
    have hIx:∃e'' s'',ItR cfg 1 now y3.1 (p.items.take (i4+1)) G.1 (y4.2.1++[G.2.1]) e'' s''/\y4.2.2.1++[G.2.2.1]=y3.2.2.2.1++e''/\y4.2.2.2++[G.2.2.2]=y3.2.2.2.2++s'':=⟨_,_,hI.next ht hGe rfl,(congrArg (fun v=>v++[G.2.2.1]) he).trans (List.append_assoc _ _ _),by rw[if_pos h108];exact (congrArg (fun v=>v++[G.2.2.2]) hs).trans (List.append_assoc _ _ _)⟩
    refine Ci ?_
    refine⟨by omega,(G.1,y4.2.1++[G.2.1],y4.2.2.1++[G.2.2.1],y4.2.2.2++[G.2.2.2]),⟨hy4.1.next hq,?_,Kr hy4.2.2.1 hq.2.2.2.2,?_,?_,hIx⟩,wQ [0,1,2,3,4,5,6,7] ?_ ?_⟩
    ·have:=hy4.2.1;simp;omega
    ·have:=hy4.2.2.2.1;simp;omega
    ·have:=hy4.2.2.2.2.1;simp;omega
    ·simp[go_sem,Dx ((i4:Int)+1)]
    simp[go_sem]
   refine Bp ?_
   obtain⟨e',s',hI,he,hs⟩:=hy4.2.2.2.2.2
   have hIx:∃e'' s'',ItR cfg 1 now y3.1 (p.items.take (i4+1)) G.1 (y4.2.1++[G.2.1]) e'' s''/\y4.2.2.1++[G.2.2.1]=y3.2.2.2.1++e''/\y4.2.2.2=y3.2.2.2.2++s'':=⟨_,_,hI.next ht hGe rfl,(congrArg (fun v=>v++[G.2.2.1]) he).trans (List.append_assoc _ _ _),by rw[if_neg (by omega),List.append_nil];exact hs⟩
   refine Ci ?_
   refine⟨by omega,(G.1,y4.2.1++[G.2.1],y4.2.2.1++[G.2.2.1],y4.2.2.2),⟨hy4.1.next hq,?_,Kr hy4.2.2.1 hq.2.2.2.2,?_,?_,hIx⟩,wQ [0,1,2,3,4,5,6,7] ?_ ?_⟩
   ·have:=hy4.2.1;simp;omega
   ·have:=hy4.2.2.2.1;simp;omega
   ·have:=hy4.2.2.2.2.1;simp;omega
   ·simp[go_sem,Dx ((i4:Int)+1)]
   simp[go_sem]
  obtain⟨e',s',hI,he,hs⟩:=hy4.2.2.2.2.2
  rw[Bf (by omega)] at hI
  have hSx:Zr cfg now ⟨x.reg,x.reqs,x.draws,y1⟩ (lq.take (1+1)) y4.1 (([y3.2.1,y4.2.1]:List (List Ea)).take (1+1)) y4.2.2.1 y4.2.2.2:=by
   have hS:=Zr.next hy3.2.2.2.2.2 hx h70 hI
   rw[he,hs]
   simpa using hS
  refine Bu<|.R1 ?_
  refine⟨by omega,(y4.1,y3.2.1,y4.2.1,y4.2.2.1,y4.2.2.2),⟨hy4.1,⟨(hy3.2.1).1,(hy3.2.1).2.1,fun h=>(hy3.2.1).2.2 (by omega)⟩,⟨by have:=hp.1;have:=hy4.2.1;dsimp only;omega,hy4.2.2.1,fun h=>absurd h (by omega)⟩,by have:=hp.1;have:=hy4.2.2.2.1;dsimp only;omega,by have:=hp.1;have:=hy4.2.2.2.2.1;dsimp only;omega,hSx⟩,wQ [0,1,2,3,4,5,6,7] ?_ ?_⟩
  ·simp[go_sem,Dx (2:Int)]
  simp[go_sem]
 refine Bu ?_
 have hre:=hy3.1.d.reqs
 have hle:=hy3.1.d.b.legs
 have hqm:=Xt y3.1.reqs now hre hle
 refine B3 (fun K kk=>by simp[go_sem];refine .l (Xa y3.1.reqs now hre hle) ?_;simp[go_sem];exact kk) ?_
 refine Bq ?_
 refine Do 4 ?_
 simp[go_sem]
 refine Do 5 ?_
 simp[go_sem]
 refine C9 3 1 (S3 [y3.2.1,y3.2.2.1]) rfl rfl (by simp) (by simp) ?_
 simp[go_sem]
 refine Do 6 ?_
 simp[go_sem]
 refine Do 7 ?_
 simp[go_sem]
 refine Bz (Fj ?_);simp[go_sem]
 refine⟨(⟨y3.1.reg,Ih y3.1.reqs now hre hle,y3.1.draws,y3.1.aud⟩,[y3.2.1,y3.2.2.1],y3.2.2.2.1,y3.2.2.2.2),by simp[go_sem],⟨hy3.1.marked hqm.1 hqm.2.1 hqm.2.2,hy3.1.aud,hy3.1.num,hy3.1.ag,hn.symm,fun r hr=>by simp only[List.mem_cons,A8,or_false] at hr;rcases hr with rfl | rfl<;>first | exact⟨(hy3.2.1).1,(hy3.2.1).2.1⟩ | exact⟨(hy3.2.2.1).1,(hy3.2.2.1).2.1⟩,?_,?_⟩,y1,y3.1,([y3.2.1,y3.2.2.1]:List (List Ea)).take i3,hre,hle,by omega,hya,?_,rfl,?_⟩
 ·have:=hy3.2.2.2.1;dsimp only;omega
 ·have:=hy3.2.2.2.2.1;dsimp only;omega
 ·have hS:=hy3.2.2.2.2.2
  rw[hn,show l.take 2=lq.take i3 by rw[Bf (l:=lq) (i:=i3) (by omega),hlq,List.take_eq_take_iff];omega]
  exact hS
 have hin:i3=0\/i3=1\/i3=2:=by omega
 rcases hin with rfl | rfl | rfl<;>simp[hn,List.replicate,(hy3.2.1).2.2,(hy3.2.2.1).2.2]
theorem W5 (cfg:E5) (x:Dy) (l:List Fs) (now:Int) (hd:Gg x) (ha:1<=x.aud.length/\x.aud.length<=2) (hl:l.length<=1000) (hi:∀p∈l,p.items.length<=257/\∀t∈p.items,t.pay.length<=1000):Ct 125 [cfg.g,x.g,.mInp l,.li now] (fun d:Dy×List (List Ea)×List F3×List Int=>.tup [d.1.g,.imm false 1 (S3 d.2.1),.mEnt d.2.2.1,.mI d.2.2.2]) (fun d=>Ate x d/\Wl cfg x l now d):=by
 have h:x.aud.length=1\/x.aud.length=2:=by omega
 rcases h with h | h
 ·exact Aih cfg x l now hd h hl hi
 exact Aig cfg x l now hd h hl hi
def I2 (cfg:E5) (x:Dy) (l:List Fs) (now:Int) (hd:Gg x) (ha:1<=x.aud.length/\x.aud.length<=2) (hl:l.length<=1000) (hi:∀p∈l,p.items.length<=257/\∀t∈p.items,t.pay.length<=1000):Dy×List (List Ea)×List F3×List Int:=(Ep (W5 cfg x l now hd ha hl hi)).choose
theorem An0 (cfg:E5) (x:Dy) (l:List Fs) (now:Int) (hd:Gg x) (ha:1<=x.aud.length/\x.aud.length<=2) (hl:l.length<=1000) (hi:∀p∈l,p.items.length<=257/\∀t∈p.items,t.pay.length<=1000):PP 125 [] [cfg.g,x.g,.mInp l,.li now] [] (.tup [.agg ((I2 cfg x l now hd ha hl hi).1.a false),.imm false 1 (S3 (I2 cfg x l now hd ha hl hi).2.1),.imm false 3 (Aiw (I2 cfg x l now hd ha hl hi).2.2.1),.imm false 1 (tI (I2 cfg x l now hd ha hl hi).2.2.2)]):=(Ep (W5 cfg x l now hd ha hl hi)).choose_spec.1
theorem Nm (cfg:E5) (x:Dy) (l:List Fs) (now:Int) (hd:Gg x) (ha:1<=x.aud.length/\x.aud.length<=2) (hl:l.length<=1000) (hi:∀p∈l,p.items.length<=257/\∀t∈p.items,t.pay.length<=1000):Ate x (I2 cfg x l now hd ha hl hi)/\Wl cfg x l now (I2 cfg x l now hd ha hl hi):=(Ep (W5 cfg x l now hd ha hl hi)).choose_spec.2
end
end Go.Proofs.YtkkimgjinbaemaaGreat
