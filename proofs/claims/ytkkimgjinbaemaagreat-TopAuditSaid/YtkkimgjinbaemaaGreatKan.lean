/- The walk. -/
import Derived.Test.YtkkimgjinbaemaaGreatKam
noncomputable section
namespace Go.Proofs.YtkkimgjinbaemaaGreat
open Go.RowKit
set_option linter.unusedVariables false
set_option linter.unusedSimpArgs false
set_option linter.defProp false
set_option linter.unusedSectionVars false
set_option maxRecDepth 100000
set_option maxHeartbeats 4000000
section
def Cd (l:List Dx):List AV:=Pk false (Jd l)
theorem Aev (d:Dx) (l:List Dx):Cd (d::l)=d.a false++Cd l:=rfl
theorem Dx.al (d:Dx):(d.a false).length=17:=rfl
theorem Ro:∀(l:List Dx),(Cd l).length=l.length*17
 | []=>rfl
 | d::l=>by rw[Aev,Bo,Ro l,Dx.al,A6];omega
theorem Vc:∀{l:List Dx} {i:Nat} {d:Dx},l[i]? = some d->∀j,j<17->(Cd l)[i*17+j]? = (d.a false)[j]?
 | [],i,d,h,_,_=>by simp at h
 | e::l,0,d,h,j,hj=>by
  simp at h;subst h
  rw[Aev,Nat.zero_mul,Bm,Au (by rw[Dx.al];exact hj)]
 | e::l,i+1,d,h,j,hj=>by
  have h:l[i]? = some d:=by simpa using h
  rw[Aev,Ao (by rw[Dx.al];omega),Dx.al,show (i+1)*17+j - 17=i*17+j by omega]
  exact Vc h j hj
variable {l:List Dx} {d:Dx}
theorem Alm {i:Nat} (h:l[i]? = some d):((Cd l).drop (i*17)).take 17=d.a false:=by
 apply List.ext_getElem?
 intro j
 rw[List.getElem?_take,Bd]
 by_cases hj:j<17
 ·rw[if_pos hj,Vc h j hj]
 rw[if_neg hj,Ar (by rw[Dx.al];omega)]
variable {i a:Nat}
theorem Aoi (h:l[i]? = some d) (hia:i≠a) (v:AV):(((Cd l).set (a*17+15) v).drop (i*17)).take 17=d.a false:=by
 rw[<- Alm h]
 apply List.ext_getElem?
 intro j
 rw[List.getElem?_take,Bd,List.getElem?_take,Bd]
 by_cases hj:j<17
 ·rw[if_pos hj,if_pos hj,A9 (by omega)]
 rw[if_neg hj,if_neg hj]
theorem Aio {α:Type} {cs:List α} {off:Nat} {vs:List α} (h:∀j,j<vs.length->cs[off+j]? = vs[j]?):Km cs off vs=cs:=by
 apply List.ext_getElem?
 intro p
 rw[Jq]
 split
 ·next hp=>rw[show p=off+(p - off) by omega,h (p - off) (by omega)];congr 1;omega
 rfl
theorem Ayz {i:Nat} (h:l[i]? = some d):Km (Cd l) (i*17) (d.a false)=Cd l:=Aio fun j hj=>Vc h j (by rw[Dx.al] at hj;exact hj)
theorem Aoj (h:l[i]? = some d) (hia:i≠a) (v:AV):Km ((Cd l).set (a*17+15) v) (i*17) (d.a false)=(Cd l).set (a*17+15) v:=Aio fun j hj=>by
 rw[Dx.al] at hj
 rw[A9 (by omega),Vc h j hj]
theorem Agy {a:Nat} (h:l[a]? = some d) (v:AV):Km (Cd l) (a*17) ((d.a false).set 15 v)=(Cd l).set (a*17+15) v:=by
 have ha:a<l.length:=(Ab.1 h).1
 apply List.ext_getElem?
 intro p
 rw[Jq,List.length_set,Dx.al,Ro]
 by_cases hp:a*17<=p/\p<a*17+17/\p<l.length*17
 ·rw[if_pos hp]
  obtain⟨j,rfl⟩:∃j,p=a*17+j:=⟨p - a*17,by omega⟩
  rw[show a*17+j - a*17=j by omega]
  by_cases hj:j=15
  ·subst hj
   rw[Bg (by rw[Dx.al];omega),Bg (by rw[Ro];omega)]
  rw[A9 (by omega),A9 (by omega),Vc h j (by omega)]
 rw[if_neg hp,A9 (by omega)]
theorem A0k {a:Nat} (h:l[a]? = some d) (X:List (List Int)):Cd (l.set a { d with draws:=X })=(Cd l).set (a*17+15) (.imm false 1 (tYs X)):=by
 have ha:a<l.length:=(Ab.1 h).1
 rw[<- Agy h]
 have h1:(l.set a { d with draws:=X })[a]? = some { d with draws:=X }:=Bg ha
 apply List.ext_getElem?
 intro p
 rw[Jq,List.length_set,Dx.al,Ro]
 by_cases hp:a*17<=p/\p<a*17+17/\p<l.length*17
 ·rw[if_pos hp]
  obtain⟨j,rfl⟩:∃j,p=a*17+j:=⟨p - a*17,by omega⟩
  rw[Vc h1 j (by omega),show a*17+j - a*17=j by omega]
  rfl
 rw[if_neg hp]
 by_cases hq:p<l.length*17
 ·have hi:p / 17<l.length:=by omega
  have hpe:p=p / 17*17+p % 17:=by omega
  have hne:p / 17≠a:=fun e=>hp ⟨by omega,by omega,hq⟩
  have h2:l[p / 17]? = some l[p / 17]:=Aa hi
  have h3:(l.set a { d with draws:=X })[p / 17]? = some l[p / 17]:=by rw[A9 (fun e=>hne e.symm)];exact h2
  rw[hpe,Vc h3 _ (Nat.mod_lt _ (by decide)),Vc h2 _ (Nat.mod_lt _ (by decide))]
 rw[Ar (by rw[Ro,List.length_set];omega),Ar (by rw[Ro];omega)]
theorem Ay0 (l:List Dx):Pk false (Jd l)=Cd l:=rfl
variable {F:List AV->List AV} {f:AV->AV}
theorem Avj (hF:∀(cs:List AV) (i:Nat),(F cs)[i]? = (cs[i]?).map f) (h1:∀v,f (.lit v)=.lit v) (h2:∀k es,f (.imm false k es)=.imm false k es) (l:List Dx):F (Cd l)=Cd l:=by
 apply List.ext_getElem?
 intro p
 rw[hF]
 by_cases hq:p<l.length*17
 ·have hi:p / 17<l.length:=by omega
  have hpe:p=p / 17*17+p % 17:=by omega
  have h2':l[p / 17]? = some l[p / 17]:=Aa hi
  have hj:p % 17<17:=Nat.mod_lt _ (by decide)
  rw[hpe,Vc h2' _ hj]
  generalize p % 17=j at hj
  generalize l[p / 17]=d
  have:∀j,j<17->Option.map f ((d.a false)[j]?)=(d.a false)[j]?:=fun j hj=>by
   have hc:j=0\/j=1\/j=2\/j=3\/j=4\/j=5\/j=6\/j=7\/j=8\/j=9\/j=10\/j=11\/j=12\/j=13\/j=14\/j=15\/j=16:=by omega
   rcases hc with rfl | rfl | rfl | rfl | rfl | rfl | rfl | rfl | rfl | rfl | rfl | rfl | rfl | rfl | rfl | rfl | rfl<;>simp[Dx.a,h1,h2]
  exact this j hj
 rw[Ar (by rw[Ro];omega)];rfl
theorem U4 (hF:∀(cs:List AV) (i:Nat),(F cs)[i]? = (cs[i]?).map f) (h1:∀v,f (.lit v)=.lit v) (h2:∀k es,f (.imm false k es)=.imm false k es) (l:List Dx) (p:Nat) (v:AV):F ((Cd l).set p v)=(Cd l).set p (f v):=by
 have h:=Avj hF h1 h2 l
 apply List.ext_getElem?
 intro q
 rw[hF]
 by_cases hq:p=q
 ·subst hq
  by_cases hp:p<(Cd l).length
  ·rw[Bg hp,Bg hp];rfl
  rw[Ar (by simp;omega),Ar (by simp;omega)];rfl
 rw[A9 hq,A9 hq,<- hF,h]
theorem Anm:∀(cs:List AV) (i:Nat),(Kf cs)[i]? = (cs[i]?).map AV.low
 | [],i=>by simp[Kf]
 | c::cs,0=>by simp[Kf]
 | c::cs,i+1=>by have:=Anm cs i;simpa[Kf] using this
theorem Gs (ρ:Nat->Option Nat) (l:List Dx) (p:Nat) (v:AV):Ny ρ ((Cd l).set p v)=(Cd l).set p (v.ren ρ):=U4 (Pi ρ) (fun v=>by simp only[AV.ren]) (fun k es=>by simp only[AV.ren]) l p v
theorem Aeu (ρ:Nat->Option Nat) (l:List Dx):Ny ρ (Cd l)=Cd l:=Avj (Pi ρ) (fun v=>by simp only[AV.ren]) (fun k es=>by simp only[AV.ren]) l
theorem G7 (l:List Dx) (p:Nat) (v:AV):Kf ((Cd l).set p v)=(Cd l).set p v.low:=U4 Anm (fun v=>by simp only[AV.low]) (fun k es=>by simp only[AV.low]) l p v
theorem Fj (N:Nat) (l:List Dx) (p:Nat) (v:AV):Ou N ((Cd l).set p v)=(Cd l).set p (v.shift N):=U4 (Ot N) (fun v=>by simp only[AV.shift]) (fun k es=>by simp only[AV.shift]) l p v
theorem Fq (o:Nat->Ob) (l:List Dx) (p:Nat) (v:AV):Sd o ((Cd l).set p v)=(Cd l).set p (v.melt o):=U4 (Qq o) (fun v=>by simp only[AV.melt]) (fun k es=>by simp only[AV.melt]) l p v
theorem Aqt:∀{a b:List AV} {x y:List T},ttL a=some x->ttL b=some y->ttL (a++b)=some (x++y)
 | [],b,x,y,h1,h2=>by simp[ttL] at h1;subst h1;simpa using h2
 | c::a,b,x,y,h1,h2=>by
  simp only[ttL,List.cons_append] at h1 ⊢
  cases hc:Zc c with
  | none=>rw[hc] at h1;simp at h1
  | some t =>
   cases ha:ttL a with
   | none=>rw[hc,ha] at h1;simp at h1
   | some xs =>
    rw[hc,ha] at h1
    simp at h1
    subst h1
    rw[Aqt ha h2]
    simp
theorem Azb:∀(l:List Dx),ttL (Cd l)=some (Jd l).flatten
 | []=>rfl
 | d::l=>by
  rw[Aev]
  have:=Aqt (a:=d.a false) (x:=d.t) (by rfl) (Azb l)
  rw[this]
  rfl
theorem Adz (x:Dx) (hb:Vw x):PP 86 [] [x.g] [.row 44 1 false false (tYs x.draws)] (.agg [.li x.reg.num,.imm false 1 (tY x.reg.ag.sec),.li x.reg.ag.ri,.li x.reg.ag.cls,.imm false 1 (tI x.reg.ag.lims),.li x.reg.ag.rq,.li x.reg.ag.se,.li x.reg.ag.ra,.li x.reg.ag.bu,.imm false 6 (Pe x.reg.toks),.imm false 2 (Ze x.reg.vehs),.li x.reg.bk.lv,.li x.reg.bk.ra,.li x.reg.bk.bu,.imm false 5 (Hb x.reqs),.own 0 x.draws.length,.imm false 1 (tB x.aud)]):=by
 refine El Tryz.func86 ?_
 have hb1:=hb.reqs
 have hb2:=hb.draws
 refine Bw ?_
 refine Di Dy (R0 x.reg hb.reg) ?_
 refine Cc (fun K kk=>by simp[go_sem];refine .lo (Vq _ (by simpa using hb.reqs)) rfl (by simp) ?_;simp[go_sem];exact kk)<|.seq ?_
 refine Bw<|.block ?_
 refine Cb x.reqs.length (fun i1=>⟨[(1,.ptr 0 0),(2,.ptr 1 0),(15,.li x.reqs.length),(16,.li i1)],[.box 70 [.li x.reg.num,.imm false 1 (tY x.reg.ag.sec),.li x.reg.ag.ri,.li x.reg.ag.cls,.imm false 1 (tI x.reg.ag.lims),.li x.reg.ag.rq,.li x.reg.ag.se,.li x.reg.ag.ra,.li x.reg.ag.bu,.imm false 6 (Pe x.reg.toks),.imm false 2 (Ze x.reg.vehs),.li x.reg.bk.lv,.li x.reg.bk.ra,.li x.reg.bk.bu,.own 2 x.reqs.length,.imm false 1 (tYs x.draws),.imm false 1 (tB x.aud)],.box 70 [.li 0,.nil 1,.li 0,.li 0,.nil 1,.li 0,.li 0,.li 0,.li 0,.nil 6,.nil 2,.li 0,.li 0,.li 0,.nil 5,.nil 1,.nil 1],.row 164 5 false false (Hb x.reqs)]⟩) (wk Dy [0,1,2]) fun i1 hi1=>?_
 refine Bw<|.seq ?_
 refine B7 ?_ ?_<;>intro h17
 ·have hx:x.reqs[i1]? = some x.reqs[i1]:=Aa h17
  generalize x.reqs[i1]=t at hx
  have hs:=Gy (f:=Er.t) hx
  simp only[Er.t] at hs
  refine Bv<|.seq<|.block<|.R ?_
  refine VW.E1 (fun K kk=>by simp[go_sem,hx,hs];(repeat refine aK ?_);refine .lo (E4.froz (Mp _ (by simpa using hb.legs t (Ac hx)) (by simp[T.plain,G3.t]))) rfl (by simp) ?_;simp[go_sem,hx,hs];(repeat first | exact kk | refine aK ?_)) ?_
  refine Cm ?_
  refine⟨by omega,wQ [0,1,2] ?_ ?_⟩
  ·simp[go_sem,Dw ((i1:Int)+1)]
  simp[go_sem]
 refine B5 ?_
 refine Cg 2 (by simp[go_sem,F7]) ?_
 simp[go_sem]
 refine Bx (by rfl) fun K1 hK1=>?_
 simp[go_sem]
 refine .lo (Wm _ (by simpa using hb.draws)) rfl (by simp) ?_
 simp[go_sem]
 refine hK1 _ ?_;clear hK1
 refine Du<|.R<|.block ?_
 refine Cb x.draws.length (fun i2=>⟨[(1,.ptr 0 0),(2,.ptr 1 0),(38,.li x.draws.length),(39,.li i2)],[.box 70 [.li x.reg.num,.imm false 1 (tY x.reg.ag.sec),.li x.reg.ag.ri,.li x.reg.ag.cls,.imm false 1 (tI x.reg.ag.lims),.li x.reg.ag.rq,.li x.reg.ag.se,.li x.reg.ag.ra,.li x.reg.ag.bu,.imm false 6 (Pe x.reg.toks),.imm false 2 (Ze x.reg.vehs),.li x.reg.bk.lv,.li x.reg.bk.ra,.li x.reg.bk.bu,.imm false 5 (Hb x.reqs),.own 2 x.draws.length,.imm false 1 (tB x.aud)],.box 70 [.li 0,.nil 1,.li 0,.li 0,.nil 1,.li 0,.li 0,.li 0,.li 0,.nil 6,.nil 2,.li 0,.li 0,.li 0,.nil 5,.nil 1,.nil 1],.row 44 1 false false (tYs x.draws)]⟩) (wk Dy [0,1,3]) fun i2 hi2=>?_
 refine Bw<|.seq ?_
 refine B7 ?_ ?_<;>intro h40
 ·have hx:x.draws[i2]? = some x.draws[i2]:=Aa h40
  generalize x.draws[i2]=t at hx
  have hs:=Gy (f:=fun x=>[T.sl 1 (tY x)]) hx
  refine Bv<|.seq<|.block<|.R ?_
  refine VW.draw1 (by kernel_rfl) (by rfl) (by kernel_rfl) fun K1 hK1=>?_
  simp[go_sem,hx,hs]
  repeat' refine Ax ?_ ?_
  all_goals try (intros;(repeat' refine Ax ?_ ?_)<;>omega)
  refine .lo (E4.froz (Gh _ (by simpa using hb.draw t (Ac hx)) (by simp[T.plain]))) rfl (by simp) ?_
  simp[go_sem,hx,hs]
  repeat' refine Ax ?_ ?_
  all_goals try (intros;(repeat' refine Ax ?_ ?_)<;>omega)
  refine hK1 _ _ (by kernel_rfl) ?_;clear hK1
  refine Cm ?_
  refine⟨by omega,wQ [0,1,2] ?_ ?_⟩
  ·simp[go_sem,Dw ((i2:Int)+1)]
  simp[go_sem]
 refine B5<|.S (fun K kk=>by simp[go_sem];refine .lo (Yg _ (by simpa using hb.aud) (by simp[T.plain])) rfl (by simp) ?_;simp[go_sem];exact kk) ?_
 refine Bw ?_
 refine Cg 3 (by simp[go_sem,F7]) ?_
 simp[go_sem]
 exact .ret (rW Dy [2])
theorem Ad0 (x:Fo) (hb:Aoh x) (a:Nat) (D:Dx) (hD:x.desks[a]? = some D):PP 61 [] [x.g] [.box 70 ((Cd x.desks).set (a*17+15) (.own 1 D.draws.length)),.row 44 1 false false (tYs D.draws)] (.agg [.imm false 3 (Zf x.cfg.juns),.imm false 8 (tAg x.cfg.ags),.li x.cfg.per,.li x.cfg.cap,.li x.cfg.hold,.li x.cfg.lock,.lb x.ref,.li x.now,.bsl 0 x.desks.length,.imm false 5 (Pf x.sigs),.imm false 3 (P3 x.svcs),.imm false 1 (tI x.stuck),.imm false 4 (R4 x.views)]):=by
 refine El Tryz.func61 ?_
 have hb1:=hb.desks
 have hb2:=hb.sigs
 have hb3:=hb.svcs
 refine Bw ?_
 refine Cc (fun K kk=>by simp[go_sem];refine .lo (Z5 _ (by simpa using hb.desks)) rfl (by simp) ?_;simp[go_sem];exact kk) ?_
 have hA:a<x.desks.length:=(Ab.1 hD).1
 refine VW.toBox 2 rfl (by intro e;simp at e;rw[e] at hA;simp at hA) (by decide) ?_
 simp[go_sem,-Prod.exists,Ay0]
 refine Du<|.R<|.block ?_
 refine Cb x.desks.length (fun i1=>if a<i1 then ⟨[(1,.ptr 0 0),(2,.ptr 1 0),(12,.li x.desks.length),(13,.li i1)],[.box 37 [.imm false 3 (Zf x.cfg.juns),.imm false 8 (tAg x.cfg.ags),.li x.cfg.per,.li x.cfg.cap,.li x.cfg.hold,.li x.cfg.lock,.lb x.ref,.li x.now,.bsl 2 x.desks.length,.imm false 5 (Pf x.sigs),.imm false 3 (P3 x.svcs),.imm false 1 (tI x.stuck),.imm false 4 (R4 x.views)],.box 37 [.nil 3,.nil 8,.li 0,.li 0,.li 0,.li 0,.lb false,.li 0,.nil 17,.nil 5,.nil 3,.nil 1,.nil 4],.box 70 ((Cd x.desks).set (a*17+15) (.own 3 D.draws.length)),.row 44 1 false false (tYs D.draws)]⟩ else ⟨[(1,.ptr 0 0),(2,.ptr 1 0),(12,.li x.desks.length),(13,.li i1)],[.box 37 [.imm false 3 (Zf x.cfg.juns),.imm false 8 (tAg x.cfg.ags),.li x.cfg.per,.li x.cfg.cap,.li x.cfg.hold,.li x.cfg.lock,.lb x.ref,.li x.now,.bsl 2 x.desks.length,.imm false 5 (Pf x.sigs),.imm false 3 (P3 x.svcs),.imm false 1 (tI x.stuck),.imm false 4 (R4 x.views)],.box 37 [.nil 3,.nil 8,.li 0,.li 0,.li 0,.li 0,.lb false,.li 0,.nil 17,.nil 5,.nil 3,.nil 1,.nil 4],.box 70 (Cd x.desks)]⟩) (by rw[if_neg (by omega)];exact⟨[0,1,2],En (by decide) (by repeat' (first | exact .nil | refine .cons (by simp[go_sem]) ?_)) (by repeat' (first | exact .nil | refine .cons (by simp[go_sem,Aeu]) ?_)),by simp⟩) fun i1 hi1=>?_
 have hin:x.desks.length*17=(Cd x.desks).length:=(Ro _).symm
 by_cases hai:a<i1
 ·
  rw[if_pos hai]
  refine Bw<|.seq ?_
  refine B7 ?_ ?_<;>intro h14
  ·have hx:x.desks[i1]? = some x.desks[i1]:=Aa h14
   generalize x.desks[i1]=t at hx
   have hDt:=Aoi hx (by omega) (.own 3 D.draws.length) (a:=a)
   have hDs:=Aoj hx (by omega) (.own 3 D.draws.length) (a:=a)
   simp only[Dx.a,List.set] at hDt hDs
   refine Bv<|.seq<|.block<|.R ?_
   refine VW.M1 (Fe hDt hDs) (L6 t (hb.desk t (Ac hx))) ?_
   refine Cm ?_
   rw[if_pos (by omega)]
   refine⟨by omega,wQ [0,1,2,3] ?_ ?_⟩
   ·simp[go_sem,Dw ((i1:Int)+1)]
   simp[go_sem,hDt,hDs,Gs,Aeu]
  refine B5<|.S (fun K kk=>by simp[go_sem,Gs,G7,Fj,Fq];refine .lo (Wn _ (by simpa using hb.sigs)) rfl (by simp) ?_;simp[go_sem,Gs,G7,Fj,Fq];exact kk)<|.seq ?_
  refine Cc (fun K kk=>by simp[go_sem,Gs,G7,Fj,Fq];exact kk)<|.block ?_
  refine Cb x.sigs.length (fun i2=>⟨[(1,.ptr 0 0),(2,.ptr 1 0),(33,.li x.sigs.length),(34,.li i2)],[.box 37 [.imm false 3 (Zf x.cfg.juns),.imm false 8 (tAg x.cfg.ags),.li x.cfg.per,.li x.cfg.cap,.li x.cfg.hold,.li x.cfg.lock,.lb x.ref,.li x.now,.bsl 2 x.desks.length,.own 4 x.sigs.length,.imm false 3 (P3 x.svcs),.imm false 1 (tI x.stuck),.imm false 4 (R4 x.views)],.box 37 [.nil 3,.nil 8,.li 0,.li 0,.li 0,.li 0,.lb false,.li 0,.nil 17,.nil 5,.nil 3,.nil 1,.nil 4],.box 70 ((Cd x.desks).set (a*17+15) (.own 3 D.draws.length)),.row 44 1 false false (tYs D.draws),.row 135 5 false false (Pf x.sigs)]⟩) (wQ [0,1,2,3,4] ?_ ?_) fun i2 hi2=>?_
  ·simp[go_sem,Gs,G7,Fj,Fq]
  ·simp[go_sem,Gs,G7,Fj,Fq]
  refine Cc (fun K kk=>by simp[go_sem,Gs,G7,Fj,Fq];exact kk)<|.seq ?_
  refine VW.cond (by simp[go_sem,Gs,G7,Fj,Fq]) (by simp[go_sem,Gs,G7,Fj,Fq]) (fun h35=>?_) (fun h35=>?_)<;>simp[go_sem,Gs,G7,Fj,Fq] at h35
  ·have hx:x.sigs[i2]? = some x.sigs[i2]:=Aa h35
   generalize x.sigs[i2]=t at hx
   have hs:=Gy (f:=Ij.t) hx
   simp only[Ij.t] at hs
   refine Bv<|.seq<|.block<|.S (fun K kk=>by simp[go_sem,Gs,G7,Fj,Fq];exact kk) ?_
   refine VW.M1 (Fe hx hs) (P1 t (hb.sig t (Ac hx)).1 (hb.sig t (Ac hx)).2) ?_
   refine VW.S1 (fun K kk=>by simp[go_sem,Gs,G7,Fj,Fq];exact kk) ?_
   refine⟨by omega,wQ [0,1,2,3,4] ?_ ?_⟩
   ·simp[go_sem,Dw ((i2:Int)+1)]
   simp[go_sem,Gs,G7,Fj,Fq]
  refine B5<|.S (fun K kk=>by simp[go_sem,Gs,G7,Fj,Fq];refine .lo (Vp _ (by simpa using hb.svcs)) rfl (by simp) ?_;simp[go_sem,Gs,G7,Fj,Fq];exact kk)<|.seq ?_
  refine Cc (fun K kk=>by simp[go_sem,Gs,G7,Fj,Fq];exact kk)<|.block ?_
  refine Cb x.svcs.length (fun i3=>⟨[(1,.ptr 0 0),(2,.ptr 1 0),(54,.li x.svcs.length),(55,.li i3)],[.box 37 [.imm false 3 (Zf x.cfg.juns),.imm false 8 (tAg x.cfg.ags),.li x.cfg.per,.li x.cfg.cap,.li x.cfg.hold,.li x.cfg.lock,.lb x.ref,.li x.now,.bsl 2 x.desks.length,.own 4 x.sigs.length,.own 5 x.svcs.length,.imm false 1 (tI x.stuck),.imm false 4 (R4 x.views)],.box 37 [.nil 3,.nil 8,.li 0,.li 0,.li 0,.li 0,.lb false,.li 0,.nil 17,.nil 5,.nil 3,.nil 1,.nil 4],.box 70 ((Cd x.desks).set (a*17+15) (.own 3 D.draws.length)),.row 44 1 false false (tYs D.draws),.row 135 5 false false (Pf x.sigs),.row 138 3 false false (P3 x.svcs)]⟩) (wQ [0,1,2,3,4,5] ?_ ?_) fun i3 hi3=>?_
  ·simp[go_sem,Gs,G7,Fj,Fq]
  ·simp[go_sem,Gs,G7,Fj,Fq]
  refine Cc (fun K kk=>by simp[go_sem,Gs,G7,Fj,Fq];exact kk)<|.seq ?_
  refine VW.cond (by simp[go_sem,Gs,G7,Fj,Fq]) (by simp[go_sem,Gs,G7,Fj,Fq]) (fun h56=>?_) (fun h56=>?_)<;>simp[go_sem,Gs,G7,Fj,Fq] at h56
  ·have hx:x.svcs[i3]? = some x.svcs[i3]:=Aa h56
   generalize x.svcs[i3]=t at hx
   have hs:=Gy (f:=F4.t) hx
   simp only[F4.t] at hs
   refine Bv<|.seq<|.block<|.S (fun K kk=>by simp[go_sem,Gs,G7,Fj,Fq];exact kk) ?_
   refine VW.M1 (Fe hx hs) (La t (hb.svc t (Ac hx))) ?_
   refine VW.S1 (fun K kk=>by simp[go_sem,Gs,G7,Fj,Fq];exact kk) ?_
   refine⟨by omega,wQ [0,1,2,3,4,5] ?_ ?_⟩
   ·simp[go_sem,Dw ((i3:Int)+1)]
   simp[go_sem,Gs,G7,Fj,Fq]
  refine B5<|.S (fun K kk=>by simp[go_sem,Gs,G7,Fj,Fq];refine .lo (Hp _ (by simpa using hb.stuck) (by simp[T.plain])) rfl (by simp) ?_;simp[go_sem,Gs,G7,Fj,Fq];exact kk) ?_
  refine Cc (fun K kk=>by simp[go_sem,Gs,G7,Fj,Fq];refine .l (Wk x.views hb.views hb.view) ?_;simp[go_sem,Gs,G7,Fj,Fq];exact kk) ?_
  refine Cc (fun K kk=>by simp[go_sem,Gs,G7,Fj,Fq];exact kk) ?_
  refine Cg 4 (by simp[go_sem,F7]) ?_
  simp[go_sem,Fq]
  refine Cg 5 (by simp[go_sem,F7]) ?_
  simp[go_sem,Fq]
  refine Cg 6 (by simp[go_sem,F7]) ?_
  simp[go_sem,Fq]
  refine VW.ret (Tn [2,3] (by simp[go_sem,Gs,G7,Fj,Fq]) (by decide) (by simp) (by simp[go_sem,Gs,G7,Fj,Fq]) ?_)
  repeat' (first | exact .nil | refine .cons (by simp[go_sem,Gs,G7,Fj,Fq]) ?_)
 -- not yet
 rw[if_neg hai]
 refine Bw<|.seq ?_
 refine B7 ?_ ?_<;>intro h14
 ·
  by_cases hia:i1=a
  ·subst hia
   have hx:=hD
   have hDt:=Alm hx
   have hDs:=Agy hx (.own 3 D.draws.length)
   simp only[Dx.a,List.set] at hDt hDs
   refine Bv<|.seq<|.block<|.R ?_
   refine VW.M1 (Fe hDt hDs) (Adz D (hb.desk D (Ac hx))) ?_
   refine Cm ?_
   rw[if_pos (by omega)]
   refine⟨by omega,wQ [0,1,2,3] ?_ ?_⟩
   ·simp[go_sem,Dw ((i1:Int)+1)]
   simp[go_sem,hDt,hDs,Gs,Aeu]
  ·
   have hx:x.desks[i1]? = some x.desks[i1]:=Aa h14
   generalize x.desks[i1]=t at hx
   have hDt:=Alm hx
   have hDs:=Ayz hx
   simp only[Dx.a,List.set] at hDt hDs
   refine Bv<|.seq<|.block<|.R ?_
   refine VW.M1 (Fe hDt hDs) (L6 t (hb.desk t (Ac hx))) ?_
   refine Cm ?_
   rw[if_neg (by omega)]
   refine⟨by omega,wQ [0,1,2] ?_ ?_⟩
   ·simp[go_sem,Dw ((i1:Int)+1)]
   simp[go_sem,hDt,hDs,Gs,Aeu]
 -- none
 omega
end
section
variable {k:Nat} {D:Dx}
theorem A2e {c:Fo} (hD:c.desks[k]? = some D) {n:List (List Int)}:Xj c { c with desks:=c.desks.set k { D with draws:=n } }:=⟨rfl,fun j x h=>by
 by_cases e:j=k
 ·subst e
  rw[hD] at h
  injection h with h
  subst h
  exact⟨n,Bg (Ab.1 hD).1⟩
 exact⟨x.draws,by show (c.desks.set k _)[j]? = _;rw[A9 (Ne.symm e)];exact h⟩⟩
theorem A2f {c:Fo} (hc:J4 c) (hD:c.desks[k]? = some D) {n:List Int} (h8:D.draws.length<8) (hn:n.length=8) (hB:By n):J4 { c with desks:=c.desks.set k { D with draws:=D.draws++[n] } }:=by
 have hm:=hc.desk D (Ac hD)
 have hd:∀d∈c.desks.set k { D with draws:=D.draws++[n] },Fx d/\1<=d.aud.length/\d.aud.length<=2:=fun d hd=>by
  rcases Bi hd with h | rfl
  ·exact hc.desk d h
  exact⟨⟨⟨hm.1.b.reg,hm.1.b.reqs,hm.1.b.legs,by simp;omega,fun s hs=>by
   rcases A0.1 hs with h | h
   ·exact hm.1.b.draw s h
   ·rw[An.1 h];omega,hm.1.b.aud⟩,hm.1.vehs,hm.1.reqs,fun s hs=>by
   rcases A0.1 hs with h | h
   ·exact hm.1.dr s h
   rw[An.1 h];exact⟨by omega,hB⟩,hm.1.rq,hm.1.rl,hm.1.rk⟩,hm.2⟩
 exact⟨hc.ref,hc.jun,hc.nj,hc.na,by simpa using hc.desks,hd,hc.sigs,hc.sig,hc.svcs,hc.svc,hc.stuck,hc.views,hc.view,hc.vw,fun j d a h ha=>by
  have h:(c.desks.set k { D with draws:=D.draws++[n] })[j]? = some d:=h
  by_cases e:j=k
  ·subst e
   rw[Bg (Ab.1 hD).1] at h
   injection h with h
   rw[<- h]
   exact hc.dl j D a hD ha
  rw[A9 (Ne.symm e)] at h
  exact hc.dl j d a h ha⟩
theorem A2w (l:List Dx) (hk:k<l.length) (v:AV):((Cd l).set (k*17+15) v)[k*17+15]? = some v:=Bg (by rw[Ro];omega)
variable {l:List Dx}
theorem Aqs (h:l[k]? = some D) (X:List (List Int)):ttL ((Cd l).set (k*17+15) (.imm false 1 (tYs X)))=some (Jd (l.set k { D with draws:=X })).flatten:=by rw[<- A0k h,Azb]
theorem Ao6 (l:List Dx):∀e∈Jd l,e.length=17:=fun e he=>by
 obtain⟨d,_,rfl⟩:=A4.1 he
 rfl
theorem Arx (h:l[k]? = some D):l.set k { D with draws:=D.draws }=l:=by
 apply List.ext_getElem?
 intro i
 rw[List.getElem?_set]
 split
 ·next e=>subst e;rw[h,if_pos (Ab.1 h).1]
 rfl
theorem Ami (h:l[k]? = some D):ttL ((Cd l).set (k*17+15) (.imm false 1 (tYs D.draws)))=some (Jd l).flatten:=by rw[Aqs h,Arx h]
theorem At9 (h:l[k]? = some D) (n:List Int):ttL ((Cd l).set (k*17+15) (.imm false 1 (tYs D.draws++[[T.sl 1 (tY n)]])))=some (Jd (l.set k { D with draws:=D.draws++[n] })).flatten:=by
 rw[<- Aqs h,show tYs (D.draws++[n])=tYs D.draws++[[T.sl 1 (tY n)]] from by simp]
section
variable (c:Fo) (a:Int) (n:List Int) (hc:J4 c) (hn:n.length<=1000000) (hB:By n)
include a hc hn hB
theorem Ag8:∃res,PP 42 [] [c.g,.li a,.imm false 1 (tY n)] [] res/\IsD (fun d:Fo=>d.g) (fun d=>J4 d/\d.cfg=c.cfg/\Xj c d) res:=by
 refine Ev Tryz.func42 ?_
 have hr:=hc.ref
 have hds:=hc.desks
 have hna:=hc.na
 refine Bq ?_
 by_cases hk:0<=a/\a<c.desks.length
 ·obtain⟨k,rfl⟩:∃k:Nat,a=k:=⟨a.toNat,by omega⟩
  have hkl:k<c.desks.length:=by omega
  have hD:c.desks[k]? = some c.desks[k]:=Aa hkl
  generalize c.desks[k]=D at hD
  have hlt:¬((k:Int)<0):=by omega
  have hge:¬((c.desks.length:Int)<=(k:Int)):=by omega
  have hin:k*17+15<(Cd c.desks).length:=by rw[Ro];omega
  have hcl:=Ro c.desks
  refine B3 (fun K kk=>by simp[go_sem];refine .l (Ad0 c hc.b k D hD) ?_;simp[go_sem,Fj];exact kk)<|.seq ?_
  refine Bu (I1 hr hlt hge) ?_
  refine Br ?_ ?_<;>intro h27
  ·
   refine Bq ?_
   refine Dj 3 ?_
   simp[go_sem,Fq]
   refine C7 2 17 (Jd c.desks) rfl (Ami hD) (Ao6 _) (by simp) ?_
   simp[go_sem]
   refine Bz (Fl ?_);simp[go_sem]
   exact⟨c,by simp[go_sem,hr],hc,rfl,.refl _⟩
  -- a nonce
  refine Bp<|.H Dy<|.seq ?_
  have hat:=A2w c.desks hkl (.own 3 D.draws.length)
  refine Bu hat ?_
  refine Br ?_ ?_<;>intro h38
  ·
   refine Dg (fun K kk=>by simp[go_sem,hat];(repeat refine aK ?_);refine .lo (E4.froz (Gh _ (by simpa using hn) (by simp[T.plain]))) rfl (by simp) ?_;simp[go_sem,hat];(repeat first | exact kk | refine aK ?_)) ?_
   refine Bq ?_
   refine Dj 3 ?_
   simp[go_sem,Fq]
   refine C7 2 17 (Jd (c.desks.set k { D with draws:=(D.draws++[n]) })) rfl (At9 hD n) (Ao6 _) (by simp) ?_
   simp[go_sem]
   refine Bz (Fl ?_);simp[go_sem]
   exact⟨{ c with desks:=c.desks.set k { D with draws:=D.draws++[n] } },by simp[go_sem,hr],A2f hc hD (by omega) (by omega) hB,rfl,A2e hD⟩
  -- none
  refine Bp<|.R ?_
  refine Dj 3 ?_
  simp[go_sem,Fq]
  refine C7 2 17 (Jd c.desks) rfl (Ami hD) (Ao6 _) (by simp) ?_
  simp[go_sem]
  refine Bz (Fl ?_);simp[go_sem]
  exact⟨c,by simp[go_sem,hr],hc,rfl,.refl _⟩
 -- no such desk
 have hk2:a<0\/(c.desks.length:Int)<=a:=by omega
 refine B8 Dy (O8 c hc.b)<|.seq ?_
 refine Bu hr ?_
 refine Br ?_ ?_<;>intro h27
 ·
  refine Bq ?_
  refine B2 Dy 2 ?_
  refine B2 Dy 3 ?_
  refine B2 Dy 4 ?_
  refine B2 Dy 5 ?_
  refine Bz (Fl ?_);simp[go_sem]
  exact⟨c,by simp[go_sem,hr],hc,rfl,.refl _⟩
 -- not so
 exfalso
 omega
theorem Ajj:∃d:Fo,PP 42 [] [c.g,.li a,.imm false 1 (tY n)] [] (d.g)/\(J4 d/\d.cfg=c.cfg/\Xj c d):=Eo (Ag8 c a n hc hn hB)
end
end
section
def Oc (e:Mg):Prop:=e.bytes.length<=1000000/\By e.bytes
def Wu (s:Fi) (e:Mg):Fi:=by
 classical
 exact if h:Aqe s/\e.bytes.length<=1000000 then (if e.kind=1 then Jf s h.1.1 else if e.kind=2 then Mx s else if e.kind=3 then Mw s e.bytes h.1.1 h.2 else s) else s
def Aax (l:List Fi) (e:Mg):List Fi:=if 0<=e.se then (match l[e.se.toNat]? with | some s=>l.set e.se.toNat (Wu s e) | none=>l) else l
variable {l:List Fi} {e:Mg} {s:Fi}
theorem Any (h0:0<=e.se) (hs:l[e.se.toNat]? = some s):Aax l e=l.set e.se.toNat (Wu s e):=by simp[Aax,h0,hs]
theorem Aca (h:¬(0<=e.se/\e.se<l.length)):Aax l e=l:=by
 unfold Aax
 split
 ·rw[Ar (by omega)]
 rfl
theorem Auq (hs:Aqe s) (he:e.bytes.length<=1000000) (hk:e.kind=1):Wu s e=Jf s hs.1:=by simp[Wu,hs,he,hk]
theorem Azj (hs:Aqe s) (he:e.bytes.length<=1000000) (hk:e.kind=2):Wu s e=Mx s:=by simp[Wu,hs,he,hk]
theorem Azi (hs:Aqe s) (he:e.bytes.length<=1000000) (hk:e.kind=3):Wu s e=Mw s e.bytes hs.1 he:=by simp[Wu,hs,he,hk]
theorem Aum {i:Nat} (hs:l[i]? = some s):l.set i s=l:=by
 have:=(Ab.1 hs)
 obtain⟨h,rfl⟩:=this
 exact List.set_getElem_self h
theorem Av4 (h1:e.kind≠1) (h2:e.kind≠2) (h3:e.kind≠3):Aax l e=l:=by
 unfold Aax
 split
 ·split
  ·rename_i s hs
   have:Wu s e=s:=by simp[Wu,h1,h2,h3]
   rw[this]
   exact Aum hs
  rfl
 rfl
theorem J4.stuckd {c d:Fo} (h:J4 c) (q:d.cfg=c.cfg/\d.ref=c.ref/\d.now=c.now/\d.desks=c.desks/\d.sigs=c.sigs/\d.svcs=c.svcs/\d.views=c.views/\d.stuck.length=c.stuck.length):J4 d:=by
 obtain⟨q1,q2,q3,q4,q5,q6,q7,q8⟩:=q
 exact⟨by rw[q2];exact h.ref,by rw[q1];exact h.jun,by rw[q1];exact h.nj,by rw[q1];exact h.na,by rw[q4,q1];exact h.desks,by rw[q4];exact h.desk,by rw[q5,q1];exact h.sigs,by rw[q5];exact h.sig,by rw[q6,q1];exact h.svcs,by rw[q6];exact h.svc,by rw[q8,q1];exact h.stuck,by rw[q7,q1];exact h.views,by rw[q7];exact h.view,by rw[q7,q1];exact h.vw,by rw[q4,q1];exact h.dl⟩
structure DoQ (b:I7) (e:Mg) (d:I7×Pl×Bool):Prop where
  i:Ru d.1
  cfg:d.1.city.cfg=b.city.cfg
  len:d.1.sess.length=b.sess.length
  few:e.kind<=3->d=(⟨b.city,Aax b.sess e⟩,⟨[],[]⟩,false)
  tick:e.kind=6->d.2.2=true/\(d.2.1.ses.length:Int)=Ek b.city.cfg.ags b.city.cfg.ags.length/\d.1.city.now=IntKind.i64.wrap ((if 1073741823<b.city.now then 1073741823 else b.city.now)+1)/\A2i b (d.1,d.2.1)
  none:e.kind≠6->d.2.2=false
  keep:3<e.kind->e.kind≠6->d.1.sess=b.sess/\Xj b.city d.1.city
variable {b:I7}
theorem DoQ.ses (hb:Ru b) {s x:Fi} (h0:0<=e.se) (hs:b.sess[e.se.toNat]? = some s) (hx:Aqe x) (h:Wu s e=x) (hk:e.kind<=3):DoQ b e (⟨b.city,b.sess.set e.se.toNat x⟩,⟨[],[]⟩,false) :=
 ⟨⟨hb.city,by simpa using hb.n,Zo hb.ses hx⟩,rfl,by simp,fun _=>by rw[Any h0 hs,h],fun h=>by omega,fun _=>rfl,fun h=>by omega⟩
theorem DoQ.no (hb:Ru b) (h:Aax b.sess e=b.sess\/3<e.kind) (hk:e.kind≠6):DoQ b e (b,⟨[],[]⟩,false) :=
 ⟨hb,rfl,rfl,fun h3=>(by rcases h with h | h<;>first | (rw[h];done) | omega),fun h=>absurd h hk,fun _=>rfl,fun _ _=>⟨rfl,Xj.refl _⟩⟩
theorem DoQ.city (hb:Ru b) {c:Fo} (hc:J4 c) (h:c.cfg=b.city.cfg) (hK:Xj b.city c) (h3:3<e.kind) (hk:e.kind≠6):DoQ b e (⟨c,b.sess⟩,⟨[],[]⟩,false) :=
 ⟨⟨hc,hb.n,hb.ses⟩,h,rfl,fun h=>by omega,fun h=>absurd h hk,fun _=>rfl,fun _ _=>⟨rfl,hK⟩⟩
section
variable (b:I7) (e:Mg) (hb:Ru b) (he:Oc e)
include hb he
theorem Wd:Ct 14 [b.g,e.g] (fun d:I7×Pl×Bool=>.tup [d.1.g,d.2.1.g,.lb d.2.2]) (fun d=>DoQ b e d):=by
 refine Ev Tryz.func14 ?_
 have hbn:=hb.n
 have heb:=he.1
 refine Bq ?_
 refine B8 Dy (Ad1 b hb.b) ?_
 refine Bq<|.seq ?_
 refine B2 Dy 4 ?_
 refine B2 Dy 5 ?_
 refine B2 Dy 6 ?_
 refine B2 Dy 7 ?_
 refine Bq<|.block ?_
 refine Bq ?_
 refine Br ?_ ?_<;>intro h25
 ·refine Bq ?_
  refine Br ?_ ?_<;>intro h27
  ·have hex:=h27
   obtain⟨sk,hsk⟩:∃u,b.sess[e.se.toNat]? = some u:=⟨_,Aa (by omega)⟩
   have hsq:=hb.ses sk (Ac hsk)
   have hv:=Amd sk hsq.1
   have hq:=Ac0 sk hsq.1
   refine Cp hsk (hv) ?_
   refine Bq ?_
   refine B2 Dy 8 ?_
   exact .ret (Eu Dy (⟨b.city,(b.sess).set e.se.toNat (Jf sk hsq.1)⟩,⟨[],[]⟩,false) (DoQ.ses hb hex.1 hsk ⟨hq.1,hq.2.1 hsq.2⟩ (Auq hsq heb h25) (by omega)))
  refine Bp<|.R ?_
  refine B2 Dy 8 ?_
  exact .ret (Eu Dy (⟨b.city,b.sess⟩,⟨[],[]⟩,false) (DoQ.no hb (.inl (Aca (by omega))) (by omega)))
 refine Bq ?_
 refine Br ?_ ?_<;>intro h40
 ·refine Bq ?_
  refine Br ?_ ?_<;>intro h42
  ·have hex:=h42
   obtain⟨sk,hsk⟩:∃u,b.sess[e.se.toNat]? = some u:=⟨_,Aa (by omega)⟩
   have hsq:=hb.ses sk (Ac hsk)
   have hv:=Ame sk
   have hq:=Am8 sk
   refine Cp hsk (hv) ?_
   refine Bq ?_
   refine B2 Dy 8 ?_
   exact .ret (Eu Dy (⟨b.city,(b.sess).set e.se.toNat (Mx sk)⟩,⟨[],[]⟩,false) (DoQ.ses hb hex.1 hsk hq (Azj hsq heb h40) (by omega)))
  refine Bp<|.R ?_
  refine B2 Dy 8 ?_
  exact .ret (Eu Dy (⟨b.city,b.sess⟩,⟨[],[]⟩,false) (DoQ.no hb (.inl (Aca (by omega))) (by omega)))
 refine Bq ?_
 refine Br ?_ ?_<;>intro h55
 ·refine Bq ?_
  refine Br ?_ ?_<;>intro h57
  ·have hex:=h57
   obtain⟨sk,hsk⟩:∃u,b.sess[e.se.toNat]? = some u:=⟨_,Aa (by omega)⟩
   have hsq:=hb.ses sk (Ac hsk)
   have hv:=Amc sk e.bytes hsq.1 heb
   have hq:=Am7 sk e.bytes hsq.1 heb
   refine Cp hsk (hv) ?_
   refine Bq ?_
   refine B2 Dy 8 ?_
   exact .ret (Eu Dy (⟨b.city,(b.sess).set e.se.toNat (Mw sk e.bytes hsq.1 heb)⟩,⟨[],[]⟩,false) (DoQ.ses hb hex.1 hsk ⟨hq.1,hq.2 hsq.2 he.2⟩ (Azi hsq heb h55) (by omega)))
  refine Bp<|.R ?_
  refine B2 Dy 8 ?_
  exact .ret (Eu Dy (⟨b.city,b.sess⟩,⟨[],[]⟩,false) (DoQ.no hb (.inl (Aca (by omega))) (by omega)))
 refine Bq ?_
 refine Br ?_ ?_<;>intro h72
 ·obtain⟨Y1,cY1,qY1⟩:=Ajj b.city e.x e.bytes hb.city heb he.2
  have hv:=cY1
  have hq:=qY1
  generalize Y1=G at hv hq
  refine Dr Dy (hv) ?_
  refine Bq ?_
  refine B2 Dy 8 ?_
  exact .ret (Eu Dy (⟨G,b.sess⟩,⟨[],[]⟩,false) (DoQ.city hb hq.1 hq.2.1 hq.2.2 (by omega) (by omega)))
 refine Bq ?_
 refine Br ?_ ?_<;>intro h82
 ·obtain⟨Y2,cY2,qY2⟩:=Eo (Ag7 b.city e.x e.y hb.city.b (hb.city.stuck))
  have hv:=cY2
  have hq:=qY2
  generalize Y2=G at hv hq
  refine Dr Dy (hv) ?_
  refine Bq ?_
  refine B2 Dy 8 ?_
  exact .ret (Eu Dy (⟨G,b.sess⟩,⟨[],[]⟩,false) (DoQ.city hb (hb.city.stuckd hq) hq.1 (Xj.same hq.2.2.1 hq.2.2.2.1) (by omega) (by omega)))
 refine Bq ?_
 refine Br ?_ ?_<;>intro h92
 ·obtain⟨Y3,cY3,qY3⟩:=Adf b hb
  have hv:=cY3
  have hq:=qY3
  generalize Y3=G at hv hq
  refine Da Dy [8] hv ?_
  refine VX.D ?_
  exact .ret (Eu Dy (G.1,G.2,true) ⟨hq.1,hq.2.1,hq.2.2.1,fun h=>by omega,fun _=>⟨rfl,hq.2.2.2⟩,fun h=>absurd h92 h,fun _ h=>absurd h92 h⟩)
 refine Bp<|.R ?_
 refine B2 Dy 8 ?_
 exact .ret (Eu Dy (⟨b.city,b.sess⟩,⟨[],[]⟩,false) (DoQ.no hb (.inl (Av4 (by omega) (by omega) (by omega))) (by omega)))
def K0:I7×Pl×Bool:=(Eo (Wd b e hb he)).choose
theorem Amh:PP 14 [] [b.g,e.g] [] (.tup [.agg ((K0 b e hb he).1.a false),.agg ((K0 b e hb he).2.1.a false),.lit (.bool (K0 b e hb he).2.2)]):=(Eo (Wd b e hb he)).choose_spec.1
theorem Jg:DoQ b e (K0 b e hb he):=(Eo (Wd b e hb he)).choose_spec.2
end
end
def Vv (b:I7) (e:Mg):I7×Pl×Bool:=by
 classical
 exact if h:Ru b/\Oc e then K0 b e h.1 h.2 else (b,⟨[],[]⟩,false)
def Rd:I7->List Mg->List Pl
 | _,[]=>[]
 | b,e::l=>if (Vv b e).2.2 then (Vv b e).2.1::Rd (Vv b e).1 l else Rd (Vv b e).1 l
theorem U6 {b:I7} {e:Mg} (hb:Ru b) (he:Oc e):Vv b e=K0 b e hb he:=by simp[Vv,hb,he]
def bkY (y:List Gc×List Hy×Int×Int×Int×Int×Bool×Int×List Dx×List Ij×List F4×List Int×List Gw×List Fi×List Pl):I7:=⟨⟨⟨y.1,y.2.1,y.2.2.1,y.2.2.2.1,y.2.2.2.2.1,y.2.2.2.2.2.1⟩,y.2.2.2.2.2.2.1,y.2.2.2.2.2.2.2.1,y.2.2.2.2.2.2.2.2.1,y.2.2.2.2.2.2.2.2.2.1,y.2.2.2.2.2.2.2.2.2.2.1,y.2.2.2.2.2.2.2.2.2.2.2.1,y.2.2.2.2.2.2.2.2.2.2.2.2.1⟩,y.2.2.2.2.2.2.2.2.2.2.2.2.2.1⟩
theorem Ar4 {b:I7} {l:List Mg} {i:Nat} {e:Mg} (h:l[i]? = some e):Rd b (l.drop i)=if (Vv b e).2.2 then (Vv b e).2.1::Rd (Vv b e).1 (l.drop (i+1)) else Rd (Vv b e).1 (l.drop (i+1)):=by
 obtain⟨hi,rfl⟩:=Ab.1 h
 rw[List.drop_eq_getElem_cons hi,Rd]
section
variable (c:E6) (l:List Mg) (hb:Acg c) (hp:Ln c=true) (hJ:∀j∈c.juns,N5 j/\j.phs.length<=8) (hA:∀a∈c.ags,a.sec.length<=1000000/\a.lims.length<=1000000/\a.rq<=3) (hl1:c.juns.length<=4) (hl2:c.ags.length<=4) (hS:∀x∈c.ags,1<=x.se/\x.se<=2) (hl:l.length<=1000000) (hE:∀e∈l,Oc e)
include hb hp hJ hA hl1 hl2 hS hl hE
theorem Ug:Ct 22 [c.g,.mEv l] (fun d:List Pl=>.mOut d) (fun d=>d=Rd (F6 c hb hp hJ hA hl1 hl2 hS) (l.take 400)):=by
 refine Ev Tryz.func22 ?_
 have hNv:=Aj7 c hb hp hJ hA hl1 hl2 hS
 have hNq:=U1 c hb hp hJ hA hl1 hl2 hS
 obtain⟨N,hN⟩:∃N,N=F6 c hb hp hJ hA hl1 hl2 hS:=⟨_,rfl⟩
 rw[<- hN] at hNv hNq
 obtain⟨lt,hlt⟩:∃lt,lt=l.take (min l.length 400):=⟨_,rfl⟩
 have hT:List.take (if (400:Int)<(l.length:Int) then (400:Int) else (l.length:Int)).toNat (List.map Mg.t l)=List.map Mg.t lt:=by rw[hlt,List.map_take];congr 1;split<;>omega
 have hlm:l.take 400=l.take (min l.length 400):=by rw[Nat.min_comm,<- List.take_take,List.take_length]
 have hll:lt.length<=400:=by rw[hlt,A5];omega
 have hlE:∀e∈lt,Oc e:=fun e h=>hE e (by rw[hlt] at h;exact Aq h)
 refine Bq ?_
 refine B8 Dy (hNv) ?_
 refine Bq<|.seq ?_
 refine Bu hT<|.block ?_
 refine Cf 6 49 2 (by decide) (k':=2) (by simp[go_sem]) ?_
 simp[go_sem,-Prod.exists]
 refine Bs (lt.length) (fun i1 (y1:(List Gc)×(List Hy)×Int×Int×Int×Int×Bool×Int×(List Dx)×(List Ij)×(List F4)×(List Int)×(List Gw)×(List Fi)×(List Pl))=>⟨[(5,.ptr 0 0),(6,.own 1 y1.2.2.2.2.2.2.2.2.2.2.2.2.2.2.length),(18,.mEv lt),(19,.li (lt.length)),(20,.li i1)],[.box 40 [.mJun y1.1,.mAg y1.2.1,.li y1.2.2.1,.li y1.2.2.2.1,.li y1.2.2.2.2.1,.li y1.2.2.2.2.2.1,.lb y1.2.2.2.2.2.2.1,.li y1.2.2.2.2.2.2.2.1,.mDesk y1.2.2.2.2.2.2.2.2.1,.mSig y1.2.2.2.2.2.2.2.2.2.1,.mSvc y1.2.2.2.2.2.2.2.2.2.2.1,.mI y1.2.2.2.2.2.2.2.2.2.2.2.1,.mView y1.2.2.2.2.2.2.2.2.2.2.2.2.1,.imm false 4 (Z8 y1.2.2.2.2.2.2.2.2.2.2.2.2.2.1)],.row 49 2 false false (A1v y1.2.2.2.2.2.2.2.2.2.2.2.2.2.2)]⟩) (fun i1 y1=>Ru (bkY y1)/\y1.2.2.2.2.2.2.2.2.2.2.2.2.2.2++Rd (bkY y1) (lt.drop i1)=Rd N lt/\y1.2.2.2.2.2.2.2.2.2.2.2.2.2.2.length<=i1) (N.city.cfg.juns,N.city.cfg.ags,N.city.cfg.per,N.city.cfg.cap,N.city.cfg.hold,N.city.cfg.lock,N.city.ref,N.city.now,N.city.desks,N.city.sigs,N.city.svcs,N.city.stuck,N.city.views,N.sess,[]) (wk Dy [1,2]) (⟨hNq.1,rfl,by simp⟩) fun i1 y1 hi1 hy1=>?_
 refine Bq<|.seq ?_
 refine Br ?_ ?_<;>intro h21
 ·refine Bp<|.seq<|.block ?_
  obtain⟨e1,H1⟩:=gx lt i1
  refine Bu H1 ?_
  have hDv:=Amh (bkY y1) e1 hy1.1 (hlE e1 (Ac H1))
  have hDq:=Jg (bkY y1) e1 hy1.1 (hlE e1 (Ac H1))
  have hDf:=U6 hy1.1 (hlE e1 (Ac H1))
  have hrd:=Ar4 (b:=bkY y1) H1
  rw[hDf] at hrd
  generalize K0 (bkY y1) e1 hy1.1 (hlE e1 (Ac H1))=D at hDv hDq hrd
  refine B8 H1 (hDv) ?_
  refine Bu H1 ?_
  refine Bu H1 ?_
  refine Br ?_ ?_<;>intro h32
  ·refine B0 H1 ?_
   refine B0 H1 ?_
   exact⟨by omega,(D.1.city.cfg.juns,D.1.city.cfg.ags,D.1.city.cfg.per,D.1.city.cfg.cap,D.1.city.cfg.hold,D.1.city.cfg.lock,D.1.city.ref,D.1.city.now,D.1.city.desks,D.1.city.sigs,D.1.city.svcs,D.1.city.stuck,D.1.city.views,D.1.sess,y1.2.2.2.2.2.2.2.2.2.2.2.2.2.2++([D.2.1])),⟨hDq.i,by rw[<- hy1.2.1,hrd];simp[h32];rfl,by (simp;omega)⟩,wk (Fe (Dw ((i1:Int)+1)) H1) [0,1]⟩
  refine Bp<|.H1 H1 ?_
  exact⟨by omega,(D.1.city.cfg.juns,D.1.city.cfg.ags,D.1.city.cfg.per,D.1.city.cfg.cap,D.1.city.cfg.hold,D.1.city.cfg.lock,D.1.city.ref,D.1.city.now,D.1.city.desks,D.1.city.sigs,D.1.city.svcs,D.1.city.stuck,D.1.city.views,D.1.sess,y1.2.2.2.2.2.2.2.2.2.2.2.2.2.2),⟨hDq.i,by rw[<- hy1.2.1,hrd];simp[h32];rfl,by (simp;omega)⟩,wk (Fe (Dw ((i1:Int)+1)) H1) [0,1]⟩
 refine Bt<|.R ?_
 refine B2 Dy 1 ?_
 exact .ret (Eu Dy y1.2.2.2.2.2.2.2.2.2.2.2.2.2.2 (by have h:=hy1.2.1;rw[List.drop_eq_nil_of_le (by omega)] at h;rw[<- hN,hlm,<- hlt];simpa[Rd] using h))
def Aaj:List Pl:=(Eo (Ug c l hb hp hJ hA hl1 hl2 hS hl hE)).choose
theorem Z6:PP 22 [] [c.g,.mEv l] [] (.mOut (Aaj c l hb hp hJ hA hl1 hl2 hS hl hE)):=(Eo (Ug c l hb hp hJ hA hl1 hl2 hS hl hE)).choose_spec.1
theorem Aam:(Aaj c l hb hp hJ hA hl1 hl2 hS hl hE)=Rd (F6 c hb hp hJ hA hl1 hl2 hS) (l.take 400):=(Eo (Ug c l hb hp hJ hA hl1 hl2 hS hl hE)).choose_spec.2
end
section
variable {b:List Int}
theorem Aln (h:By b) (k:Nat):By (b.take k):=fun x hx=>h x (Aq hx)
theorem Arp (h:By b) (k:Nat):By (b.drop k):=fun x hx=>h x (Ay hx)
theorem A0l (h:By b) (k:Nat) (v:Int):By (b.set k (IntKind.u8.wrap v)):=fun x hx=>by
 rcases Bi hx with h1 | h1
 ·exact h x h1
 rw[h1];exact Xm v _ List.mem_cons_self
theorem Azg {α:Type} (b:List α) (K:Nat) (h:K<b.length):(Km b K ((b.drop (K+1)).take (b.length - (K+1)))).take (K+(b.length - (K+1)))=b.take K++b.drop (K+1):=by
 refine List.ext_getElem? fun i=>?_
 by_cases hi:i<K+(b.length - (K+1))
 ·rw[Ag hi,Jq]
  by_cases h1:i<K
  ·rw[if_neg (by omega),Au (by simp;omega),Ag h1]
  rw[if_pos (by simp;omega),Ao (by simp;omega)]
  rw[Ag (by omega)]
  congr 1
  simp
  omega
 rw[List.getElem?_take_eq_none (by omega),Ar (by simp;omega)]
section
variable (b:List Int) (ix:Int) (bv:Int) (hl:b.length<=1000)
include ix bv hl
theorem Ja:Ct 37 [.mY b,.li ix,.li bv] (fun d:List Int=>.mY d) (fun d=>d.length<=1001/\(By b->By d)):=by
 refine Ev Tryz.func37 ?_
 refine Bq ?_
 refine Bu Dy<|.seq ?_
 refine Bq ?_
 refine Br ?_ ?_<;>intro h13
 ·refine Bq ?_
  refine B2 Dy 1 ?_
  exact .ret (Eu Dy ([IntKind.u8.wrap bv]) (by exact⟨by simp,fun _=>Xm _⟩))
 refine Bp ?_
 have hbp:1<=b.length:=by have:=List.length_pos_iff.2 h13;omega
 obtain⟨Y1,cY1,qY1⟩:=Eo (It ix b.length (by omega) (by omega))
 have hMv:=cY1
 have hMq:=qY1
 obtain⟨K,hK⟩:∃K:Nat,Y1=(K:Int):=⟨_,(Int.toNat_of_nonneg hMq.1).symm⟩
 rw[hK] at hMv hMq
 have hwk:=Dw ((K:Int)+1)
 obtain⟨e0,he0⟩:∃e,b[K]? = some e:=⟨_,Aa (by omega)⟩
 refine B8 Dy (hMv)<|.seq ?_
 refine B3 (fun K kk=>by simp[go_sem];(repeat refine aK ?_);refine .lo (Nb _ 4 (by omega) (by omega)) rfl (by simp[AV.cln,Ff]) ?_;simp[go_sem];exact kk)<|.block ?_
 refine Bq ?_
 refine Br ?_ ?_<;>intro h27
 ·obtain⟨e1,H1⟩:=gx b ((K:Int).toNat)
  refine B0 (Fe H1 he0) ?_
  refine Bu H1 ?_
  refine B2 he0 0 ?_
  refine Bz (Fl ?_);simp[go_sem,he0]
  exact⟨b.set K (IntKind.u8.wrap bv),by simp[go_sem,he0,List.map_set],by simp;omega,fun h=>A0l h _ _⟩
 refine Bq ?_
 refine Br ?_ ?_<;>intro h34
 ·refine C9 hwk ?_
  refine B2 Dy 0 ?_
  refine Bz (Fl ?_);simp[go_sem]
  rw[if_pos (by rw[Fr];simp)]
  refine⟨b.take K++b.drop (K+1),?_,by simp;omega,fun h=>(Aln h _).app (Arp h _)⟩
  have hsp:=Azg (tY b) K (by simp;omega)
  simp only[A2] at hsp
  rw[hsp]
  simp[go_sem,List.map_take,List.map_drop]
 refine Bq ?_
 refine Br ?_ ?_<;>intro h44
 ·refine C9 hwk ?_
  refine B2 Dy 1 ?_
  refine Bz (Fl ?_);simp[go_sem]
  rw[if_pos (by omega)]
  refine⟨b.take K++[IntKind.u8.wrap bv]++b.drop K,?_,by simp;omega,fun h=>((Aln h _).app (Xm _)).app (Arp h _)⟩
  have e1:List.take (b.length - K) (List.drop K (tY b))=List.drop K (tY b):=Bf (by simp)
  rw[e1]
  simp[go_sem,List.map_take,List.map_drop]
 refine B2 Dy 0 ?_
 refine Bu Dy ?_
 refine Bz (Fl ?_);simp[go_sem]
 exact⟨b.take K,by simp[go_sem,List.map_take],by simp;omega,fun h=>Aln h _⟩
def G2:List Int:=(Eo (Ja b ix bv hl)).choose
theorem Lj:PP 37 [] [.mY b,.li ix,.li bv] [] (.mY (G2 b ix bv hl)):=(Eo (Ja b ix bv hl)).choose_spec.1
theorem Lm:(G2 b ix bv hl).length<=1001/\(By b->By (G2 b ix bv hl)):=(Eo (Ja b ix bv hl)).choose_spec.2
end
end
section
def Xr:List (List (Int×Int)):=[[(0,0),(0,0)],[(0,0),(1,0),(0,1),(1,1)],[(0,0),(1,0),(0,0)],[(0,0),(0,0),(1,0),(1,0),(0,1),(0,1),(1,1),(1,1)],[(1,0),(0,1),(0,2)],[(0,0)]]
theorem S6 (n:Int):Ct 52 [.li n] (fun d:List (Int×Int)=>.imm false 2 (Acu d)) (fun d=>d∈Xr):=by
 refine Ev Tryz.func52 ?_
 refine Bq<|.seq ?_
 refine Bq<|.block ?_
 refine Bq ?_
 refine Br ?_ ?_<;>intro h4
 ·refine Bq ?_
  refine B2 Dy 0 ?_
  exact .ret (Eu Dy ([(0,0),(0,0)]) (by decide))
 refine Bq ?_
 refine Br ?_ ?_<;>intro h9
 ·refine Bq ?_
  refine B2 Dy 0 ?_
  exact .ret (Eu Dy ([(0,0),(1,0),(0,1),(1,1)]) (by decide))
 refine Bq ?_
 refine Br ?_ ?_<;>intro h16
 ·refine Bq ?_
  refine B2 Dy 0 ?_
  exact .ret (Eu Dy ([(0,0),(1,0),(0,0)]) (by decide))
 refine Bq ?_
 refine Br ?_ ?_<;>intro h22
 ·refine Bq ?_
  refine B2 Dy 0 ?_
  exact .ret (Eu Dy ([(0,0),(0,0),(1,0),(1,0),(0,1),(0,1),(1,1),(1,1)]) (by decide))
 refine Bq ?_
 refine Br ?_ ?_<;>intro h33
 ·refine Bq ?_
  refine B2 Dy 0 ?_
  exact .ret (Eu Dy ([(1,0),(0,1),(0,2)]) (by decide))
 refine Bp<|.R ?_
 refine B2 Dy 0 ?_
 exact .ret (Eu Dy ([(0,0)]) (by decide))
variable {l:List (Int×Int)}
theorem Aqy (h:l∈Xr):1<=l.length/\l.length<=8:=by
 revert l;decide
def Auj (l:List (Int×Int)) (x:Bool) (i k:Nat):Bool:=i != k&&((l.getD i (0,0)).1 == (l.getD k (0,0)).1||(l.getD i (0,0)).2 != (l.getD k (0,0)).2||x&&(i+k) % 2 == 1)
def Ws (l:List (Int×Int)) (x:Bool) (i:Nat):Nat->Int
 | 0=>0
 | k+1=>Ws l x i k+if Auj l x i k then 2 ^ k else 0
def Yr (l:List (Int×Int)) (ps:List F5):Prop:=∀(i:Nat) (p:F5),ps[i]? = some p->∃s,l[i]? = some s/\p.ring=s.1/\p.grp=s.2/\(1<=p.mi/\p.mi<=3)/\(1<=p.ye/\p.ye<=2)/\(0<=p.re/\p.re<=2)/\((p.wa=0/\p.cl=0)\/(1<=p.wa/\p.wa<=2/\1<=p.cl/\p.cl<=2))/\p.mi<=p.ma/\p.wa+p.cl<=p.ma/\p.ma<=7
def Atp (j:Gc):Prop:=∃s,s∈Xr/\∃x:Bool,Yr s j.phs/\j.phs.length=s.length/\j.con=((List.range s.length).map fun t=>Ws s x t s.length)/\0<=j.start/\j.start<=2
theorem Aik {S:List (Int×Int)} {i k:Nat} {s t:Int×Int} {x:Int} (hs:S[i]? = some s) (ht:S[k]? = some t) (hi:i<8) (hk:k<8):Auj S (x == 3) i k=true<->(¬(i:Int)=(k:Int)/\((s.1=t.1\/¬s.2=t.2)\/x=3/\(IntKind.i64.wrap ((i:Int)+(k:Int))).tmod 2=1)):=by
 have hm:(IntKind.i64.wrap ((i:Int)+(k:Int))).tmod 2=(((i+k) % 2:Nat):Int):=by
  rw[show IntKind.i64.wrap ((i:Int)+(k:Int))=Int.ofNat (i+k) from Dw _]
  rfl
 rw[hm]
 unfold Auj
 rw[Ad,Ad,hs,ht]
 simp only[Bh,Ah,Bool.or_eq_true,bne_iff_ne,beq_iff_eq,ne_eq]
 constructor
 ·rintro⟨h1,h2⟩
  exact⟨by omega,h2.imp id fun h=>⟨h.1,by omega⟩⟩
 rintro⟨h1,h2⟩
 exact⟨by omega,h2.imp id fun h=>⟨h.1,by omega⟩⟩
theorem Yr.app {ps:List F5} {i:Nat} {s:Int×Int} {p:F5} (h:Yr l ps) (hl:ps.length=i) (hs:l[i]? = some s) (h1:p.ring=s.1) (h2:p.grp=s.2) (h3:1<=p.mi/\p.mi<=3) (h4:1<=p.ye/\p.ye<=2) (h5:0<=p.re/\p.re<=2) (h6:(p.wa=0/\p.cl=0)\/(1<=p.wa/\p.wa<=2/\1<=p.cl/\p.cl<=2)) (h7:p.mi<=p.ma) (h8:p.wa+p.cl<=p.ma) (h9:p.ma<=7):Yr l (ps++[p]):=by
 intro k q hq
 by_cases hk:k<ps.length
 ·rw[Au hk] at hq;exact h k q hq
 rw[Ao (by omega)] at hq
 have hk2:k=i:=by
  have:=(Ab.1 hq).1
  simp at this;omega
 subst hk2
 rw[hl,Nat.sub_self] at hq
 simp at hq
 subst hq
 exact⟨s,hs,h1,h2,h3,h4,h5,h6,h7,h8,h9⟩
theorem A11 {k:Nat} (h:k<8):(2:Int) ^ k<=128:=by
 have:∀k:Fin 8,(2:Int) ^ k.val<=128:=by decide
 exact this ⟨k,h⟩
theorem A1x {k:Nat} (h:k<8):IntKind.i64.wrap (2 ^ min (IntKind.u64.wrap (k:Int)).toNat 64)=2 ^ k:=by
 have:∀k:Fin 8,IntKind.i64.wrap (2 ^ min (IntKind.u64.wrap (k.val:Int)).toNat 64)=2 ^ k.val:=by decide
 exact this ⟨k,h⟩
theorem Afl (l:List (Int×Int)) (x:Bool) (i:Nat):∀k,0<=Ws l x i k/\Ws l x i k<2 ^ k
 | 0=>by simp[Ws]
 | k+1=>by
  have:=Afl l x i k
  rw[Ws,Int.pow_succ]
  split<;>omega
theorem Mh (k:Fc) (h:k.l.length<=300) (h0:0<=k.pos):Cx 27 [.box 84 (k.a false)] [.ptr 0 0] (fun d:Gc×Fc=>[.box 84 (d.2.a false)]) (fun d=>d.1.g) (fun d=>d.2.l=k.l/\0<=d.2.pos/\Atp d.1):=by
 refine T0 Tryz.func27 ?_
 refine Bq ?_
 obtain⟨D1,hD1,hd1⟩:=Dv k 6 (by assumption) (by assumption) (by omega) (by omega)
 have hl1:D1.2.l.length<=300:=by rw[hd1.1];assumption
 have hp1:0<=D1.2.pos:=by omega
 obtain⟨Y1,cY1,qY1⟩:=Eo (S6 D1.1)
 have hSq:=qY1
 have hSv:=cY1
 generalize Y1=S at hSq hSv
 have hSl:=Aqy hSq
 refine B3 (fun K kk=>by simp[go_sem];refine .o [0] (hD1) ?_;simp[go_sem];refine .l (hSv) ?_;simp[go_sem];exact kk) ?_
 obtain⟨D2,hD2,hd2⟩:=Dv D1.2 3 (by assumption) (by assumption) (by omega) (by omega)
 have hl2:D2.2.l.length<=300:=by rw[hd2.1];assumption
 have hp2:0<=D2.2.pos:=by omega
 refine Da Dy [0] hD2<|.seq ?_
 refine Bq<|.block ?_
 refine Cl 2 0 124 8 (by decide) rfl rfl ?_
 simp[go_sem,-Prod.exists]
 refine Bs S.length (fun i1 (y1:(List Int)×Int×(List F5))=>⟨[(0,.ptr 0 0),(2,.ptr 1 0),(4,.ptr 2 0),(20,.imm false 2 (Acu S)),(21,.li S.length),(22,.li i1)],[.box 84 [.mI y1.1,.li y1.2.1],.box 88 [.nil 8,.nil 1,.li 0],.box 88 [.own 3 y1.2.2.length,.nil 1,.li D2.1],.row 124 8 false false (Ra y1.2.2)]⟩) (fun i1 y1=>y1.1=k.l/\0<=y1.2.1/\y1.2.2.length=i1/\Yr S y1.2.2) (D2.2.l,D2.2.pos,[]) (wk Dy [0,1,2,3]) (⟨by rw[hd2.1,hd1.1],hp2,rfl,fun i p h=>by simp at h⟩) fun i1 y1 hi1 hy1=>?_
 refine Bq<|.seq ?_
 refine Br ?_ ?_<;>intro h23
 ·refine Bp<|.seq<|.block ?_
  obtain⟨e1,H1⟩:=gx S i1
  refine Bu H1 ?_
  have hyl:(⟨y1.1,y1.2.1⟩:Fc).l.length<=300:=by show y1.1.length<=300;rw[hy1.1];exact h
  have hyp:0<=(⟨y1.1,y1.2.1⟩:Fc).pos:=hy1.2.1
  have hyn:=hy1.2.2.1
  obtain⟨D3,hD3,hd3⟩:=Eg ⟨y1.1,y1.2.1⟩ 1 3 (by assumption) (by assumption) (by omega) (by omega) (by omega)
  have hl3:D3.2.l.length<=300:=by rw[hd3.1];assumption
  have hp3:0<=D3.2.pos:=by omega
  obtain⟨D4,hD4,hd4⟩:=Eg D3.2 1 2 (by assumption) (by assumption) (by omega) (by omega) (by omega)
  have hl4:D4.2.l.length<=300:=by rw[hd4.1];assumption
  have hp4:0<=D4.2.pos:=by omega
  obtain⟨D5,hD5,hd5⟩:=Dv D4.2 3 (by assumption) (by assumption) (by omega) (by omega)
  have hl5:D5.2.l.length<=300:=by rw[hd5.1];assumption
  have hp5:0<=D5.2.pos:=by omega
  refine Cw (fun K kk=>by simp[go_sem,H1];(repeat refine aK ?_);refine .o [0] (hD3) ?_;simp[go_sem,H1];refine .o [0] (hD4) ?_;simp[go_sem,H1];refine .o [0] (hD5) ?_;simp[go_sem,H1];exact kk)<|.seq ?_
  obtain⟨D6,hD6,hd6⟩:=Dv D5.2 3 (by assumption) (by assumption) (by omega) (by omega)
  have hl6:D6.2.l.length<=300:=by rw[hd6.1];assumption
  have hp6:0<=D6.2.pos:=by omega
  refine Da H1 [0] hD6 ?_
  refine Br ?_ ?_<;>intro h39
  ·obtain⟨D7,hD7,hd7⟩:=Eg D6.2 1 2 (by assumption) (by assumption) (by omega) (by omega) (by omega)
   have hl7:D7.2.l.length<=300:=by rw[hd7.1];assumption
   have hp7:0<=D7.2.pos:=by omega
   obtain⟨D8,hD8,hd8⟩:=Eg D7.2 1 2 (by assumption) (by assumption) (by omega) (by omega) (by omega)
   have hl8:D8.2.l.length<=300:=by rw[hd8.1];assumption
   have hp8:0<=D8.2.pos:=by omega
   have hw1:=Dw (D7.1+D8.1)
   obtain⟨MX,hMX⟩:∃MX,(if D3.1<D7.1+D8.1 then D7.1+D8.1 else D3.1)=MX:=⟨_,rfl⟩
   have hmb:D3.1<=MX/\D7.1+D8.1<=MX/\MX<=4:=by rw[<- hMX];split<;>omega
   refine Ci (fun K kk=>by simp[go_sem,H1,hw1];refine .o [0] (hD7) ?_;simp[go_sem,H1,hw1];refine .o [0] (hD8) ?_;simp[go_sem,H1,hw1];exact kk) ?_
   obtain⟨D9,hD9,hd9⟩:=Dv D8.2 4 (by assumption) (by assumption) (by omega) (by omega)
   have hl9:D9.2.l.length<=300:=by rw[hd9.1];assumption
   have hp9:0<=D9.2.pos:=by omega
   have hw2:=Dw (MX+D9.1)
   refine Cw (fun K kk=>by simp[go_sem,H1,hw1,hMX,hw2];refine .o [0] (hD9) ?_;simp[go_sem,H1,hw1,hMX,hw2];exact kk) ?_
   refine B0 H1 ?_
   refine B0 H1 ?_
   exact⟨by omega,(D9.2.l,D9.2.pos,y1.2.2++[⟨e1.1,e1.2,D3.1,MX+D9.1,D4.1,D5.1,D7.1,D8.1⟩]),⟨by rw[hd9.1,hd8.1,hd7.1,hd6.1,hd5.1,hd4.1,hd3.1];exact hy1.1,hp9,by simp;omega,Yr.app hy1.2.2.2 hyn H1 rfl rfl (by dsimp only;omega) (by dsimp only;omega) (by dsimp only;omega) (by dsimp only;omega) (by dsimp only;omega) (by dsimp only;omega) (by dsimp only;omega)⟩,wk (Fe (Dw ((i1:Int)+1)) H1) [0,1,2,3]⟩
  have hw1:IntKind.i64.wrap 0=0:=by decide
  obtain⟨MX,hMX⟩:∃MX,(if D3.1<0 then 0 else D3.1)=MX:=⟨_,rfl⟩
  have hmb:D3.1<=MX/\0<=MX/\MX<=4:=by rw[<- hMX];split<;>omega
  refine Bp ?_
  obtain⟨D9,hD9,hd9⟩:=Dv D6.2 4 (by assumption) (by assumption) (by omega) (by omega)
  have hl9:D9.2.l.length<=300:=by rw[hd9.1];assumption
  have hp9:0<=D9.2.pos:=by omega
  have hw2:=Dw (MX+D9.1)
  refine Cw (fun K kk=>by simp[go_sem,H1,hw1,hMX,hw2];refine .o [0] (hD9) ?_;simp[go_sem,H1,hw1,hMX,hw2];exact kk) ?_
  refine B0 H1 ?_
  refine B0 H1 ?_
  exact⟨by omega,(D9.2.l,D9.2.pos,y1.2.2++[⟨e1.1,e1.2,D3.1,MX+D9.1,D4.1,D5.1,0,0⟩]),⟨by rw[hd9.1,hd6.1,hd5.1,hd4.1,hd3.1];exact hy1.1,hp9,by simp;omega,Yr.app hy1.2.2.2 hyn H1 rfl rfl (by dsimp only;omega) (by dsimp only;omega) (by dsimp only;omega) (by dsimp only;omega) (by dsimp only;omega) (by dsimp only;omega) (by dsimp only;omega)⟩,wk (Fe (Dw ((i1:Int)+1)) H1) [0,1,2,3]⟩
 refine Bt ?_
 have hyl:(⟨y1.1,y1.2.1⟩:Fc).l.length<=300:=by show y1.1.length<=300;rw[hy1.1];exact h
 have hyp:0<=(⟨y1.1,y1.2.1⟩:Fc).pos:=hy1.2.1
 have hyn:=hy1.2.2.1
 obtain⟨D10,hD10,hd10⟩:=Dv ⟨y1.1,y1.2.1⟩ 4 (by assumption) (by assumption) (by omega) (by omega)
 have hl10:D10.2.l.length<=300:=by rw[hd10.1];assumption
 have hp10:0<=D10.2.pos:=by omega
 have hn8:y1.2.2.length<=8:=by omega
 refine Da Dy [0] hD10<|.seq ?_
 refine Bq<|.block ?_
 refine Cl 2 1 3 1 (by decide) rfl rfl ?_
 simp[go_sem,-Prod.exists]
 refine Bs y1.2.2.length (fun i2 (y2:(List F5)×(List Int))=>⟨[(2,.ptr 1 0),(4,.ptr 2 0),(8,.lb ((D10.1:Int) == 3)),(69,.own 3 y2.1.length),(70,.li y1.2.2.length),(71,.li i2)],[.box 84 [.mI D10.2.l,.li D10.2.pos],.box 88 [.nil 8,.nil 1,.li 0],.box 88 [.own 3 y2.1.length,.own 4 y2.2.length,.li D2.1],.row 124 8 false false (Ra y2.1),.row 3 1 false false (tI y2.2)]⟩) (fun i2 y2=>y2.1=y1.2.2/\y2.2.length=i2/\y2.2=(List.range i2).map fun t=>Ws S (D10.1 == 3) t y1.2.2.length) (y1.2.2,[]) (wk Dy [0,1,2,3,4]) (⟨rfl,rfl,rfl⟩) fun i2 y2 hi2 hy2=>?_
 refine Bq<|.seq ?_
 refine Br ?_ ?_<;>intro h72
 ·refine Bp<|.seq<|.block ?_
  have hl2:=hy2.2.1
  have hy21:y2.1.length=y1.2.2.length:=by rw[hy2.1]
  obtain⟨e2,H2⟩:=gx y2.1 i2
  refine Bu H2 ?_
  refine Bu H2<|.seq ?_
  refine Bu H2<|.block ?_
  refine Bs y2.1.length (fun i3 (y3:Int)=>⟨[(2,.ptr 1 0),(4,.ptr 2 0),(8,.lb ((D10.1:Int) == 3)),(9,.li i2),(10,.ptr 5 0),(11,.li y3),(69,.own 3 y2.1.length),(70,.li y1.2.2.length),(71,.li i2),(77,.own 3 y2.1.length),(78,.li y2.1.length),(79,.li i3)],[.box 84 [.mI D10.2.l,.li D10.2.pos],.box 88 [.nil 8,.nil 1,.li 0],.box 88 [.own 3 y2.1.length,.own 4 y2.2.length,.li D2.1],.row 124 8 false false (Ra y2.1),.row 3 1 false false (tI y2.2),.box 124 (e2.a false)]⟩) (fun i3 y3=>y3=Ws S (D10.1 == 3) i2 i3) (0) (wk H2 [0,1,2,3,4,5]) (rfl) fun i3 y3 hi3 hy3=>?_
  refine Bu H2<|.seq ?_
  refine Br ?_ ?_<;>intro h80
  ·refine Bp<|.seq<|.block ?_
   obtain⟨e3,H3⟩:=gx y2.1 i3
   refine Bu (Fe H2 H3) ?_
   refine Bu (Fe H2 H3) ?_
   refine Br ?_ ?_<;>intro h110
   ·have hw3:=A1x (k:=i3) (by omega)
    have hw4:=Dw (y3+2 ^ i3) (by have:=Afl S (D10.1 == 3) i2 i3;have:=A11 (k:=i3) (by omega);omega) (by have:=Afl S (D10.1 == 3) i2 i3;have:=A11 (k:=i3) (by omega);omega)
    refine B0 (O4 H2 H3 hw3 hw4) ?_
    refine B0 (Fe H2 H3) ?_
    refine⟨by omega,((y3+2 ^ i3)),?_,wk (I1 (Dw ((i3:Int)+1)) H2 H3) [0,1,2,3,4,5]⟩
    obtain⟨s,hs,hs1,hs2,_⟩:=hy1.2.2.2 i2 e2 (by rw[<- hy2.1];exact H2);obtain⟨t,ht,ht1,ht2,_⟩:=hy1.2.2.2 i3 e3 (by rw[<- hy2.1];exact H3);rw[Ws,if_pos ((Aik hs ht (by omega) (by omega)).2 (by rw[<- hs1,<- ht1,<- hs2,<- ht2];exact h110)),hy3]
   refine Bp<|.H1 (Fe H2 H3) ?_
   refine⟨by omega,(y3),?_,wk (I1 (Dw ((i3:Int)+1)) H2 H3) [0,1,2,3,4,5]⟩
   obtain⟨s,hs,hs1,hs2,_⟩:=hy1.2.2.2 i2 e2 (by rw[<- hy2.1];exact H2);obtain⟨t,ht,ht1,ht2,_⟩:=hy1.2.2.2 i3 e3 (by rw[<- hy2.1];exact H3);rw[Ws,if_neg (fun hb=>by obtain⟨ha,hc⟩:=(Aik hs ht (by omega) (by omega)).1 hb;rw[<- hs1,<- ht1,<- hs2,<- ht2] at hc;have hh:=h110 ha;rcases hc with (hc | hc) | hc;exact hh.1.1 hc;exact hc hh.1.2;exact hh.2 hc.1 hc.2),hy3,Int.add_zero]
  refine Bt<|.H1 H2 ?_
  refine B0 H2 ?_
  exact⟨by omega,(y2.1,y2.2++([y3])),⟨hy2.1,by simp;omega,by have h3:i3=y1.2.2.length:=(by omega);rw[hy2.2.2,List.range_succ,List.map_append,hy3,h3];rfl⟩,wk (Fe (Dw ((i2:Int)+1)) H2) [0,1,2,3,4]⟩
 refine Bt<|.R ?_
 refine B2 Dy 3 ?_
 refine B2 Dy 4 ?_
 exact .ret ⟨(⟨y2.1,y2.2,D2.1⟩,D10.2),rW Dy [0],⟨by rw[hd10.1];exact hy1.1,hp10,S,hSq,(D10.1 == 3),by dsimp only;rw[hy2.1];exact hy1.2.2.2,by dsimp only;rw[hy2.1];omega,by dsimp only;rw[hy2.2.2,show i2=S.length from by omega,show y1.2.2.length=S.length from by omega],by dsimp only;omega,by dsimp only;omega⟩⟩
end
def AgQ (ri:Int) (a:Hy):Prop:=a.sec.length=8/\a.lims.length=4/\(∀x∈a.lims,0<=x/\x<=3)/\a.ri=ri/\a.cls=3/\(1<=a.rq/\a.rq<=3)/\(1<=a.se/\a.se<=2)/\(1<=a.ra/\a.ra<=3)/\a.ra<=a.bu/\a.bu<=7/\By a.sec
structure Aef (ri:Int) (c:E6):Prop where
  per:1<=c.per/\c.per<=4
  cap:0<=c.cap/\c.cap<=3
  hold:1<=c.hold/\c.hold<=3
  lock:0<=c.lock/\c.lock<=4
  nj:1<=c.juns.length/\c.juns.length<=2
  na:1<=c.ags.length/\c.ags.length<=3
  jun:∀j∈c.juns,Atp j
  ag:∀a∈c.ags,AgQ ri a
theorem ap1 {α:Type} {p:α->Prop} {l:List α} {x:α} (h:∀y∈l,p y) (hx:p x):∀y∈l++[x],p y:=fun y hy=>by
 rcases A0.1 hy with h1 | h1
 ·exact h y h1
 rw[An.1 h1];exact hx
theorem Jc (k:Fc) (ri:Int) (h:k.l.length<=300) (h0:0<=k.pos):Cx 11 [.box 84 (k.a false)] [.ptr 0 0,.li ri] (fun d:E6×Fc=>[.box 84 (d.2.a false)]) (fun d=>d.1.g) (fun d=>d.2.l=k.l/\(0<=d.2.pos/\(k.l=[]->d.1.ags.length=1/\∀a∈d.1.ags,a.se=1))/\Aef ri d.1):=by
 refine T0 Tryz.func11 ?_
 refine Bq ?_
 obtain⟨D1,hD1,hd1⟩:=Eg k 1 4 (by assumption) (by assumption) (by omega) (by omega) (by omega)
 have hl1:D1.2.l.length<=300:=by rw[hd1.1];assumption
 have hp1:0<=D1.2.pos:=by omega
 obtain⟨D2,hD2,hd2⟩:=Dv D1.2 4 (by assumption) (by assumption) (by omega) (by omega)
 have hl2:D2.2.l.length<=300:=by rw[hd2.1];assumption
 have hp2:0<=D2.2.pos:=by omega
 obtain⟨D3,hD3,hd3⟩:=Eg D2.2 1 3 (by assumption) (by assumption) (by omega) (by omega) (by omega)
 have hl3:D3.2.l.length<=300:=by rw[hd3.1];assumption
 have hp3:0<=D3.2.pos:=by omega
 obtain⟨D4,hD4,hd4⟩:=Dv D3.2 5 (by assumption) (by assumption) (by omega) (by omega)
 have hl4:D4.2.l.length<=300:=by rw[hd4.1];assumption
 have hp4:0<=D4.2.pos:=by omega
 refine B3 (fun K kk=>by simp[go_sem];refine .o [0] (hD1) ?_;simp[go_sem];refine .o [0] (hD2) ?_;simp[go_sem];refine .o [0] (hD3) ?_;simp[go_sem];refine .o [0] (hD4) ?_;simp[go_sem];exact kk)<|.seq ?_
 obtain⟨D5,hD5,hd5⟩:=Dv D4.2 2 (by assumption) (by assumption) (by omega) (by omega)
 have hl5:D5.2.l.length<=300:=by rw[hd5.1];assumption
 have hp5:0<=D5.2.pos:=by omega
 have hw5:=Dw (1+D5.1)
 refine Da hw5 [0] hD5<|.block ?_
 refine Cl 2 0 88 3 (by decide) rfl rfl ?_
 simp[go_sem,-Prod.exists]
 refine Cj (fun (y1:(List Int)×Int×(List Gc)×Int)=>⟨[(0,.ptr 0 0),(1,.li ri),(4,.ptr 1 0),(5,.ptr 2 0),(6,.li y1.2.2.2)],[.box 84 [.mI y1.1,.li y1.2.1],.box 30 [.nil 3,.nil 8,.li 0,.li 0,.li 0,.li 0],.box 30 [.own 3 y1.2.2.1.length,.nil 8,.li D1.1,.li D2.1,.li D3.1,.li D4.1],.row 88 3 false false (Zf y1.2.2.1)]⟩) (fun y1=>y1.1=k.l/\0<=y1.2.1/\0<=y1.2.2.2/\(y1.2.2.1.length:Int)+y1.2.2.2=1+D5.1/\∀j∈y1.2.2.1,Atp j) (fun y1=>y1.2.2.2.toNat) (D5.2.l,D5.2.pos,[],(1+D5.1)) (wk Dy [0,1,2,3]) (⟨by rw[hd5.1,hd4.1,hd3.1,hd2.1,hd1.1],hp5,by dsimp only;omega,by simp,fun j hj=>by cases hj⟩) fun y1 hy1=>?_
 refine B9<|.R ?_
 refine Br ?_ ?_<;>intro h21
 ·refine Bp<|.seq<|.block ?_
  have hyl:(⟨y1.1,y1.2.1⟩:Fc).l.length<=300:=by show y1.1.length<=300;rw[hy1.1];exact h
  have hyp:0<=(⟨y1.1,y1.2.1⟩:Fc).pos:=hy1.2.1
  have hyn:=hy1.2.2
  obtain⟨J,hJ,hj⟩:=Mh ⟨y1.1,y1.2.1⟩ hyl hyp
  refine Dg (fun K kk=>by simp[go_sem];refine .o [0] (hJ) ?_;simp[go_sem];(repeat first | exact kk | refine aK ?_)) ?_
  have hw1:=Dw (y1.2.2.2 - 1:Int)
  refine B0 hw1 ?_
  refine⟨(J.2.l,J.2.pos,y1.2.2.1++([J.1]),(y1.2.2.2 - 1)),?_,?_,wQ [0,1,2,3] ?_ ?_⟩
  ·(dsimp only;omega)
  ·exact⟨by rw[hj.1];exact hy1.1,hj.2.1,by dsimp only;omega,by simp;omega,ap1 hy1.2.2.2.2 hj.2.2⟩
  all_goals simp[go_sem,hw1]
 refine Bt<|.seq ?_
 have hyl:(⟨y1.1,y1.2.1⟩:Fc).l.length<=300:=by show y1.1.length<=300;rw[hy1.1];exact h
 have hyp:0<=(⟨y1.1,y1.2.1⟩:Fc).pos:=hy1.2.1
 obtain⟨D6,hD6,hd6⟩:=Dv ⟨y1.1,y1.2.1⟩ 3 (by assumption) (by assumption) (by omega) (by omega)
 have hl6:D6.2.l.length<=300:=by rw[hd6.1];assumption
 have hp6:0<=D6.2.pos:=by omega
 have hw6:=Dw (1+D6.1)
 refine Da hw6 [0] hD6<|.block ?_
 refine Cl 2 1 60 8 (by decide) rfl rfl ?_
 simp[go_sem,-Prod.exists]
 refine Bs ((1+D6.1).toNat) (fun i2 (y2:(List Int)×Int×(List Gc)×(List Hy))=>⟨[(0,.ptr 0 0),(1,.li ri),(4,.ptr 1 0),(5,.ptr 2 0),(33,.li (1+D6.1)),(34,.li i2)],[.box 84 [.mI y2.1,.li y2.2.1],.box 30 [.nil 3,.nil 8,.li 0,.li 0,.li 0,.li 0],.box 30 [.own 3 y2.2.2.1.length,.own 4 y2.2.2.2.length,.li D1.1,.li D2.1,.li D3.1,.li D4.1],.row 88 3 false false (Zf y2.2.2.1),.row 60 8 false false (tAg y2.2.2.2)]⟩) (fun i2 y2=>y2.1=k.l/\0<=y2.2.1/\y2.2.2.1=y1.2.2.1/\(y2.2.2.2.length=i2/\(k.l=[]->∀a∈y2.2.2.2,a.se=1))/\∀a∈y2.2.2.2,AgQ ri a) (D6.2.l,D6.2.pos,y1.2.2.1,[]) (wk Dy [0,1,2,3,4]) (⟨by rw[hd6.1];exact hy1.1,hp6,rfl,⟨rfl,fun _ a ha=>by cases ha⟩,fun a ha=>by cases ha⟩) fun i2 y2 hi2 hy2=>?_
 refine Bq<|.seq ?_
 refine Br ?_ ?_<;>intro h35
 ·refine Bp<|.seq<|.block<|.R ?_
  have hyl:(⟨y2.1,y2.2.1⟩:Fc).l.length<=300:=by show y2.1.length<=300;rw[hy2.1];exact h
  have hyp:0<=(⟨y2.1,y2.2.1⟩:Fc).pos:=hy2.2.1
  obtain⟨G,hG,hg⟩:=M6 ⟨y2.1,y2.2.1⟩ i2 ri hyl hyp
  refine Dg (fun K kk=>by simp[go_sem];refine .o [0] (hG) ?_;simp[go_sem];(repeat first | exact kk | refine aK ?_)) ?_
  refine Ch ?_
  exact⟨by omega,(G.2.l,G.2.pos,y2.2.2.1,y2.2.2.2++([G.1])),⟨by rw[hg.1];exact hy2.1,hg.2.1.1,hy2.2.2.1,⟨by simp;omega,fun e=>ap1 (hy2.2.2.2.1.2 e) (hg.2.1.2 (hy2.1.trans e))⟩,ap1 hy2.2.2.2.2 hg.2.2⟩,wk (Dw ((i2:Int)+1)) [0,1,2,3,4]⟩
 refine Bt<|.R ?_
 refine B2 Dy 3 ?_
 refine B2 Dy 4 ?_
 exact .ret ⟨(⟨y2.2.2.1,y2.2.2.2,D1.1,D2.1,D3.1,D4.1⟩,⟨y2.1,y2.2.1⟩),rW Dy [0],⟨hy2.1,⟨hy2.2.1,fun e=>⟨by have:=hd6.2.2.2.2 (hy1.1.trans e);dsimp only;omega,hy2.2.2.2.1.2 e⟩⟩,⟨by dsimp only;omega,by dsimp only;omega,by dsimp only;omega,by dsimp only;omega,by dsimp only;rw[hy2.2.2.1];omega,by dsimp only;omega,by dsimp only;rw[hy2.2.2.1];exact hy1.2.2.2.2,hy2.2.2.2.2⟩⟩⟩
theorem Rr (k:Int) (p:List Int) (h:p.length<=10000):∃d:List Int×Int,PP 68 [] [.li k,.mY p] [.row 5 1 false false (tY d.1)] (.tup [.own 0 d.1.length,.li d.2])/\(d.1.length<=210/\(By p->By d.1)):=by
 refine Nr (D:=List Int×Int) (F:=fun d=>.tup [.own 0 d.1.length,.li d.2]) (S:=fun d=>[.row 5 1 false false (tY d.1)]) (Q:=fun d=>d.1.length<=210/\(By p->By d.1)) Tryz.func68 rfl rfl rfl (by simp[Tryz.ntmps68]) ?_
 have h7:(6+(p.length:Int)).toNat - 2=p.length+4:=by omega
 refine Bq<|.seq<|.block ?_
 refine Bq ?_
 refine Br ?_ ?_<;>intro h9
 ·refine Bq ?_
  refine Cf 4 5 1 (by decide) (k':=1) (by simp[go_sem]) ?_
  simp[go_sem,-Prod.exists]
  exact .ret ⟨([],8),rW Dy [0],(by exact⟨Ae _,fun _=>Nx⟩)⟩
 refine Bq ?_
 refine Br ?_ ?_<;>intro h16
 ·refine Bq ?_
  refine Cf 4 5 1 (by decide) (k':=1) (by simp[go_sem]) ?_
  simp[go_sem,-Prod.exists]
  exact .ret ⟨([],7),rW Dy [0],(by exact⟨Ae _,fun _=>Nx⟩)⟩
 refine Bp<|.R ?_
 refine Bu Dy ?_
 obtain⟨B,hBe⟩:∃B,B=(([90,165,1,IntKind.u8.wrap k,IntKind.u8.wrap (Int.fdiv p.length (2 ^ min (Int.toNat 8) 64)),IntKind.u8.wrap p.length])++p):=⟨_,rfl⟩
 have hB:B.length=6+p.length:=by rw[hBe];simp;omega
 have hBy:By p->By B:=fun h=>by rw[hBe];exact By.app (fun x hx=>by simp at hx;rcases hx with rfl | rfl | rfl | rfl | rfl | rfl<;>first | exact Rv _ | omega) h
 refine VX.rowIs 0 (tY B) rfl (by simp[go_sem,hBe]) ?_
 simp[go_sem,-Prod.exists]
 obtain⟨Y1,cY1,qY1⟩:=Eo (S5 (B.drop 2) (by simp;omega))
 refine B3 (fun K kk=>by simp[go_sem,hB];(repeat refine aK ?_);refine .lo cY1 (by simp[go_sem,hB,h7];rw[Bf (by simp;omega)]) (by simp[AV.cln,Ff]) ?_;simp[go_sem,hB];exact kk) ?_
 refine Bu hB ?_
 exact .ret ⟨(B++([IntKind.u8.wrap (Int.fdiv Y1 (2 ^ min (Int.toNat 24) 32)),IntKind.u8.wrap (Int.fdiv Y1 (2 ^ min (Int.toNat 16) 32)),IntKind.u8.wrap (Int.fdiv Y1 (2 ^ min (Int.toNat 8) 32)),IntKind.u8.wrap Y1]),0),rW hB [0],(by first | exact⟨Ae _,fun _=>Nx⟩ | exact⟨by simp;omega,fun h=>(hBy h).app (fun x hx=>by simp at hx;rcases hx with rfl | rfl | rfl | rfl<;>exact Rv _)⟩)⟩
section
variable (m:Dz) (h1:m.tok.length<=10000) (h2:m.args.length<=10000) (h3:m.data.length<=10000)
include h1 h2 h3
theorem Rq:∃d:List Int×Int,PP 46 [] [m.g] [.row 5 1 false false (tY d.1)] (.tup [.own 0 d.1.length,.li d.2])/\(d.1.length<=210/\(By m.tok->By m.data->By d.1)):=by
 refine Nr (D:=List Int×Int) (F:=fun d=>.tup [.own 0 d.1.length,.li d.2]) (S:=fun d=>[.row 5 1 false false (tY d.1)]) (Q:=fun d=>d.1.length<=210/\(By m.tok->By m.data->By d.1)) Tryz.func46 rfl rfl rfl (by simp[Tryz.ntmps46]) ?_
 obtain⟨Y1,cY1,qY1⟩:=Eo (Qv m h1 h2 h3)
 have hq:=qY1
 have hq2:Y1.1.length<=10000:=by omega
 obtain⟨Y2,cY2,qY2⟩:=Rr m.kind Y1.1 hq2
 have hXv:=cY2
 have hXq:=qY2
 generalize Y2=X at hXv hXq
 refine Bq ?_
 refine B8 Dy cY1<|.seq ?_
 refine Bq ?_
 refine Br ?_ ?_<;>intro h12
 ·refine Bq ?_
  refine Cf 2 5 1 (by decide) (k':=1) (by simp[go_sem]) ?_
  simp[go_sem,-Prod.exists]
  exact .ret ⟨([],Y1.2),rW Dy [1],(by exact⟨Ae _,fun _ _=>Nx⟩)⟩
 refine Bp<|.L Dy (hXv) ?_
 exact .ret ⟨(X.1,X.2),rW Dy [1],(by first | exact⟨Ae _,fun _ _=>Nx⟩ | exact⟨hXq.1,fun a b=>hXq.2 (hq.2 a b)⟩)⟩
theorem Si:∃d:List Int,PP 18 [] [m.g] [.row 5 1 false false (tY d)] (.own 0 d.length)/\(d.length<=210/\(By m.tok->By m.data->By d)):=by
 refine Nr (D:=List Int) (F:=fun d=>.own 0 d.length) (S:=fun d=>[.row 5 1 false false (tY d)]) (Q:=fun d=>d.length<=210/\(By m.tok->By m.data->By d)) Tryz.func18 rfl rfl rfl (by simp[Tryz.ntmps18]) ?_
 obtain⟨Y1,cY1,qY1⟩:=Rq m h1 h2 h3
 have hXv:=cY1
 have hXq:=qY1
 generalize Y1=X at hXv hXq
 refine Bq ?_
 refine B8 Dy (hXv) ?_
 refine Bq ?_
 exact .ret ⟨X.1,rW Dy [1],hXq⟩
end
theorem Pb (k:Fc) (n:Int) (h:k.l.length<=300) (h0:0<=k.pos) (h1:0<=n) (h2:n<=1000):Cx 59 [.box 84 (k.a false)] [.ptr 0 0,.li n] (fun d:List Int×Fc=>[.box 84 (d.2.a false),.row 5 1 false false (tY d.1)]) (fun d=>.own 1 d.1.length) (fun d=>d.2.l=k.l/\0<=d.2.pos/\d.1.length<=n.toNat/\By d.1):=by
 refine T0 Tryz.func59 ?_
 refine Bq ?_
 refine Bq<|.seq ?_
 obtain⟨N1,hN1,hq1⟩:=Dv k (n+1) h h0 (by omega) (by omega)
 have hw1:=Dw (n+1:Int)
 refine Da hw1 [0] hN1<|.block ?_
 refine Cf 5 5 1 (by decide) (k':=1) (by simp[go_sem]) ?_
 simp[go_sem,-Prod.exists]
 refine Cj (fun (y1:(List Int)×Int×(List Int)×Int)=>⟨[(0,.ptr 0 0),(5,.own 1 y1.2.2.1.length),(6,.li y1.2.2.2)],[.box 84 [.mI y1.1,.li y1.2.1],.row 5 1 false false (tY y1.2.2.1)]⟩) (fun y1=>y1.1=k.l/\k.pos<=y1.2.1/\y1.2.2.1.length+y1.2.2.2<=n/\0<=y1.2.2.2/\By y1.2.2.1) (fun y1=>y1.2.2.2.toNat) (N1.2.l,N1.2.pos,[],N1.1) (wk hw1 [0,1]) (⟨hq1.1,hq1.2.1,by simp;omega,hq1.2.2.1,Nx⟩) fun y1 hy1=>?_
 refine B9<|.H hw1 ?_
 refine Br ?_ ?_<;>intro h12
 ·refine Bp<|.seq<|.block ?_
  obtain⟨N2,hN2,hq2⟩:=Dv ⟨y1.1,y1.2.1⟩ 256 (by show y1.1.length<=300;rw[hy1.1];exact h) (by show 0<=y1.2.1;omega) (by omega) (by omega)
  dsimp only at hq2
  refine C6 hw1 [0] hN2 ?_
  have hw2:=Dw (y1.2.2.2 - 1:Int)
  refine B0 (Fe hw1 hw2) ?_
  refine⟨(N2.2.l,N2.2.pos,y1.2.2.1++([IntKind.u8.wrap N2.1]),(y1.2.2.2 - 1)),?_,?_,wQ [0,1] ?_ ?_⟩
  ·dsimp only;omega
  ·exact⟨hq2.1.trans hy1.1,by dsimp only;omega,by simp;omega,by dsimp only;omega,hy1.2.2.2.2.app (Xm _)⟩
  all_goals simp[go_sem,hw1,hw2]
 refine Bt<|.H hw1 ?_
 exact .ret ⟨(y1.2.2.1,⟨y1.1,y1.2.1⟩),rW hw1 [0,1],⟨hy1.1,by have:=hy1.2.1;dsimp only;omega,by dsimp only;omega,hy1.2.2.2.2⟩⟩
theorem Od (k:Fc) (c:E6) (l:List Int) (h:k.l.length<=300) (h0:0<=k.pos) (hj:1<=c.juns.length/\c.juns.length<=2) (hp:∀j∈c.juns,j.phs.length<=8/\1<=j.phs.length) (hl:l.length<=1000):Cx 45 [.box 84 [.mI k.l,.li k.pos],.row 3 1 true false (tI l)] [.ptr 0 0,c.g,.own 1 l.length] (fun d:List Int×Fc=>[.box 84 (d.2.a false),.row 3 1 false false (tI d.1)]) (fun d=>.own 1 d.1.length) (fun d=>d.2.l=k.l/\0<=d.2.pos/\d.1.length<=l.length+8):=by
 refine T0 Tryz.func45 ?_
 refine Cv 1 rfl ?_
 simp[go_sem,-Prod.exists]
 refine Bq ?_
 obtain⟨D1,hD1,hd1⟩:=Dv k 2 (by assumption) (by assumption) (by omega) (by omega)
 have hl1:D1.2.l.length<=300:=by rw[hd1.1];assumption
 have hp1:0<=D1.2.pos:=by omega
 have hw1:=Dw (1+D1.1)
 refine Da hw1 [0] hD1<|.seq ?_
 refine Bq<|.block ?_
 refine Bs ((1+D1.1).toNat) (fun i1 (y1:(List Int)×Int×(List Int))=>⟨[(0,.ptr 0 0),(2,.own 1 y1.2.2.length),(4,.ptr 2 0),(15,.li (1+D1.1)),(16,.li i1)],[.box 84 [.mI y1.1,.li y1.2.1],.row 3 1 false false (tI y1.2.2),.box 30 (c.a false)]⟩) (fun i1 y1=>y1.1=k.l/\0<=y1.2.1/\y1.2.2.length=l.length+4*i1) (D1.2.l,D1.2.pos,l) (wk Dy [0,1,2]) (⟨hd1.1,hp1,by simp⟩) fun i1 y1 hi1 hy1=>?_
 refine Bq<|.seq ?_
 refine Br ?_ ?_<;>intro h17
 ·refine Bp<|.seq<|.block<|.R ?_
  have hyl:(⟨y1.1,y1.2.1⟩:Fc).l.length<=300:=by show y1.1.length<=300;rw[hy1.1];exact h
  have hyp:0<=(⟨y1.1,y1.2.1⟩:Fc).pos:=hy1.2.1
  obtain⟨D2,hD2,hd2⟩:=Dv ⟨y1.1,y1.2.1⟩ 3 (by assumption) (by assumption) (by omega) (by omega)
  have hl2:D2.2.l.length<=300:=by rw[hd2.1];assumption
  have hp2:0<=D2.2.pos:=by omega
  obtain⟨D3,hD3,hd3⟩:=Dv D2.2 12 (by assumption) (by assumption) (by omega) (by omega)
  have hl3:D3.2.l.length<=300:=by rw[hd3.1];assumption
  have hp3:0<=D3.2.pos:=by omega
  have hE:0<=Int.tdiv D3.1 11/\Int.tdiv D3.1 11<=1:=by rw[Int.tdiv_eq_ediv_of_nonneg (by omega)];omega
  have hq1:=Dw (D2.1+i1)
  have hq2:=Dw (Int.tdiv D3.1 11)
  have hq3:=Dw ((c.juns.length:Int)+Int.tdiv D3.1 11)
  obtain⟨JJ,hJJ⟩:∃JJ,Int.tmod (D2.1+i1) (if 1<(c.juns.length:Int)+Int.tdiv D3.1 11 then (c.juns.length:Int)+Int.tdiv D3.1 11 else 1)=JJ:=⟨_,rfl⟩
  have hJ0:0<=JJ:=by rw[<- hJJ];exact Int.tmod_nonneg _ (by omega)
  refine Dc (by kernel_rfl) (by rfl) (by kernel_rfl) fun K1 hK1=>?_
  simp[go_sem,hq1,hq2,hq3,hJJ]
  refine .o [0] (hD2) ?_
  simp[go_sem,hq1,hq2,hq3,hJJ]
  refine .o [0] (hD3) ?_
  simp[go_sem,hq1,hq2,hq3,hJJ]
  repeat' with_reducible refine Ax ?_ ?_
  all_goals try (intros;(repeat' refine Ax ?_ ?_)<;>omega)
  all_goals try (split<;>omega)
  refine hK1 _ _ (by kernel_rfl) ?_;clear hK1
  refine Bq<|.seq ?_
  refine Bq ?_
  refine Br ?_ ?_<;>intro h36
  ·obtain⟨e1,H1⟩:=gx c.juns JJ.toNat
   refine B0 H1 ?_
   obtain⟨D4,hD4,hd4⟩:=Dv D3.2 3 (by assumption) (by assumption) (by omega) (by omega)
   have hl4:D4.2.l.length<=300:=by rw[hd4.1];assumption
   have hp4:0<=D4.2.pos:=by omega
   refine Da H1 [0] hD4 ?_
   obtain⟨D5,hD5,hd5⟩:=Dv D4.2 12 (by assumption) (by assumption) (by omega) (by omega)
   have hl5:D5.2.l.length<=300:=by rw[hd5.1];assumption
   have hp5:0<=D5.2.pos:=by omega
   have hF:0<=Int.tdiv D5.1 11/\Int.tdiv D5.1 11<=1:=by rw[Int.tdiv_eq_ediv_of_nonneg (by omega)];omega
   have hq4:=Dw (Int.tdiv D5.1 11)
   have hpb:1<=(e1.phs.length:Int)/\(e1.phs.length:Int)<=8:=by (have:=hp e1 (Ac H1);omega)
   obtain⟨PN,hPN⟩:∃PN,((e1.phs.length:Int)+Int.tdiv D5.1 11)=PN:=⟨_,rfl⟩
   have hq5:=Dw PN
   obtain⟨D6,hD6,hd6⟩:=Dv D5.2 PN (by assumption) (by assumption) (by omega) (by omega)
   have hl6:D6.2.l.length<=300:=by rw[hd6.1];assumption
   have hp6:0<=D6.2.pos:=by omega
   obtain⟨D7,hD7,hd7⟩:=Dv D6.2 50 (by assumption) (by assumption) (by omega) (by omega)
   have hl7:D7.2.l.length<=300:=by rw[hd7.1];assumption
   have hp7:0<=D7.2.pos:=by omega
   have hq6:=Dw (D4.1+D7.1)
   refine Ci (fun K kk=>by simp[go_sem,H1,hq4,hq5,hPN,hq6];refine .o [0] (hD5) ?_;simp[go_sem,H1,hq4,hq5,hPN,hq6];(repeat refine aK ?_);refine .o [0] (hD6) ?_;simp[go_sem,H1,hq4,hq5,hPN,hq6];refine .o [0] (hD7) ?_;simp[go_sem,H1,hq4,hq5,hPN,hq6];(repeat first | exact kk | refine aK ?_)) ?_
   refine B0 H1 ?_
   exact⟨by omega,(D7.2.l,D7.2.pos,y1.2.2++([JJ,D6.1,D4.1,(D4.1+D7.1)])),⟨by rw[hd7.1,hd6.1,hd5.1,hd4.1,hd3.1,hd2.1];exact hy1.1,hp7,by simp;omega⟩,wk (Fe (Dw ((i1:Int)+1)) H1) [0,1,2]⟩
  refine Bp ?_
  obtain⟨D4,hD4,hd4⟩:=Dv D3.2 3 (by assumption) (by assumption) (by omega) (by omega)
  have hl4:D4.2.l.length<=300:=by rw[hd4.1];assumption
  have hp4:0<=D4.2.pos:=by omega
  refine Da Dy [0] hD4 ?_
  obtain⟨D5,hD5,hd5⟩:=Dv D4.2 12 (by assumption) (by assumption) (by omega) (by omega)
  have hl5:D5.2.l.length<=300:=by rw[hd5.1];assumption
  have hp5:0<=D5.2.pos:=by omega
  have hF:0<=Int.tdiv D5.1 11/\Int.tdiv D5.1 11<=1:=by rw[Int.tdiv_eq_ediv_of_nonneg (by omega)];omega
  have hq4:=Dw (Int.tdiv D5.1 11)
  have hpb:1<=(2:Int)/\(2:Int)<=8:=by first | (have:=hp e1 (Ac H1);omega) | omega
  obtain⟨PN,hPN⟩:∃PN,((2:Int)+Int.tdiv D5.1 11)=PN:=⟨_,rfl⟩
  have hq5:=Dw PN
  obtain⟨D6,hD6,hd6⟩:=Dv D5.2 PN (by assumption) (by assumption) (by omega) (by omega)
  have hl6:D6.2.l.length<=300:=by rw[hd6.1];assumption
  have hp6:0<=D6.2.pos:=by omega
  obtain⟨D7,hD7,hd7⟩:=Dv D6.2 50 (by assumption) (by assumption) (by omega) (by omega)
  have hl7:D7.2.l.length<=300:=by rw[hd7.1];assumption
  have hp7:0<=D7.2.pos:=by omega
  have hq6:=Dw (D4.1+D7.1)
  refine Ci (fun K kk=>by simp[go_sem,hq4,hq5,hPN,hq6];refine .o [0] (hD5) ?_;simp[go_sem,hq4,hq5,hPN,hq6];(repeat refine aK ?_);refine .o [0] (hD6) ?_;simp[go_sem,hq4,hq5,hPN,hq6];refine .o [0] (hD7) ?_;simp[go_sem,hq4,hq5,hPN,hq6];(repeat first | exact kk | refine aK ?_)) ?_
  refine Ch ?_
  exact⟨by omega,(D7.2.l,D7.2.pos,y1.2.2++([JJ,D6.1,D4.1,(D4.1+D7.1)])),⟨by rw[hd7.1,hd6.1,hd5.1,hd4.1,hd3.1,hd2.1];exact hy1.1,hp7,by simp;omega⟩,wk (Dw ((i1:Int)+1)) [0,1,2]⟩
 refine Bt<|.R ?_
 exact .ret ⟨(y1.2.2,⟨y1.1,y1.2.1⟩),rW Dy [0,1],⟨hy1.1,hy1.2.1,by dsimp only;omega⟩⟩
def MkQ (m:Dz):Prop:=m.tok.length=10/\By m.tok/\m.args.length<=20/\m.data=[]
theorem Amk {a s:Int} {n:Int} {h:(Ec n).length<=1000}:(Em a s (Ec n) h).length=10/\By (Em a s (Ec n) h):=by
 have h1:=Ll a s (Ec n) h
 have h2:=Jb n
 exact⟨by rw[h1.1,h2.1],h1.2 h2.2⟩
theorem Akc {l:List Int} {i:Nat} {e:Int} (h:l[i]? = some e):(l.map fun x=>[T.lit (Value.int IntKind.i64 x)])[i]? = some [T.lit (Value.int IntKind.i64 e)]:=by rw[Ap,h];rfl
theorem Amu (n:Int):(Ec n).length<=1000:=by rw[(Jb n).1];decide
theorem I8 (k:Fc) (c:E6) (ag:Int) (cal:Bool) (h:k.l.length<=300) (h0:0<=k.pos) (hj:1<=c.juns.length/\c.juns.length<=2) (hp:∀j∈c.juns,j.phs.length<=8/\1<=j.phs.length):Cx 17 [.box 84 (k.a false)] [.ptr 0 0,c.g,.li ag,.lb cal] (fun d:Dz×Fc=>[.box 84 (d.2.a false)]) (fun d=>d.1.g) (fun d=>d.2.l=k.l/\0<=d.2.pos/\MkQ d.1):=by
 refine T0 Tryz.func17 ?_
 refine Bq ?_
 obtain⟨D1,hD1,hd1⟩:=Dv k 12 (by assumption) (by assumption) (by omega) (by omega)
 have hl1:D1.2.l.length<=300:=by rw[hd1.1];assumption
 have hp1:0<=D1.2.pos:=by omega
 have hw1:=Dw (1+D1.1)
 refine B3 (fun K kk=>by simp[go_sem,hw1];refine .o [0] (hD1) ?_;simp[go_sem,hw1];refine .l (Ge (IntKind.i64.wrap (1000+ag))) ?_;simp[go_sem,hw1];refine .lo (G0 ag 0 (Ec (IntKind.i64.wrap (1000+ag))) (Amu _)) rfl (by simp[AV.cln,Ff]) ?_;simp[go_sem,hw1];exact kk) ?_
 refine Do (fun s=>∃(DL1:List Int) (DP1:Int) (TK:List Int),(DL1=k.l/\0<=DP1/\TK.length=10/\By TK)/\s=⟨[(0,.ptr 0 0),(3,.lb cal),(5,.ptr 1 0),(8,.ptr 2 0),(9,.ptr 3 0)],[.box 84 [.mI DL1,.li DP1],.box 30 (c.a false),.box 56 [.li 0,.nil 1,.nil 1,.nil 1],.box 56 [.li (1+D1.1),.mY TK,.nil 1,.nil 1]]⟩) ?_ ?_
 ·obtain⟨D2,hD2,hd2⟩:=Dv D1.2 9 (by assumption) (by assumption) (by omega) (by omega)
  have hl2:D2.2.l.length<=300:=by rw[hd2.1];assumption
  have hp2:0<=D2.2.pos:=by omega
  refine Da Dy [0] hD2<|.block ?_
  refine Bq ?_
  refine Br ?_ ?_<;>intro h24
  ·obtain⟨D3,hD3,hd3⟩:=Dv D2.2 4 (by assumption) (by assumption) (by omega) (by omega)
   have hl3:D3.2.l.length<=300:=by rw[hd3.1];assumption
   have hp3:0<=D3.2.pos:=by omega
   obtain⟨D4,hD4,hd4⟩:=Dv D3.2 3 (by assumption) (by assumption) (by omega) (by omega)
   have hl4:D4.2.l.length<=300:=by rw[hd4.1];assumption
   have hp4:0<=D4.2.pos:=by omega
   refine Ci (fun K kk=>by simp[go_sem];refine .o [0] (hD3) ?_;simp[go_sem];refine .o [0] (hD4) ?_;simp[go_sem];refine .l (Ge (IntKind.i64.wrap (IntKind.i64.wrap (2000+(IntKind.i64.wrap (10*ag)))+D4.1))) ?_;simp[go_sem];refine .lo (G0 ag D3.1 (Ec (IntKind.i64.wrap (IntKind.i64.wrap (2000+(IntKind.i64.wrap (10*ag)))+D4.1))) (Amu _)) rfl (by simp[AV.cln,Ff]) ?_;simp[go_sem];exact kk) ?_
   refine⟨[0,1,2,3],_,En (by decide) ?_ ?_,by simp,D4.2.l,D4.2.pos,(Em ag D3.1 (Ec (IntKind.i64.wrap (IntKind.i64.wrap (2000+(IntKind.i64.wrap (10*ag)))+D4.1))) (Amu _)),⟨hd4.1.trans (hd3.1.trans (hd2.1.trans hd1.1)),hp4,Amk.1,Amk.2⟩,rfl⟩
   all_goals simp[go_sem]
  refine Bq ?_
  refine Br ?_ ?_<;>intro h38
  ·obtain⟨D5,hD5,hd5⟩:=Dv D2.2 3 (by assumption) (by assumption) (by omega) (by omega)
   have hl5:D5.2.l.length<=300:=by rw[hd5.1];assumption
   have hp5:0<=D5.2.pos:=by omega
   obtain⟨D6,hD6,hd6⟩:=Dv D5.2 3 (by assumption) (by assumption) (by omega) (by omega)
   have hl6:D6.2.l.length<=300:=by rw[hd6.1];assumption
   have hp6:0<=D6.2.pos:=by omega
   refine Ci (fun K kk=>by simp[go_sem];refine .o [0] (hD5) ?_;simp[go_sem];refine .o [0] (hD6) ?_;simp[go_sem];refine .l (Ge (IntKind.i64.wrap (1000+D6.1))) ?_;simp[go_sem];refine .lo (G0 D5.1 0 (Ec (IntKind.i64.wrap (1000+D6.1))) (Amu _)) rfl (by simp[AV.cln,Ff]) ?_;simp[go_sem];exact kk) ?_
   refine⟨[0,1,2,3],_,En (by decide) ?_ ?_,by simp,D6.2.l,D6.2.pos,(Em D5.1 0 (Ec (IntKind.i64.wrap (1000+D6.1))) (Amu _)),⟨hd6.1.trans (hd5.1.trans (hd2.1.trans hd1.1)),hp6,Amk.1,Amk.2⟩,rfl⟩
   all_goals simp[go_sem]
  refine Bp ?_
  refine⟨[0,1,2,3],_,En (by decide) ?_ ?_,by simp,D2.2.l,D2.2.pos,(Em ag 0 (Ec (IntKind.i64.wrap (1000+ag))) (Amu _)),⟨hd2.1.trans hd1.1,hp2,Amk.1,Amk.2⟩,rfl⟩
  all_goals simp[go_sem]
 rintro _ ⟨DL1,DP1,TK,hc1,rfl⟩
 refine Do (fun s=>∃(DL2:List Int) (DP2:Int) (KD:Int),(DL2=k.l/\0<=DP2)/\s=⟨[(0,.ptr 0 0),(3,.lb cal),(5,.ptr 1 0),(8,.ptr 2 0),(9,.ptr 3 0)],[.box 84 [.mI DL2,.li DP2],.box 30 (c.a false),.box 56 [.li 0,.nil 1,.nil 1,.nil 1],.box 56 [.li KD,.mY TK,.nil 1,.nil 1]]⟩) ?_ ?_
 ·have hyl:(⟨DL1,DP1⟩:Fc).l.length<=300:=by show DL1.length<=300;rw[hc1.1];exact h
  have hyp:0<=(⟨DL1,DP1⟩:Fc).pos:=hc1.2.1
  obtain⟨D7,hD7,hd7⟩:=Dv ⟨DL1,DP1⟩ 2 (by assumption) (by assumption) (by omega) (by omega)
  have hl7:D7.2.l.length<=300:=by rw[hd7.1];assumption
  have hp7:0<=D7.2.pos:=by omega
  refine Da Dy [0] hD7 ?_
  refine Br ?_ ?_<;>intro h50
  ·obtain⟨D8,hD8,hd8⟩:=Dv D7.2 4 (by assumption) (by assumption) (by omega) (by omega)
   have hl8:D8.2.l.length<=300:=by rw[hd8.1];assumption
   have hp8:0<=D8.2.pos:=by omega
   obtain⟨e1,H1⟩:=gx ([6,4,6,7]:List Int) D8.1.toNat
   have hxte1:[[T.lit (Value.int IntKind.i64 6)],[T.lit (Value.int IntKind.i64 4)],[T.lit (Value.int IntKind.i64 6)],[T.lit (Value.int IntKind.i64 7)]][D8.1.toNat]? = some [T.lit (Value.int IntKind.i64 e1)]:=Akc (l:=[6,4,6,7]) H1
   refine C6 (Fe H1 hxte1) [0] hD8 ?_
   refine⟨[0,1,2,3],_,En (by decide) ?_ ?_,by simp,D8.2.l,D8.2.pos,e1,⟨hd8.1.trans (hd7.1.trans hc1.1),hp8⟩,rfl⟩
   all_goals simp[go_sem,H1,hxte1]
  refine Bp ?_
  refine⟨[0,1,2,3],_,En (by decide) ?_ ?_,by simp,D7.2.l,D7.2.pos,(1+D1.1),⟨hd7.1.trans hc1.1,hp7⟩,rfl⟩
  all_goals simp[go_sem]
 rintro _ ⟨DL2,DP2,KD,hc2,rfl⟩
 have hyl:(⟨DL2,DP2⟩:Fc).l.length<=300:=by show DL2.length<=300;rw[hc2.1];exact h
 have hyp:0<=(⟨DL2,DP2⟩:Fc).pos:=hc2.2
 obtain⟨D9,hD9,hd9⟩:=Dv ⟨DL2,DP2⟩ 4 (by assumption) (by assumption) (by omega) (by omega)
 have hl9:D9.2.l.length<=300:=by rw[hd9.1];assumption
 have hp9:0<=D9.2.pos:=by omega
 refine Da Dy [0] hD9 ?_
 refine Do (fun s=>∃(CL:Int) (DL3:List Int) (DP3:Int),(DL3=k.l/\0<=DP3)/\s=⟨[(0,.ptr 0 0),(5,.ptr 1 0),(8,.ptr 2 0),(9,.ptr 3 0),(10,.li CL)],[.box 84 [.mI DL3,.li DP3],.box 30 (c.a false),.box 56 [.li 0,.nil 1,.nil 1,.nil 1],.box 56 [.li KD,.mY TK,.nil 1,.nil 1]]⟩) ?_ ?_
 ·refine Bq ?_
  refine Br ?_ ?_<;>intro h59
  ·obtain⟨D10,hD10,hd10⟩:=Dv D9.2 2 (by assumption) (by assumption) (by omega) (by omega)
   have hl10:D10.2.l.length<=300:=by rw[hd10.1];assumption
   have hp10:0<=D10.2.pos:=by omega
   refine C6 Dy [0] hD10 ?_
   refine⟨[0,1,2,3],_,En (by decide) ?_ ?_,by simp,D10.1,D10.2.l,D10.2.pos,⟨hd10.1.trans (hd9.1.trans hc2.1),hp10⟩,rfl⟩
   all_goals simp[go_sem]
  refine Bp ?_
  refine⟨[0,1,2,3],_,En (by decide) ?_ ?_,by simp,D9.1,D9.2.l,D9.2.pos,⟨hd9.1.trans hc2.1,hp9⟩,rfl⟩
  all_goals simp[go_sem]
 rintro _ ⟨CL,DL3,DP3,hc3,rfl⟩
 refine B9<|.R<|.block ?_
 refine Bq ?_
 refine Br ?_ ?_<;>intro h64
 ·have hyl:(⟨DL3,DP3⟩:Fc).l.length<=300:=by show DL3.length<=300;rw[hc3.1];exact h
  have hyp:0<=(⟨DL3,DP3⟩:Fc).pos:=hc3.2
  obtain⟨D11,hD11,hd11⟩:=Dv ⟨DL3,DP3⟩ 5 (by assumption) (by assumption) (by omega) (by omega)
  have hl11:D11.2.l.length<=300:=by rw[hd11.1];assumption
  have hp11:0<=D11.2.pos:=by omega
  obtain⟨D12,hD12,hd12⟩:=Dv D11.2 5 (by assumption) (by assumption) (by omega) (by omega)
  have hl12:D12.2.l.length<=300:=by rw[hd12.1];assumption
  have hp12:0<=D12.2.pos:=by omega
  obtain⟨D13,hD13,hd13⟩:=Dv D12.2 4 (by assumption) (by assumption) (by omega) (by omega)
  have hl13:D13.2.l.length<=300:=by rw[hd13.1];assumption
  have hp13:0<=D13.2.pos:=by omega
  obtain⟨e2,H2⟩:=gx ([63,1,3,47,64]:List Int) D11.1.toNat
  have hxte2:[[T.lit (Value.int IntKind.i64 63)],[T.lit (Value.int IntKind.i64 1)],[T.lit (Value.int IntKind.i64 3)],[T.lit (Value.int IntKind.i64 47)],[T.lit (Value.int IntKind.i64 64)]][D11.1.toNat]? = some [T.lit (Value.int IntKind.i64 e2)]:=Akc (l:=[63,1,3,47,64]) H2
  obtain⟨e3,H3⟩:=gx ([0,5,30,700]:List Int) D13.1.toNat
  have hxte3:[[T.lit (Value.int IntKind.i64 0)],[T.lit (Value.int IntKind.i64 5)],[T.lit (Value.int IntKind.i64 30)],[T.lit (Value.int IntKind.i64 700)]][D13.1.toNat]? = some [T.lit (Value.int IntKind.i64 e3)]:=Akc (l:=[0,5,30,700]) H3
  refine Dg (fun K kk=>by simp[go_sem,H2,hxte2,H3,hxte3];refine .o [0] (hD11) ?_;simp[go_sem,H2,hxte2,H3,hxte3];(repeat refine aK ?_);refine .o [0] (hD12) ?_;simp[go_sem,H2,hxte2,H3,hxte3];refine .o [0] (hD13) ?_;simp[go_sem,H2,hxte2,H3,hxte3];(repeat first | exact kk | refine aK ?_)) ?_
  refine Bu (O4 H2 hxte2 H3 hxte3) ?_
  refine B2 Dy 6 ?_
  exact .ret ⟨(⟨KD,TK,[e2,D12.1,e3],[]⟩,D13.2),rW (O4 H2 hxte2 H3 hxte3) [0],⟨by first | exact hc3.1 | exact hd14.1.trans hc3.1 | exact hd15.1.trans hc3.1 | exact hy1.1 | exact hlg.1.trans (hd18.1.trans (hd17.1.trans (hd16.1.trans hc3.1))) | exact hd13.1.trans (hd12.1.trans (hd11.1.trans hc3.1)),by first | exact hc3.2 | exact hp14 | exact hp15 | exact hp13,hc1.2.2.1,hc1.2.2.2,by (simp;done),rfl⟩⟩
 refine Ce (by rfl) fun K1 hK1=>?_
 simp[go_sem]
 refine hK1 _ ⟨_,_,_,_,_,_,_,_,rfl,.more (by decide) rfl rfl (.more (by decide) rfl rfl (.more (by decide) rfl rfl (.one (by decide) rfl rfl))),by decide,rfl,by simp[go_sem];rfl,by simp[go_sem];rfl,by simp[go_sem],?_⟩;clear hK1
 refine Br ?_ ?_<;>intro h80
 ·have hyl:(⟨DL3,DP3⟩:Fc).l.length<=300:=by show DL3.length<=300;rw[hc3.1];exact h
  have hyp:0<=(⟨DL3,DP3⟩:Fc).pos:=hc3.2
  obtain⟨D14,hD14,hd14⟩:=Dv ⟨DL3,DP3⟩ 4 (by assumption) (by assumption) (by omega) (by omega)
  have hl14:D14.2.l.length<=300:=by rw[hd14.1];assumption
  have hp14:0<=D14.2.pos:=by omega
  refine C6 Dy [0] hD14 ?_
  refine Bq ?_
  refine B2 Dy 4 ?_
  exact .ret ⟨(⟨KD,TK,[D14.1],[]⟩,D14.2),rW Dy [0],⟨by first | exact hc3.1 | exact hd14.1.trans hc3.1,by first | exact hc3.2 | exact hp14,hc1.2.2.1,hc1.2.2.2,by (simp;done),rfl⟩⟩
 refine Bq ?_
 refine Br ?_ ?_<;>intro h90
 ·have hyl:(⟨DL3,DP3⟩:Fc).l.length<=300:=by show DL3.length<=300;rw[hc3.1];exact h
  have hyp:0<=(⟨DL3,DP3⟩:Fc).pos:=hc3.2
  obtain⟨D15,hD15,hd15⟩:=Dv ⟨DL3,DP3⟩ 4 (by assumption) (by assumption) (by omega) (by omega)
  have hl15:D15.2.l.length<=300:=by rw[hd15.1];assumption
  have hp15:0<=D15.2.pos:=by omega
  refine C6 Dy [0] hD15 ?_
  refine Bq ?_
  refine B2 Dy 4 ?_
  exact .ret ⟨(⟨KD,TK,[D15.1,CL],[]⟩,D15.2),rW Dy [0],⟨by first | exact hc3.1 | exact hd14.1.trans hc3.1 | exact hd15.1.trans hc3.1,by first | exact hc3.2 | exact hp14 | exact hp15,hc1.2.2.1,hc1.2.2.2,by (simp;done),rfl⟩⟩
 refine Bq ?_
 refine Br ?_ ?_<;>intro h97
 ·have hyl:(⟨DL3,DP3⟩:Fc).l.length<=300:=by show DL3.length<=300;rw[hc3.1];exact h
  have hyp:0<=(⟨DL3,DP3⟩:Fc).pos:=hc3.2
  obtain⟨D16,hD16,hd16⟩:=Dv ⟨DL3,DP3⟩ 4 (by assumption) (by assumption) (by omega) (by omega)
  have hl16:D16.2.l.length<=300:=by rw[hd16.1];assumption
  have hp16:0<=D16.2.pos:=by omega
  obtain⟨D17,hD17,hd17⟩:=Dv D16.2 4 (by assumption) (by assumption) (by omega) (by omega)
  have hl17:D17.2.l.length<=300:=by rw[hd17.1];assumption
  have hp17:0<=D17.2.pos:=by omega
  obtain⟨D18,hD18,hd18⟩:=Eg D17.2 1 60 (by assumption) (by assumption) (by omega) (by omega) (by omega)
  have hl18:D18.2.l.length<=300:=by rw[hd18.1];assumption
  have hp18:0<=D18.2.pos:=by omega
  obtain⟨LG,hLG,hlg⟩:=Od D18.2 c [D16.1,D17.1,D18.1] (by assumption) (by assumption) hj hp (by simp)
  refine Dg (fun K kk=>by simp[go_sem];refine .o [0] (hD16) ?_;simp[go_sem];refine .o [0] (hD17) ?_;simp[go_sem];refine .o [0] (hD18) ?_;simp[go_sem];refine .o [0,4] (hLG) ?_;simp[go_sem];exact kk) ?_
  refine Bq ?_
  refine B2 Dy 4 ?_
  exact .ret ⟨(⟨KD,TK,LG.1,[]⟩,LG.2),rW Dy [0],⟨by first | exact hc3.1 | exact hd14.1.trans hc3.1 | exact hd15.1.trans hc3.1 | exact hy1.1 | exact hlg.1.trans (hd18.1.trans (hd17.1.trans (hd16.1.trans hc3.1))),by first | exact hc3.2 | exact hp14 | exact hp15 | exact hp13 | exact hlg.2.1,hc1.2.2.1,hc1.2.2.2,by first | (simp;done) | (have h9:=hlg.2.2;simp at h9;dsimp only;omega),rfl⟩⟩
 refine Bq ?_
 refine Br ?_ ?_<;>intro h110
 ·have hyl:(⟨DL3,DP3⟩:Fc).l.length<=300:=by show DL3.length<=300;rw[hc3.1];exact h
  have hyp:0<=(⟨DL3,DP3⟩:Fc).pos:=hc3.2
  obtain⟨D19,hD19,hd19⟩:=Dv ⟨DL3,DP3⟩ 4 (by assumption) (by assumption) (by omega) (by omega)
  have hl19:D19.2.l.length<=300:=by rw[hd19.1];assumption
  have hp19:0<=D19.2.pos:=by omega
  refine Da Dy [0] hD19 ?_
  obtain⟨D20,hD20,hd20⟩:=Dv D19.2 2 (by assumption) (by assumption) (by omega) (by omega)
  have hl20:D20.2.l.length<=300:=by rw[hd20.1];assumption
  have hp20:0<=D20.2.pos:=by omega
  have hw27:=Dw (1+D20.1)
  refine Da hw27 [0] hD20<|.block ?_
  refine Cj (fun (y1:(List Int)×Int×(List Int)×Int)=>⟨[(0,.ptr 0 0),(8,.ptr 1 0),(9,.ptr 2 0),(11,.li y1.2.2.2)],[.box 84 [.mI y1.1,.li y1.2.1],.box 56 [.li 0,.nil 1,.nil 1,.nil 1],.box 56 [.li KD,.mY TK,.own 3 y1.2.2.1.length,.nil 1],.row 3 1 false false (tI y1.2.2.1)]⟩) (fun y1=>y1.1=k.l/\0<=y1.2.1/\y1.2.2.1.length+2*y1.2.2.2<=10/\0<=y1.2.2.2) (fun y1=>y1.2.2.2.toNat) (D20.2.l,D20.2.pos,[D19.1],(1+D20.1)) (wk Dy [0,2,3,4]) (⟨hd20.1.trans (hd19.1.trans hc3.1),hp20,by simp;omega,by dsimp only;omega⟩) fun y1 hy1=>?_
  refine B9<|.R ?_
  refine Br ?_ ?_<;>intro h120
  ·refine Bp<|.seq<|.block ?_
   have hyl:(⟨y1.1,y1.2.1⟩:Fc).l.length<=300:=by show y1.1.length<=300;rw[hy1.1];exact h
   have hyp:0<=(⟨y1.1,y1.2.1⟩:Fc).pos:=hy1.2.1
   obtain⟨D21,hD21,hd21⟩:=Dv ⟨y1.1,y1.2.1⟩ 3 (by assumption) (by assumption) (by omega) (by omega)
   have hl21:D21.2.l.length<=300:=by rw[hd21.1];assumption
   have hp21:0<=D21.2.pos:=by omega
   refine Da Dy [0] hD21 ?_
   obtain⟨D22,hD22,hd22⟩:=Dv D21.2 40 (by assumption) (by assumption) (by omega) (by omega)
   have hl22:D22.2.l.length<=300:=by rw[hd22.1];assumption
   have hp22:0<=D22.2.pos:=by omega
   have hw4:=Dw (D21.1+D22.1:Int)
   refine Dg (fun K kk=>by simp[go_sem,hw4];refine .o [0] (hD22) ?_;simp[go_sem,hw4];(repeat first | exact kk | refine aK ?_)) ?_
   have hw5:=Dw (y1.2.2.2 - 1:Int)
   refine B0 (Fe hw4 hw5) ?_
   refine⟨(D22.2.l,D22.2.pos,y1.2.2.1++([D21.1,(D21.1+D22.1)]),(y1.2.2.2 - 1)),?_,?_,wQ [0,1,2,3] ?_ ?_⟩
   ·(dsimp only;omega)
   ·(exact⟨hd22.1.trans (hd21.1.trans hy1.1),hp22,by simp;omega,by dsimp only;omega⟩)
   all_goals simp[go_sem,hw4,hw5]
  refine Bt<|.R ?_
  refine B2 Dy 3 ?_
  exact .ret ⟨(⟨KD,TK,y1.2.2.1,[]⟩,⟨y1.1,y1.2.1⟩),rW Dy [0],⟨by first | exact hc3.1 | exact hd14.1.trans hc3.1 | exact hd15.1.trans hc3.1 | exact hy1.1,by first | exact hc3.2 | exact hp14 | exact hp15 | exact hp13 | exact hlg.2.1 | exact hy1.2.1,hc1.2.2.1,hc1.2.2.2,by first | (simp;done) | (have h9:=hlg.2.2;simp at h9;dsimp only;omega) | (dsimp only;omega),rfl⟩⟩
 refine Bp<|.R ?_
 exact .ret ⟨(⟨KD,TK,[],[]⟩,⟨DL3,DP3⟩),rW Dy [0],⟨by exact hc3.1,by exact hc3.2,hc1.2.2.1,hc1.2.2.2,by (simp;done),rfl⟩⟩
section
def skJ (s:List (Int×Int)) (x:Bool):Gc:=⟨s.map fun p=>⟨p.1,p.2,0,0,0,0,0,0⟩,(List.range s.length).map fun t=>Ws s x t s.length,0⟩
def Axi (s:List (Int×Int)) (x:Bool):Bool:=U3 (skJ s x).con&&(Ey .and .i64 (Aao (skJ s x) s.length) (IntKind.i64.wrap (Aao (skJ s x) s.length+1)) == 0)&&Xv (skJ s x)
theorem Azh:(Xr.all fun s=>Axi s true&&Axi s false)=true:=by decide +kernel
variable {s:List (Int×Int)} {j:Gc}
theorem Aui {x:Bool} (h:Yr s j.phs) (hl:j.phs.length=s.length) (p:Nat):(Nz j p).ring=(Nz (skJ s x) p).ring/\(Nz j p).grp=(Nz (skJ s x) p).grp:=by
 unfold Nz skJ
 by_cases hp:p<j.phs.length
 ·have h1:=Aa hp
  obtain⟨t,ht,h2,h3,_⟩:=h p _ h1
  rw[h1,Ap,ht]
  exact⟨h2,h3⟩
 rw[Ar (by omega),Ap,Ar (by omega)]
 exact⟨rfl,rfl⟩
theorem Aq3 {s:List (Int×Int)} {x:Bool} {j:Gc} (h:Yr s j.phs) (hl:j.phs.length=s.length):∀n,Aao j n=Aao (skJ s x) n
 | 0=>rfl
 | n+1=>by rw[Aao,Aao,Aq3 h hl n,(Aui (x:=x) h hl n).2]
theorem Api {x:Bool} (h:Yr s j.phs) (hl:j.phs.length=s.length) (hc:j.con=(skJ s x).con):Xv j=Xv (skJ s x):=by
 unfold Xv
 have e:(skJ s x).phs.length=j.phs.length:=by rw[hl];simp[skJ]
 rw[e]
 congr 1
 funext p
 congr 1
 funext q
 unfold Aap
 rw[(Aui (x:=x) h hl p).1,(Aui (x:=x) h hl p).2,(Aui (x:=x) h hl q).1,(Aui (x:=x) h hl q).2,hc]
theorem Atp.ok (h:Atp j):Ri j=true/\N5 j/\j.phs.length<=8:=by
 obtain⟨s,hs,x,h1,h2,h3,h4,h5⟩:=h
 have hsl:=Aqy hs
 have hsk:Axi s x=true:=by
  have:=Am.1 Azh s hs
  simp only[Ah] at this
  cases x
  ·exact this.2
  exact this.1
 simp only[Axi,Ah] at hsk
 have hcl:j.con.length=j.phs.length:=by rw[h3,h2];simp
 have hph:∀p,p<j.phs.length->Jh (Nz j p)=true:=fun p hp=>by
  have hq:=Aa hp
  obtain⟨t,ht,g1,g2,g3,g4,g5,g6,g7,g8,g9⟩:=h1 p _ hq
  have hw:=Dw (j.phs[p].wa+j.phs[p].cl)
  have htr:∀s∈Xr,∀t∈s,0<=t.1/\t.1<=1/\0<=t.2/\t.2<=3:=by decide
  have htb:=htr s hs t (Ac ht)
  have hwc:((j.phs[p].wa == 0) == (j.phs[p].cl == 0))=true:=by
   rcases g6 with⟨a,b⟩ | g6
   ·rw[a,b];rfl
   have a:(j.phs[p].wa == 0)=false:=by simp;omega
   have b:(j.phs[p].cl == 0)=false:=by simp;omega
   rw[a,b];rfl
  unfold Nz
  rw[hq]
  simp only[Bh,Jh,Et,Ah,decide_eq_true_eq,hw]
  exact⟨⟨⟨⟨⟨by omega,by omega⟩,by omega,by omega⟩,⟨⟨by omega,by omega⟩,by omega,by omega⟩,by omega,by omega⟩,⟨⟨by omega,by omega⟩,by omega,by omega⟩,by omega,by omega⟩,⟨by omega,by omega⟩,hwc⟩
 have hcon:j.con=(skJ s x).con:=h3
 refine⟨?_,⟨by omega,by omega,by omega,fun p hp=>?_,fun p hp=>?_⟩,by omega⟩
 ·simp only[Ri,Ah,decide_eq_true_eq]
  refine⟨⟨⟨⟨⟨⟨⟨by omega,by omega⟩,hcl⟩,by rw[hcon];exact hsk.1.1⟩,?_⟩,Mz hph⟩,?_⟩,by rw[Api h1 h2 hcon];exact hsk.2⟩
  ·simp only[Et,Ah,decide_eq_true_eq];omega
  rw[h2,Aq3 (x:=x) h1 h2];exact hsk.1.2
 all_goals
  obtain⟨i,hi⟩:=A3.1 hp
  have hil:=(Ab.1 hi).1
  have hq:=Sb (hph i hil)
  unfold Nz at hq
  rw[hi] at hq
  simp only[Bh] at hq
  omega
variable {ri:Int}
theorem AgQ.ok (hr:0<=ri/\ri<=63) {a:Hy} (h:AgQ ri a):Ad8 a=true:=by
 obtain⟨h1,h2,h3,h4,h5,h6,h7,h8,h9,h10,_⟩:=h
 simp only[Ad8,Ah,decide_eq_true_eq,Et]
 refine⟨⟨⟨h1,h2⟩,Mz fun i hi=>?_⟩,⟨⟨⟨⟨⟨by omega,by omega⟩,by omega,by omega⟩,by omega,by omega⟩,by omega,by omega⟩,by omega,by omega⟩,by omega,by omega⟩
 have hq:=Aa hi
 have hb:=h3 _ (Ac hq)
 unfold Sz
 rw[hq]
 simp only[Bh,Ah,decide_eq_true_eq]
 omega
variable {c:E6}
theorem Aef.pl (hr:0<=ri/\ri<=63) (h:Aef ri c):Ln c=true:=by
 have h1:=h.per
 have h2:=h.cap
 have h3:=h.hold
 have h4:=h.lock
 have h5:=h.nj
 have h6:=h.na
 simp only[Ln,Ah,decide_eq_true_eq,Et]
 exact⟨⟨⟨⟨⟨by omega,by omega⟩,by omega,by omega⟩,Am.2 fun j hj=>(h.jun j hj).ok.1⟩,Am.2 fun a ha=>(h.ag a ha).ok hr⟩,⟨⟨⟨by omega,by omega⟩,by omega,by omega⟩,by omega,by omega⟩,by omega,by omega⟩
section
variable (h:Aef ri c)
include h
theorem Aef.b:Acg c:=⟨by have:=h.nj;omega,by have:=h.na;omega,fun j hj=>⟨(h.jun j hj).ok.2.1.len,(h.jun j hj).ok.2.1.con⟩,fun a ha=>⟨by rw[(h.ag a ha).1];decide,by rw[(h.ag a ha).2.1];decide⟩⟩
theorem Aef.hj:∀j∈c.juns,N5 j/\j.phs.length<=8:=fun j hj=>(h.jun j hj).ok.2
theorem Aef.ha:∀a∈c.ags,a.sec.length<=1000000/\a.lims.length<=1000000/\a.rq<=3:=fun a ha=>⟨by rw[(h.ag a ha).1];decide,by rw[(h.ag a ha).2.1];decide,by have:=(h.ag a ha).2.2.2.2.2.1;omega⟩
theorem Aef.hs:∀x∈c.ags,1<=x.se/\x.se<=2:=fun a ha=>(h.ag a ha).2.2.2.2.2.2.1
end
end
theorem Aw6 (n:Nat):By (List.replicate n (0:Int)):=fun x hx=>by rw[List.eq_of_mem_replicate hx];decide
theorem Jj {e:Mg} (h:e.bytes=[]):Oc e:=by rw[Oc,h];exact⟨by simp,Nx⟩
theorem Aet {e:Mg} {n:Int} (h:e.bytes=Ec n):Oc e:=by
 have hq:=Jb n
 rw[Oc,h];exact⟨by rw[hq.1];decide,hq.2⟩
theorem S7 (c:E6) (h:c.ags.length<=1000000) (hs:∀a∈c.ags,1<=a.se/\a.se<=2):Ct 31 [c.g] (fun d:Int=>.li d) (fun d=>0<=d/\d<=2*c.ags.length):=by
 refine Ev Tryz.func31 ?_
 refine Bq ?_
 refine Bq<|.seq ?_
 refine Bq<|.block ?_
 refine Bs c.ags.length (fun i1 (y1:Int)=>⟨[(3,.li y1),(7,.mAg c.ags),(8,.li c.ags.length),(9,.li i1)],[]⟩) (fun i1 y1=>0<=y1/\y1<=2*i1) (0) (wk Dy []) (⟨by decide,by decide⟩) fun i1 y1 hi1 hy1=>?_
 refine Bq<|.seq ?_
 refine Br ?_ ?_<;>intro h10
 ·refine Bp<|.seq<|.block ?_
  obtain⟨e1,H1⟩:=gx c.ags i1
  refine Bu H1 ?_
  have hse:=hs e1 (Ac H1)
  have hw2:=Dw (y1+e1.se:Int)
  refine B0 (Fe H1 hw2) ?_
  refine B0 (Fe H1 hw2) ?_
  exact⟨by omega,((y1+e1.se)),⟨by omega,by omega⟩,wk (I1 (Dw ((i1:Int)+1)) H1 hw2) []⟩
 refine Bt<|.R ?_
 exact .ret (Eu Dy y1 ⟨hy1.1,by omega⟩)
theorem Pa (k:Fc) (c:E6) (s:Int) (cal:Bool) (h:k.l.length<=300) (h0:0<=k.pos):Cx 35 [.box 84 (k.a false)] [.ptr 0 0,c.g,.li s,.lb cal] (fun d:Mg×Fc=>[.box 84 (d.2.a false)]) (fun d=>d.1.g) (fun d=>d.2.l=k.l/\0<=d.2.pos/\Oc d.1):=by
 refine T0 Tryz.func35 ?_
 refine Bq<|.seq ?_
 obtain⟨D1,hD1,hd1⟩:=Dv k 6 (by assumption) (by assumption) (by omega) (by omega)
 have hl1:D1.2.l.length<=300:=by rw[hd1.1];assumption
 have hp1:0<=D1.2.pos:=by omega
 refine Da Dy [0] hD1<|.block ?_
 refine Bq ?_
 refine Br ?_ ?_<;>intro h12
 ·refine Bq ?_
  refine Bz ⟨(⟨2,s,0,0,[]⟩,D1.2),Tn [0] (by simp[go_sem]) (by decide) (by simp) (by simp[go_sem]) ?_,⟨by first | exact hb1.1.trans hd1.1 | exact hd6.1.trans hd1.1 | exact hd5.1.trans (hd4.1.trans hd1.1) | exact hd3.1.trans (hd2.1.trans hd1.1) | exact hd1.1,by first | exact hb1.2.1 | exact hp6 | exact hp5 | exact hp3 | exact hp1,by exact Jj rfl⟩⟩
  repeat' (first | exact .nil | refine .cons (by simp[go_sem]) ?_)
 refine Bq ?_
 refine Br ?_ ?_<;>intro h17
 ·refine Bq ?_
  refine Bz ⟨(⟨1,s,0,0,[]⟩,D1.2),Tn [0] (by simp[go_sem]) (by decide) (by simp) (by simp[go_sem]) ?_,⟨by first | exact hb1.1.trans hd1.1 | exact hd6.1.trans hd1.1 | exact hd5.1.trans (hd4.1.trans hd1.1) | exact hd3.1.trans (hd2.1.trans hd1.1) | exact hd1.1,by first | exact hb1.2.1 | exact hp6 | exact hp5 | exact hp3 | exact hp1,by exact Jj rfl⟩⟩
  repeat' (first | exact .nil | refine .cons (by simp[go_sem]) ?_)
 refine Bq ?_
 refine Br ?_ ?_<;>intro h22
 ·obtain⟨D2,hD2,hd2⟩:=Dv D1.2 4 (by assumption) (by assumption) (by omega) (by omega)
  have hl2:D2.2.l.length<=300:=by rw[hd2.1];assumption
  have hp2:0<=D2.2.pos:=by omega
  obtain⟨D3,hD3,hd3⟩:=Dv D2.2 50 (by assumption) (by assumption) (by omega) (by omega)
  have hl3:D3.2.l.length<=300:=by rw[hd3.1];assumption
  have hp3:0<=D3.2.pos:=by omega
  refine B3 (fun K kk=>by simp[go_sem];refine .o [0] (hD2) ?_;simp[go_sem];refine .o [0] (hD3) ?_;simp[go_sem];refine .l (Ge D3.1) ?_;simp[go_sem];exact kk) ?_
  refine Bz ⟨(⟨4,0,D2.1,0,(Ec D3.1)⟩,D3.2),Tn [0] (by simp[go_sem]) (by decide) (by simp) (by simp[go_sem]) ?_,⟨by first | exact hb1.1.trans hd1.1 | exact hd6.1.trans hd1.1 | exact hd5.1.trans (hd4.1.trans hd1.1) | exact hd3.1.trans (hd2.1.trans hd1.1),by first | exact hb1.2.1 | exact hp6 | exact hp5 | exact hp3,by first | exact Jj rfl | exact Aet rfl⟩⟩
  repeat' (first | exact .nil | refine .cons (by simp[go_sem]) ?_)
 refine Bq ?_
 refine Br ?_ ?_<;>intro h31
 ·refine Bq ?_
  refine Bz ⟨(⟨6,0,0,0,[]⟩,D1.2),Tn [0] (by simp[go_sem]) (by decide) (by simp) (by simp[go_sem]) ?_,⟨by first | exact hb1.1.trans hd1.1 | exact hd6.1.trans hd1.1 | exact hd5.1.trans (hd4.1.trans hd1.1) | exact hd3.1.trans (hd2.1.trans hd1.1) | exact hd1.1,by first | exact hb1.2.1 | exact hp6 | exact hp5 | exact hp3 | exact hp1,by exact Jj rfl⟩⟩
  repeat' (first | exact .nil | refine .cons (by simp[go_sem]) ?_)
 refine Bq ?_
 refine Br ?_ ?_<;>intro h34
 ·obtain⟨D4,hD4,hd4⟩:=Dv D1.2 3 (by assumption) (by assumption) (by omega) (by omega)
  have hl4:D4.2.l.length<=300:=by rw[hd4.1];assumption
  have hp4:0<=D4.2.pos:=by omega
  obtain⟨D5,hD5,hd5⟩:=Dv D4.2 9 (by assumption) (by assumption) (by omega) (by omega)
  have hl5:D5.2.l.length<=300:=by rw[hd5.1];assumption
  have hp5:0<=D5.2.pos:=by omega
  refine B3 (fun K kk=>by simp[go_sem];refine .o [0] (hD4) ?_;simp[go_sem];refine .o [0] (hD5) ?_;simp[go_sem];exact kk) ?_
  refine Bz ⟨(⟨5,0,D4.1,D5.1,[]⟩,D5.2),Tn [0] (by simp[go_sem]) (by decide) (by simp) (by simp[go_sem]) ?_,⟨by first | exact hb1.1.trans hd1.1 | exact hd6.1.trans hd1.1 | exact hd5.1.trans (hd4.1.trans hd1.1),by first | exact hb1.2.1 | exact hp6 | exact hp5,by exact Jj rfl⟩⟩
  repeat' (first | exact .nil | refine .cons (by simp[go_sem]) ?_)
 refine Bq ?_
 refine Br ?_ ?_<;>intro h42
 ·obtain⟨D6,hD6,hd6⟩:=Dv D1.2 120 (by assumption) (by assumption) (by omega) (by omega)
  have hl6:D6.2.l.length<=300:=by rw[hd6.1];assumption
  have hp6:0<=D6.2.pos:=by omega
  have hw1:=Dw (150+D6.1)
  refine Da hw1 [0] hD6 ?_
  refine Dj 3 ?_
  simp[go_sem,-Prod.exists]
  refine Bz ⟨(⟨3,s,0,0,List.replicate ((150+D6.1).toNat) 0⟩,D6.2),Tn [0] (by simp[go_sem]) (by decide) (by simp) (by simp[go_sem]) ?_,⟨by first | exact hb1.1.trans hd1.1 | exact hd6.1.trans hd1.1,by first | exact hb1.2.1 | exact hp6,by first | exact Jj rfl | exact Aet rfl | exact⟨by simp;omega,Aw6 _⟩⟩⟩
  repeat' (first | exact .nil | refine .cons (by simp[go_sem]) ?_)
 refine Bp ?_
 obtain⟨B1,hB1,hb1⟩:=Pb D1.2 9 (by assumption) (by assumption) (by omega) (by omega)
 refine Da Dy [0] hB1 ?_
 refine Dj 3 ?_
 simp[go_sem,-Prod.exists]
 refine Bz ⟨(⟨3,s,0,0,B1.1⟩,B1.2),Tn [0] (by simp[go_sem]) (by decide) (by simp) (by simp[go_sem]) ?_,⟨by exact hb1.1.trans hd1.1,by exact hb1.2.1,by first | exact Jj rfl | exact Aet rfl | exact⟨by simp;omega,Aw6 _⟩ | exact⟨by have:=hb1.2.2.1;dsimp only;omega,hb1.2.2.2⟩⟩⟩
 repeat' (first | exact .nil | refine .cons (by simp[go_sem]) ?_)
end Go.Proofs.YtkkimgjinbaemaaGreat
