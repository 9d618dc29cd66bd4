/- The walk. -/
import Derived.Test.YtkkimgjinbaemaaGreatKag
noncomputable section
namespace Go.Proofs.YtkkimgjinbaemaaGreat
open Go.RowKit
set_option linter.unusedVariables false
set_option linter.unusedSimpArgs false
set_option linter.defProp false
set_option linter.unusedSectionVars false
set_option maxRecDepth 100000
set_option maxHeartbeats 4000000
theorem Ag5 (n:Int) (l:List Gw) (hl:l.length<=4) (hv:∀v∈l,v.col.length<=8/\v.cnt.length<=8):Ct 101 [.li n,.mView l] (fun d:Dz=>d.g) (fun d=>d.kind=21/\d.args=[n]/\d.tok=[]/\d.data=Hq l hl hv):=by
 refine Ev Tryz.func101 ?_
 have hb:=Rg l hl hv
 refine Bq ?_
 refine B8 Dy (Tf l hl hv) ?_
 refine Dj 1 ?_
 simp[go_sem]
 refine Dj 2 ?_
 simp[go_sem]
 refine Bz (Fl ?_);simp[go_sem]
 exact⟨⟨21,[],[n],(Hq l hl hv)⟩,by rfl,(by simp)⟩
theorem Aa6 (n:Int) (l:List Gw) (c:List Int) (hl:l.length<=4) (hv:∀v∈l,v.col.length<=8/\v.cnt.length<=8) (hc:c.length<=1000):Ct 157 [.li n,.mView l,.mY c] (fun d:Dz=>d.g) (fun d=>d.kind=17/\d.args=[n]/\d.tok=[]/\d.data=Hq l hl hv++c):=by
 refine Ev Tryz.func157 ?_
 have hb:=Rg l hl hv
 refine Bq ?_
 refine B8 Dy (Tf l hl hv) ?_
 refine Dj 1 ?_
 simp[go_sem]
 refine Dj 2 ?_
 simp[go_sem]
 refine Bz (Fl ?_);simp[go_sem]
 exact⟨⟨17,[],[n],(Hq l hl hv)++c⟩,by first | rfl | simp[go_sem],(by simp)⟩
theorem Aey (l:List Er) (n:Int) (w:List Gw) (now:Int) (hl:l.length<=1000000) (hw:w.length<=1000000) (hv:∀v∈w,v.col.length<=8) (hn:n<=3):Ct 156 [.mReq l,.li n,.mView w,.li now] (fun d:List Int=>.mY d) (fun d=>d.length=(n*3).toNat/\By d):=by
 refine Ev Tryz.func156 ?_
 refine Bq<|.seq ?_
 refine Bq ?_
 refine Br ?_ ?_<;>intro h18
 ·refine Bq ?_
  exact .ret (Eu Dy ([]) ⟨by simp;omega,.nil⟩)
 refine Bp ?_
 have hw1:=Dw (n*3:Int)
 refine Bu hw1<|.seq ?_
 refine Bu hw1<|.block ?_
 refine Bs ((n*3).toNat) (fun i1 (y1:(List Int))=>⟨[(0,.mReq l),(2,.mView w),(3,.li now),(9,.own 0 y1.length),(23,.li ((n*3).toNat)),(24,.li i1)],[.row 5 1 false false (tY y1)]⟩) (fun i1 y1=>y1.length=(n*3).toNat/\By y1) (List.replicate ((n*3).toNat) 0) (wk hw1 [0]) ⟨by simp,.rep _⟩ fun i1 y1 hi1 hy1=>?_
 refine Bu hw1<|.seq ?_
 refine Br ?_ ?_<;>intro h25
 ·refine Bp<|.seq<|.block<|.H hw1 ?_
  have hq:=Dw ((i1:Int) / 3)
  have hr:Int.tmod (i1:Int) 3=(i1:Int) % 3:=Int.tmod_eq_emod_of_nonneg (by omega)
  refine Bu (Fe hw1 hq) ?_
  obtain⟨e2,H2⟩:=gx y1 i1
  refine Bu (Fe hw1 H2) ?_
  obtain⟨R,hRe⟩:∃R,R=y1.set i1 0:=⟨_,rfl⟩
  have hR:R.length=(n*3).toNat:=by rw[hRe,List.length_set];exact hy1.1
  have hRy:By R:=by rw[hRe];exact hy1.2.set _ (by decide)
  refine VX.rowIs 0 (tY R) rfl (by simp[go_sem,hRe]) ?_
  simp[go_sem,-Prod.exists]
  refine Bu (O4 hw1 H2 hR hr) ?_
  by_cases hc10:((i1:Int) / 3)<l.length
  ·obtain⟨e3,H3⟩:=gx l (((i1:Int) / 3).toNat)
   refine Bu (Yo hw1 H2 hR hc10 H3) ?_
   refine Br ?_ ?_<;>intro h47
   ·obtain⟨e4,H4⟩:=gx e3.legs (((i1:Int) % 3).toNat)
    obtain⟨e5,H5⟩:=gx R i1
    obtain⟨Y1,cY1,qY1⟩:=Eo (Ag6 e4 w now (by assumption) (by assumption))
    refine Ci (fun K kk=>by simp[go_sem,hw1,H2,hR,hc10,H3,H4,H5];(repeat refine aK ?_);refine .l cY1 ?_;simp[go_sem,hw1,H2,hR,hc10,H3,H4,H5];(repeat first | exact kk | refine aK ?_)) ?_
    refine Ci (fun K kk=>by simp[go_sem,hw1,H2,hR,hc10,H3,H4,H5];exact kk) ?_
    refine⟨by omega,((R).set i1 (IntKind.u8.wrap Y1)),?_,wQ [0] ?_ ?_⟩
    ·exact⟨by simp;omega,hRy.set _ (Rv _)⟩
    all_goals simp[go_sem,Dw ((i1:Int)+1),hw1,H2,hR,hc10,H3,H4,H5,hy1.1]
   refine Bp<|.H1 (Yo hw1 H2 hR hc10 H3) ?_
   refine⟨by omega,(R),?_,wQ [0] ?_ ?_⟩
   ·exact⟨hR,hRy⟩
   all_goals simp[go_sem,Dw ((i1:Int)+1),hw1,H2,hR,hc10,H3,hy1.1]
  have hn:l[((i1:Int) / 3).toNat]? = none:=Ar (by omega)
  refine Bu (Yo hw1 H2 hR hc10 hn) ?_
  refine Ck ?_ ?_<;>intro h47<;>simp[go_sem] at h47
  refine Bp<|.H1 (Yo hw1 H2 hR hc10 hn) ?_
  refine⟨by omega,(R),?_,wQ [0] ?_ ?_⟩
  ·exact⟨hR,hRy⟩
  all_goals simp[go_sem,Dw ((i1:Int)+1),hw1,H2,hR,hc10,hn,hy1.1]
 refine Bt<|.H hw1 ?_
 refine B2 Dy 0 ?_
 exact .ret (Eu hw1 y1 hy1)
section
def On (sel:List Nat) (p:Prop):Prop:=p
section
variable {P:Program} {d:Option Tmp} {os:List VO} {st:St} {K:St->Prop} {f:FuncId} {args args' G4:List AV} {bor:Bool} {σa σr:List Ob} {res:AV}
theorem T7.O {sel:List Nat} (hp:On sel (E4 P f σa args' σr res)) (h:runs P os (st.after d (O0 sel st.ob.length σr res).1 (O0 sel st.ob.length σr res).2) K) (hσ:(sel.map fun id=>((st.o id).passR st.o fun id=>M3 id sel 0).low)=σa:=by simp[go_sem]) (ha:Kf (G9 st.o (fun id=>M3 id sel 0) G4)=args':=by simp[go_sem]) (hc:Adb G4 st sel σr res:=by constructor<;>simp[go_sem]):T7 P f args bor G4 d os st K:=.ob sel hp hσ ha hc h
end
variable {f:FuncId} {args:List AV} {σa σr:List Ob}
section
variable {P:Program} {n m:Nat} {st s':St} {K:Exit->St->Prop} {id:Nat} {l:List Oper} {y:Code}
theorem VX.O {p:Prop} {res:AV} (e:p) (sel:List Nat) (c:E4 P f σa args σr res) (h:VX P n m y s' K) (hr:∀K1:St->Prop,p->On sel (E4 P f σa args σr res)->K1 s'->runs P (Gf l) st K1:=by intro K e c k;simp[go_sem,e];(repeat refine aK ?_);refine .O c ?_;simp[go_sem,e];(repeat first | exact k | refine aK ?_)) (hd:Fs n l=true:=by rfl):VX P n m (.seq (.region id l.toArray false) y) st K:=.region_seq hd fun K1 h1=>hr K1 e c (h1 _ h)
abbrev Da:=@VX.O
theorem VX.O1 {p:Prop} {res:AV} (e:p) (sel:List Nat) (c:E4 P f σa args σr res) (h:K .normal s') (hr:∀K1:St->Prop,p->On sel (E4 P f σa args σr res)->K1 s'->runs P (Gf l) st K1:=by intro K e c k;simp[go_sem,e];(repeat refine aK ?_);refine .O c ?_;simp[go_sem,e];(repeat first | exact k | refine aK ?_)) (hd:Fs n l=true:=by rfl):VX P n m (.region id l.toArray false) st K:=.region1 hd fun K1 h1=>hr K1 e c (h1 _ h)
abbrev C6:=@VX.O1
end
theorem cB {es:List (List T)} (h:es.length<=1000000:=by first | (simp;done) | (simp;omega) | (simp;assumption)) (hp:es.all (fun e=>e.all T.plain)=true:=by first | (simp[T.plain];done) | (rw[Am];intro e he;repeat (first | replace he:=Aq he | replace he:=Ay he);obtain⟨x,_,rfl⟩:=A4.1 he;rfl)):PP 63 [] [.imm false 1 es] [] (.imm true 1 es):=E4.froz (Gh es h hp)
end
section
theorem Ahb (a:List Int) (b:List Int) (h1:a.length<=1000000) (h2:b.length<=1000000):Ct 229 [.mY a,.mY b] (fun d:Bool=>.lb d) (fun d=>True):=by
 refine Ev Tryz.func229 ?_
 refine Bq ?_
 refine B3 (fun K kk=>by simp[go_sem,Agc];exact kk) ?_
 refine Bz (Fl ?_);simp[go_sem]
 exact⟨_,by rfl,trivial⟩
variable {l:List F9}
theorem Amt {i:Nat} {x:F9} (h:∀t∈l,t.sec.length<=1000000) (hx:x.sec.length<=1000000):∀t∈l.set i x,t.sec.length<=1000000:=fun t ht=>by
 rcases Bi ht with h1 | h1
 ·exact h t h1
 subst h1;exact hx
theorem Atu {n:Nat} {a b c d:Int} {u:Bool}:∀t∈List.replicate n (⟨u,[],a,b,c,d⟩:F9),t.sec.length<=1000000:=fun t ht=>by
 rw[(List.mem_replicate.1 ht).2]
 simp
section
variable (a:Hy) (h:a.sec.length<=1000000)
include h
theorem Sf:∃d:List F9,PP 111 [] [a.g] [.row 73 6 false false (Pe d)] (.own 0 d.length)/\(d.length=8/\∀t∈d,t.sec.length<=1000000):=by
 refine Nr (D:=List F9) (F:=fun d=>.own 0 d.length) (S:=fun d=>[.row 73 6 false false (Pe d)]) (Q:=fun d=>d.length=8/\∀t∈d,t.sec.length<=1000000) Tryz.func111 rfl rfl rfl (by simp[Tryz.ntmps111]) ?_
 refine Bq ?_
 refine Bu Dy<|.seq ?_
 refine Bq<|.block ?_
 refine Bs 8 (fun i1 (y1:(List F9))=>⟨[(1,.ptr 0 0),(3,.own 1 y1.length),(7,.li 8),(8,.li i1)],[.box 60 (a.a false),.row 73 6 false false (Pe y1)]⟩) (fun i1 y1=>y1.length=8/\∀t∈y1,t.sec.length<=1000000) (List.replicate 8 ⟨false,[],0,0,0,0⟩) (wk Dy [0,1]) (⟨rfl,Atu⟩) fun i1 y1 hi1 hy1=>?_
 refine Bq<|.seq ?_
 refine Br ?_ ?_<;>intro h9
 ·refine Bp<|.seq<|.block<|.R ?_
  obtain⟨e1,H1⟩:=gx y1 i1
  refine Dr H1 (Ul) ?_
  refine B0 H1 ?_
  exact⟨by omega,((y1).set i1 Us),⟨by simp;omega,Amt hy1.2 (by simp[Us])⟩,wk (Fe (Dw ((i1:Int)+1)) H1) [0,1]⟩
 refine Bt ?_
 obtain⟨e2,H2⟩:=gx y1 0
 refine Cw (fun K kk=>by simp[go_sem,H2];refine .lo cB rfl (by simp[AV.cln,Ff]) ?_;simp[go_sem,H2];(repeat first | exact kk | refine aK ?_)) ?_
 refine Bu H2 ?_
 exact .ret ⟨(y1).set 0 ⟨true,a.sec,(-1),a.ri,a.cls,0⟩,rW H2 [1],⟨by simp;omega,Amt hy1.2 h⟩⟩
def J0:List F9:=(Sf a h).choose
theorem Ahg:PP 111 [] [a.g] [.row 73 6 false false (Pe (J0 a h))] (.own 0 (J0 a h).length):=(Sf a h).choose_spec.1
theorem Al5:PP 111 [] [a.g] [] (.mTok (J0 a h)):=(Ahg a h).frozA (by simp[go_sem])
theorem Am5:(J0 a h).length=8/\∀t∈(J0 a h),t.sec.length<=1000000:=(Sf a h).choose_spec.2
end
theorem L5 (l:List F9) (hl:l.length<=1000000) (ht:∀t∈l,t.sec.length<=1000000):PP 183 [] [.mTok l] [.row 73 6 false false (Pe l)] (.own 0 l.length):=by
 refine El Tryz.func183 ?_
 refine Bw ?_
 refine Cc (fun K kk=>by simp[go_sem];refine .lo (Su _ (by simpa using hl)) rfl (by simp) ?_;simp[go_sem];exact kk)<|.seq ?_
 refine Bw<|.block ?_
 refine Cb l.length (fun i1=>⟨[(3,.own 0 l.length),(8,.li l.length),(9,.li i1)],[.row 73 6 false false (Pe l)]⟩) (wk Dy [0]) fun i1 hi1=>?_
 refine Bw<|.seq ?_
 refine B7 ?_ ?_<;>intro h10
 ·have hx:l[i1]? = some l[i1]:=Aa h10
  generalize l[i1]=t at hx
  have hs:=Gy (f:=F9.t) hx
  simp only[F9.t] at hs
  refine Bv<|.seq<|.block<|.R ?_
  refine VW.S1 (fun K kk=>by simp[go_sem,hx,hs];(repeat refine aK ?_);refine .lo (E4.froz (Gh _ (by simpa using ht t (Ac hx)) (by simp[T.plain]))) rfl (by simp) ?_;simp[go_sem,hx,hs];(repeat first | exact kk | refine aK ?_)) ?_
  refine Cm ?_
  refine⟨by omega,wQ [0] ?_ ?_⟩
  ·simp[go_sem,Dw ((i1:Int)+1)]
  simp[go_sem]
 refine B5<|.R ?_
 exact .ret (rW Dy [0])
theorem Oo (x:Jw) (hb:Qb x):PP 165 [] [x.g] [] (x.g):=by
 refine El Tryz.func165 ?_
 have hb1:=hb.toks
 refine Bw ?_
 refine Di Dy (Nf x.ag hb.sec hb.lims) ?_
 refine Cc (fun K kk=>by simp[go_sem];refine .lo (Su _ (by simpa using hb.toks)) rfl (by simp) ?_;simp[go_sem];exact kk)<|.seq ?_
 refine Bw<|.block ?_
 refine Cb x.toks.length (fun i1=>⟨[(1,.ptr 0 0),(2,.ptr 1 0),(14,.li x.toks.length),(15,.li i1)],[.box 66 [.li x.num,.mY x.ag.sec,.li x.ag.ri,.li x.ag.cls,.mI x.ag.lims,.li x.ag.rq,.li x.ag.se,.li x.ag.ra,.li x.ag.bu,.own 2 x.toks.length,.mVeh x.vehs,.li x.bk.lv,.li x.bk.ra,.li x.bk.bu],.box 66 [.li 0,.nil 1,.li 0,.li 0,.nil 1,.li 0,.li 0,.li 0,.li 0,.nil 6,.nil 2,.li 0,.li 0,.li 0],.row 73 6 false false (Pe x.toks)]⟩) (wk Dy [0,1,2]) fun i1 hi1=>?_
 refine Bw<|.seq ?_
 refine B7 ?_ ?_<;>intro h16
 ·have hx:x.toks[i1]? = some x.toks[i1]:=Aa h16
  generalize x.toks[i1]=t at hx
  have hs:=Gy (f:=F9.t) hx
  simp only[F9.t] at hs
  refine Bv<|.seq<|.block<|.R ?_
  refine VW.E1 (fun K kk=>by simp[go_sem,hx,hs];(repeat refine aK ?_);refine .lo (E4.froz (Gh _ (by simpa using hb.tsec t (Ac hx)) (by simp[T.plain]))) rfl (by simp) ?_;simp[go_sem,hx,hs];(repeat first | exact kk | refine aK ?_)) ?_
  refine Cm ?_
  refine⟨by omega,wQ [0,1,2] ?_ ?_⟩
  ·simp[go_sem,Dw ((i1:Int)+1)]
  simp[go_sem]
 refine B5 ?_
 refine Cg 2 (by simp[go_sem,F7]) ?_
 simp[go_sem]
 refine Cc (fun K kk=>by simp[go_sem];refine .lo (E4.froz (Vo _ (by simpa using hb.vehs) (by simp[T.plain,Hl.t]))) rfl (by simp) ?_;simp[go_sem];exact kk) ?_
 refine Bw ?_
 exact .ret (rL h16)
theorem Azc {s:Int} {t:F9} (h:Zd l s 0=true) (hs:s≠0) (ht:l[s.toNat]? = some t):0<=t.par/\t.par<l.length:=by
 unfold Zd Vs at h
 rw[Q8] at h
 split at h
 ·rw[List.contains_cons] at h
  have e:(0 == s)=false:=by simpa using fun e=>hs e.symm
  rw[e,Bool.false_or,Q8] at h
  split at h
  ·rename_i hu
   have hp:Aml l s=t.par:=by simp[Aml,ht]
   rw[hp] at hu
   obtain⟨h0,t',h1,_⟩:=Q7 hu
   have:=(Ab.1 h1).1
   omega
  simp at h
 simp at h
section
variable (l:List F9) (hl:l.length<=1000000) (ht:∀t∈l,t.sec.length<=1000000)
include hl ht
theorem Ls:Ct 253 [.mTok l] (fun d:Bool=>.lb d) (fun d=>d=true->l.length=8):=by
 refine Ev Tryz.func253 ?_
 refine Bq<|.seq ?_
 refine Bq ?_
 refine Br ?_ ?_<;>intro h9
 ·refine Bq ?_
  exact .ret (Eu Dy false (by first | (intro _;omega) | (simp;done)))
 refine Bp ?_
 obtain⟨e1,H1⟩:=gx l 0
 refine Bu H1<|.seq ?_
 refine B4 (by rfl) fun K1 hK1=>?_
 simp[go_sem,H1]
 refine Qc ?_
 simp[go_sem,H1]
 refine .lo (Yb e1) rfl (by simp[AV.cln,Ff]) ?_
 simp[go_sem,H1]
 refine hK1 _ ?_;clear hK1
 refine Br ?_ ?_<;>intro h30
 ·refine Bu H1 ?_
  exact .ret (Eu H1 false (by (intro _;omega)))
 refine Bp<|.seq<|.H H1<|.block ?_
 refine Cj (fun (y1:Int)=>⟨[(0,.mTok l),(4,.li y1)],[]⟩) (fun y1=>1<=y1/\y1<=l.length) (fun y1=>(l.length - y1).toNat) (1) (wk H1 []) (by omega) fun y1 hy1=>?_
 refine B9<|.H H1 ?_
 refine Br ?_ ?_<;>intro h34
 ·refine Bp<|.seq<|.block ?_
  obtain⟨e2,H2⟩:=gx l y1.toNat
  refine Bu (Fe H1 H2)<|.seq ?_
  refine Bu (Fe H1 H2) ?_
  refine Br ?_ ?_<;>intro h43
  ·refine B9<|.L (Fe H1 H2) (Ae6 e2) ?_
   refine Br ?_ ?_<;>intro h46
   ·refine Bu (Fe H1 H2) ?_
    exact .ret (Eu (Fe H1 H2) false (by (intro _;omega)))
   refine Bp<|.exit ?_
   have hw3:=Dw (y1+1:Int)
   refine B0 (I1 H1 H2 hw3) ?_
   refine⟨((y1+1)),?_,?_,wQ [] ?_ ?_⟩
   ·omega
   ·omega
   all_goals simp[go_sem,H1,H2,hw3]
  refine Bp<|.seq ?_
  refine B4 (by rfl) fun K1 hK1=>?_
  simp[go_sem,H1,H2]
  refine .l (Yb e2) ?_
  simp[go_sem,H1,H2]
  refine Qc ?_
  simp[go_sem,H1,H2]
  refine .lo (Tb l y1 0) rfl (by simp[AV.cln,Ff]) ?_
  simp[go_sem,H1,H2]
  refine hK1 _ ?_;clear hK1
  refine Br ?_ ?_<;>intro h55
  ·refine Bu (Fe H1 H2) ?_
   exact .ret (Eu (Fe H1 H2) false (by (intro _;omega)))
  have hpar:=Azc (t:=e2) (by exact h55.2) (by omega) H2
  refine Bp ?_
  obtain⟨e4,H4⟩:=gx l e2.par.toNat
  refine Bu (I1 H1 H2 H4) ?_
  refine B4 (by rfl) fun K1 hK1=>?_
  simp[go_sem,H1,H2,H4]
  refine .l (Vl e2.ri e4.ri) ?_
  simp[go_sem,H1,H2,H4]
  refine Qc ?_
  simp[go_sem,H1,H2,H4]
  refine .lo (Sq e2.unt e4.unt) rfl (by simp[AV.cln,Ff]) ?_
  simp[go_sem,H1,H2,H4]
  refine hK1 _ ?_;clear hK1
  refine Br ?_ ?_<;>intro h80
  ·refine Bu (I1 H1 H2 H4) ?_
   exact .ret (Eu (I1 H1 H2 H4) false (by (intro _;omega)))
  refine Bp ?_
  have hw5:=Dw (y1+1:Int)
  refine B0 (O4 H1 H2 H4 hw5) ?_
  refine⟨((y1+1)),?_,?_,wQ [] ?_ ?_⟩
  ·omega
  ·omega
  all_goals simp[go_sem,H1,H2,H4,hw5]
 refine Bt<|.H H1 ?_
 exact .ret (Eu H1 true (by (intro _;omega)))
def Yl:Bool:=(Eo (Ls l hl ht)).choose
theorem Ahf:PP 253 [] [.mTok l] [] (.lb (Yl l hl ht)):=(Eo (Ls l hl ht)).choose_spec.1
theorem Aht:(Yl l hl ht)=true->l.length=8:=(Eo (Ls l hl ht)).choose_spec.2
end
end
theorem Aem {l:List F9} {i:Nat} {x:F9} (h:∀t∈l,t.sec.length<=1000000) (hx:x.sec.length<=1000000):∀t∈l.set i x,t.sec.length<=1000000:=fun t ht=>by
 rcases Bi ht with h1 | h1
 ·exact h t h1
 subst h1;exact hx
theorem V3 (l:List F9) (p:Int) (ri:Int) (c:Int) (life:Int) (sec:List Int) (now:Int) (hl:l.length<=1000000) (ht:∀t∈l,t.sec.length<=1000000) (hs:sec.length<=1000000):Ct 256 [.mTok l,.li p,.li ri,.li c,.li life,.mY sec,.li now] (fun d:List F9×Int×Int=>.tup [.mTok d.1,.li d.2.1,.li d.2.2]) (fun d=>d.1.length<=l.length/\(∀t∈d.1,t.sec.length<=1000000)/\(0<=d.2.2/\d.2.2<=99)/\(d.2.2=0->0<=d.2.1/\d.2.1<=1000000/\sec.length=8)):=by
 refine Ev Tryz.func256 ?_
 have hi:=Agd (fun t:F9=>!t.used) l
 refine Bq<|.seq ?_
 obtain⟨Y1,cY1,qY1⟩:=Eo (Ls l (by assumption) (by assumption))
 refine B8 Dy cY1 ?_
 refine Br ?_ ?_<;>intro h36
 ·refine Bq ?_
  exact .ret (Eu Dy ([],0,1) ⟨Ae _,fun t h=>absurd h A8,by decide,fun h=>absurd h (by decide)⟩)
 refine Bp<|.seq<|.L Dy (Qg l p) ?_
 refine Br ?_ ?_<;>intro h40
 ·refine Bq ?_
  exact .ret (Eu Dy ([],0,12) ⟨Ae _,fun t h=>absurd h A8,by decide,fun h=>absurd h (by decide)⟩)
 obtain⟨hp0,tp,hp1,_⟩:=Q7 (by simpa using h40)
 have hp2:=(Ab.1 hp1).1
 refine Bp ?_
 obtain⟨e1,H1⟩:=gx l p.toNat
 refine Bu H1<|.seq ?_
 refine B8 H1 (Vl ri e1.ri) ?_
 refine Br ?_ ?_<;>intro h67
 ·refine Bu H1 ?_
  exact .ret (Eu H1 ([],0,8) ⟨Ae _,fun t h=>absurd h A8,by decide,fun h=>absurd h (by decide)⟩)
 refine Bp<|.H H1<|.seq ?_
 refine Bu H1 ?_
 refine Br ?_ ?_<;>intro h69
 ·refine B0 H1<|.seq ?_
  refine B8 H1 (Sq (IntKind.i64.wrap (now+life)) e1.unt) ?_
  refine Br ?_ ?_<;>intro h76
  ·refine Bu H1 ?_
   exact .ret (Eu H1 ([],0,8) ⟨Ae _,fun t h=>absurd h A8,by decide,fun h=>absurd h (by decide)⟩)
  refine Bp<|.S (fun K kk=>by simp[go_sem,H1];refine .lo (Rz l _ [] (fun t=>!t.used) hl Tm Tc) (by simp[go_sem]) (by simp[AV.cln,Ff]) ?_;simp[go_sem,H1];exact kk)<|.seq ?_
  refine Bu H1 ?_
  refine Br ?_ ?_<;>intro h80
  ·refine Bu H1 ?_
   exact .ret (Eu H1 ([],0,10) ⟨Ae _,fun t h=>absurd h A8,by decide,fun h=>absurd h (by decide)⟩)
  refine Bp<|.L H1 (L5 l (by assumption) (by assumption)) ?_
  obtain⟨e2,H2⟩:=gx l ((Ii (fun t:F9=>!t.used) l).toNat)
  refine B3 (fun K kk=>by simp[go_sem,H1,H2];refine .lo (E4.froz (Gh _ (by (simp;omega)) (by simp[T.plain]))) rfl (by simp[AV.cln,Ff]) ?_;simp[go_sem,H1,H2];(repeat first | exact kk | refine aK ?_)) ?_
  refine Bu (Fe H1 H2) ?_
  refine B2 Dy 1 ?_
  exact .ret (Eu (Fe H1 H2) ((l).set ((Ii (fun t:F9=>!t.used) l).toNat) ⟨true,sec,p,ri,c,IntKind.i64.wrap (now+life)⟩,(Ii (fun t:F9=>!t.used) l),0) ⟨by simp,Aem ht (by exact hs),by simp,fun _=>⟨by dsimp only;omega,by dsimp only;omega,by omega⟩⟩)
 refine Bp<|.seq<|.L H1 (Sq 0 e1.unt) ?_
 refine Br ?_ ?_<;>intro h76
 ·refine Bu H1 ?_
  exact .ret (Eu H1 ([],0,8) ⟨Ae _,fun t h=>absurd h A8,by decide,fun h=>absurd h (by decide)⟩)
 refine Bp<|.S (fun K kk=>by simp[go_sem,H1];refine .lo (Rz l _ [] (fun t=>!t.used) hl Tm Tc) (by simp[go_sem]) (by simp[AV.cln,Ff]) ?_;simp[go_sem,H1];exact kk)<|.seq ?_
 refine Bu H1 ?_
 refine Br ?_ ?_<;>intro h80
 ·refine Bu H1 ?_
  exact .ret (Eu H1 ([],0,10) ⟨Ae _,fun t h=>absurd h A8,by decide,fun h=>absurd h (by decide)⟩)
 refine Bp<|.L H1 (L5 l (by assumption) (by assumption)) ?_
 obtain⟨e3,H3⟩:=gx l ((Ii (fun t:F9=>!t.used) l).toNat)
 refine B3 (fun K kk=>by simp[go_sem,H1,H3];refine .lo (E4.froz (Gh _ (by (simp;omega)) (by simp[T.plain]))) rfl (by simp[AV.cln,Ff]) ?_;simp[go_sem,H1,H3];(repeat first | exact kk | refine aK ?_)) ?_
 refine Bu (Fe H1 H3) ?_
 refine B2 Dy 1 ?_
 exact .ret (Eu (Fe H1 H3) ((l).set ((Ii (fun t:F9=>!t.used) l).toNat) ⟨true,sec,p,ri,c,0⟩,(Ii (fun t:F9=>!t.used) l),0) ⟨by simp,Aem ht (by exact hs),by simp,fun _=>⟨by dsimp only;omega,by dsimp only;omega,by omega⟩⟩)
theorem Aex (l:List F9) (slot:Int) (hl:l.length<=1000000) (ht:∀t∈l,t.sec.length<=1000000):Ct 234 [.mTok l,.li slot] (fun d:List F9×Int=>.tup [.mTok d.1,.li d.2]) (fun d=>d.1.length<=l.length/\(∀t∈d.1,t.sec.length<=1000000)/\0<=d.2/\d.2<=99):=by
 refine Ev Tryz.func234 ?_
 refine Bq<|.seq ?_
 refine B8 Dy (Ahf l (by assumption) (by assumption)) ?_
 refine Br ?_ ?_<;>intro h10
 ·refine Bq ?_
  refine Bz (Fl ?_);simp[go_sem]
  exact⟨([],1),by rfl,⟨Ae _,fun t h=>absurd h A8,by decide⟩⟩
 have h8:=Aht l hl ht (by simpa using h10)
 refine Bp<|.seq<|.R ?_
 refine Br ?_ ?_<;>intro h16
 ·refine Bq ?_
  refine Bz (Fl ?_);simp[go_sem]
  exact⟨([],8),by rfl,⟨Ae _,fun t h=>absurd h A8,by decide⟩⟩
 refine Bp<|.seq ?_
 obtain⟨e1,H1⟩:=gx l slot.toNat
 refine Bu H1 ?_
 refine Br ?_ ?_<;>intro h22
 ·refine Bu H1 ?_
  refine Bz (Fl ?_);simp[go_sem,H1]
  exact⟨([],12),by rfl,⟨Ae _,fun t h=>absurd h A8,by decide⟩⟩
 refine Bp<|.L H1 (L5 l (by assumption) (by assumption))<|.seq ?_
 refine Bu H1<|.block ?_
 refine Bs l.length (fun i1 (y1:(List F9))=>⟨[(0,.mTok l),(1,.li slot),(6,.own 0 y1.length),(26,.li l.length),(27,.li i1)],[.row 73 6 false false (Pe y1)]⟩) (fun i1 y1=>y1.length=l.length/\∀t∈y1,t.sec.length<=1000000) (l) (wQ [0] ?_ ?_) (⟨rfl,ht⟩) fun i1 y1 hi1 hy1=>?_
 ·simp[go_sem,H1]
 ·simp[go_sem,H1]
 refine Bu H1<|.seq ?_
 refine Br ?_ ?_<;>intro h28
 ·refine Bp<|.seq<|.block<|.H H1 ?_
  refine B8 H1 (Tb l i1 slot) ?_
  refine Br ?_ ?_<;>intro h33
  ·obtain⟨e2,H2⟩:=gx y1 i1
   refine Dr (Fe H1 H2) (Ul) ?_
   refine B0 (Fe H1 H2) ?_
   refine⟨by omega,((y1).set i1 Us),?_,wQ [0] ?_ ?_⟩
   ·first | exact hy1 | exact⟨(List.length_set ..).trans hy1.1,Aem hy1.2 (by simp[Us])⟩
   all_goals simp[go_sem,Dw ((i1:Int)+1),H1,H2]
  refine Bp<|.H1 H1 ?_
  refine⟨by omega,(y1),?_,wQ [0] ?_ ?_⟩
  ·exact hy1
  all_goals simp[go_sem,Dw ((i1:Int)+1),H1]
 refine Bt<|.H H1 ?_
 refine Dj 0 ?_
 simp[go_sem]
 refine Bz (Fl ?_);simp[go_sem,H1]
 exact⟨(y1,0),by rfl,⟨Nat.le_of_eq hy1.1,hy1.2,by simp⟩⟩
section
variable (m:Dz) (h:1<=m.args.length) (h2:m.args.length<=1000000)
include h h2
theorem Qz:Ct 235 [m.g] (fun d:Dz=>d.g) (fun d=>d.kind=14/\d.tok=[]/\d.data=[]/\d.args.length=2/\∃v,m.args[0]? = some v/\d.args=[m.kind,v]):=by
 refine Ev Tryz.func235 ?_
 refine Bq ?_
 obtain⟨e1,H1⟩:=gx m.args 0
 refine C9 H1 ?_
 refine B2 Dy 2 ?_
 exact .ret (Eu H1 ⟨14,[],[m.kind,e1],[]⟩ ⟨rfl,rfl,rfl,rfl,e1,H1,rfl⟩)
def Gq:Dz:=(Eo (Qz m h h2)).choose
theorem Q6:PP 235 [] [m.g] [] (.agg ((Gq m h h2).a false)):=(Eo (Qz m h h2)).choose_spec.1
theorem W5:(Gq m h h2).kind=14/\(Gq m h h2).tok=[]/\(Gq m h h2).data=[]/\(Gq m h h2).args.length=2/\∃v,m.args[0]? = some v/\(Gq m h h2).args=[m.kind,v]:=(Eo (Qz m h h2)).choose_spec.2
end
section
variable (n:Int) (a:Hy) (h1:a.sec.length<=1000000) (h2:a.lims.length<=1000000)
include n h1 h2
theorem Q0:Ct 82 [.li n,a.g] (fun d:Jw=>d.g) (fun d=>d.num=n/\d.ag=a/\d.toks=J0 a h1/\d.vehs=[]/\d.bk=Amx a.ra a.bu):=by
 refine Ev Tryz.func82 ?_
 refine Bq ?_
 refine Cw (fun K kk=>by simp[go_sem];refine .l (Nf a (by assumption) (by assumption)) ?_;simp[go_sem];refine .l (Al5 a (by assumption)) ?_;simp[go_sem];refine .l (Ao0 a.ra a.bu) ?_;simp[go_sem];exact kk) ?_
 exact .ret (Eu Dy ⟨n,a,(J0 a (by assumption)),[],(Amx a.ra a.bu)⟩ ⟨rfl,rfl,rfl,rfl,rfl⟩)
def G5:Jw:=(Eo (Q0 n a h1 h2)).choose
theorem Ae8:PP 82 [] [.li n,a.g] [] (.agg ((G5 n a h1 h2).a false)):=(Eo (Q0 n a h1 h2)).choose_spec.1
theorem W6:(G5 n a h1 h2).num=n/\(G5 n a h1 h2).ag=a/\(G5 n a h1 h2).toks=J0 a h1/\(G5 n a h1 h2).vehs=[]/\(G5 n a h1 h2).bk=Amx a.ra a.bu:=(Eo (Q0 n a h1 h2)).choose_spec.2
end
theorem Ag0 (l:List F9) (ag:Int) (b:List Int) (kind:Int) (now:Int) (hl:l.length<=1000000) (ht:∀t∈l,t.sec.length<=1000000) (hb:b.length<=1000000):Ct 208 [.mTok l,.li ag,.mY b,.li kind,.li now] (fun d:Int×Int=>.tup [.li d.1,.li d.2]) (fun d=>d.2=0->Iu l d.1=true):=by
 refine Ev Tryz.func208 ?_
 refine Bq<|.seq ?_
 by_cases hc1:b.length=10
 ·have hg1:((b.length:Int) != 10)=false:=by simp[hc1]
  obtain⟨e1,H1⟩:=gx b 0
  refine Bu (Fe hg1 H1) ?_
  refine Br ?_ ?_<;>intro h24
  ·refine Bu (Fe hg1 H1) ?_
   exact .ret (Eu (Fe hg1 H1) (0,9) (by first | exact fun _=>h32 | (intro h;simp at h;done)))
  refine Bp ?_
  obtain⟨e2,H2⟩:=gx b 1
  refine Bu (I1 hg1 H1 H2)<|.seq ?_
  refine B8 (I1 hg1 H1 H2) (Qg l (IntKind.i64.wrap e2)) ?_
  refine Br ?_ ?_<;>intro h32
  ·refine Bu (I1 hg1 H1 H2) ?_
   exact .ret (Eu (I1 hg1 H1 H2) (0,9) (by first | exact fun _=>h32 | (intro h;simp at h;done)))
  obtain⟨hp0,tp,hp1,hp2⟩:=Q7 (by simpa using h32)
  have hp3:=(Ab.1 hp1).1
  refine Bp ?_
  obtain⟨e3,H3⟩:=gx l ((IntKind.i64.wrap e2).toNat)
  refine Bu (O4 hg1 H1 H2 H3)<|.seq ?_
  refine Dc (by kernel_rfl) (by rfl) (by kernel_rfl) fun K1 hK1=>?_
  simp[go_sem,hg1,H1,H2,H3]
  repeat' with_reducible refine Ax ?_ ?_
  all_goals try (intros;(repeat' refine Ax ?_ ?_)<;>omega)
  obtain⟨Y1,cY1,qY1⟩:=Eo (Ahb (b.drop 2) e3.sec (by simp;omega) (ht e3 (Ac H3)))
  refine .lo cY1 (by simp[go_sem,Bf (show (tY b).length<=b.length by simp)]) (by simp[AV.cln,Ff]) ?_
  simp[go_sem,hg1,H1,H2,H3]
  refine O5 (by simp[go_sem]) (by simp[go_sem]) ?_
  simp[go_sem,hg1,H1,H2,H3]
  refine .lo (Vj e3 now) rfl (by simp[AV.cln,Ff]) ?_
  simp[go_sem,hg1,H1,H2,H3]
  refine O5 (by simp[go_sem]) (by simp[go_sem]) ?_
  simp[go_sem,hg1,H1,H2,H3]
  refine .lo (Abi e3.ri kind) rfl (by simp[AV.cln,Ff]) ?_
  simp[go_sem,hg1,H1,H2,H3]
  refine hK1 _ _ (by kernel_rfl) ?_;clear hK1
  refine Br ?_ ?_<;>intro h54
  ·refine Bu (O4 hg1 H1 H2 H3) ?_
   exact .ret (Eu (O4 hg1 H1 H2 H3) (0,9) (by first | exact fun _=>h32 | (intro h;simp at h;done)))
  refine Bp<|.H (O4 hg1 H1 H2 H3) ?_
  exact .ret (Eu (O4 hg1 H1 H2 H3) (IntKind.i64.wrap e2,0) (by exact fun _=>h32))
 have hg1:((b.length:Int) != 10)=true:=by simp[hc1];omega
 refine Bu hg1 ?_
 refine Ck ?_ ?_<;>intro h24<;>simp[go_sem] at h24
 refine Bu hg1 ?_
 exact .ret (Eu hg1 (0,9) (by first | exact fun _=>h32 | (intro h;simp at h;done)))
theorem Abc (r:Jw) (hb:Qb r):Ct 231 [r.g] (fun d:Bool=>.lb d) (fun d=>True):=by
 refine Ev Tryz.func231 ?_
 refine Bq ?_
 refine B4 (by rfl) fun K1 hK1=>?_
 simp +contextual[go_sem]
 refine Qc ?_
 simp +contextual[go_sem]
 refine .lo (Yd r.ag hb.sec hb.lims) rfl (by simp[AV.cln,Ff]) ?_
 simp +contextual[go_sem]
 refine Qc ?_
 simp +contextual[go_sem]
 obtain⟨Y1,cY1,qY1⟩:=Eo (Ls r.toks hb.toks hb.tsec)
 refine .lo cY1 rfl (by simp[AV.cln,Ff]) ?_
 simp +contextual[go_sem]
 refine Qc ?_
 simp +contextual[go_sem]
 obtain⟨Y2,cY2,qY2⟩:=Eo (L3 r.vehs hb.vehs)
 refine .lo cY2 rfl (by simp[AV.cln,Ff]) ?_
 simp +contextual[go_sem]
 refine Qc ?_
 simp +contextual[go_sem]
 obtain⟨Y3,cY3,qY3⟩:=Eo (Ajg r.bk)
 refine .lo cY3 rfl (by simp[AV.cln,Ff]) ?_
 simp +contextual[go_sem]
 refine hK1 _ ?_;clear hK1
 refine Bz (Fl ?_);simp[go_sem]
 exact⟨_,by rfl,trivial⟩
def LvR (k:Int) (a b:Ji):Prop:=if 2<=k/\k<=8 then Re a=(b,true) else b=a
section
variable (r:Jw) (m:Dz) (now:Int) (hb:Qb r) (h:m.tok.length<=1000000)
include now hb h
theorem Po:Ct 188 [r.g,m.g,.li now] (fun d:Jw×Int×Int=>.tup [d.1.g,.li d.2.1,.li d.2.2]) (fun d=>(d.2.2=0->(∃bk,d.1={ r with bk:=bk }/\LvR m.kind r.bk bk)/\Iu r.toks d.2.1=true)/\0<=d.2.2/\d.2.2<=99):=by
 refine Ev Tryz.func188 ?_
 refine Bq ?_
 obtain⟨Y1,cY1,qY1⟩:=Eo (Ag0 r.toks r.num m.tok m.kind now hb.toks hb.tsec h)
 refine B8 Dy cY1<|.seq ?_
 refine Bq ?_
 refine Br ?_ ?_<;>intro h28
 ·refine Bq ?_
  exact .ret (Eu Dy (⟨0,⟨[],0,0,[],0,0,0,0⟩,[],[],⟨0,0,0⟩⟩,0,9) ⟨fun h=>absurd h (by decide),by decide⟩)
 refine Bp<|.L Dy (Oo r hb)<|.seq ?_
 refine Bq ?_
 refine Br ?_ ?_<;>intro h39
 ·refine B8 Dy (Al7 r.bk)<|.seq ?_
  refine Bq ?_
  refine Br ?_ ?_<;>intro h47
  ·refine Bq ?_
   exact .ret (Eu Dy (⟨0,⟨[],0,0,[],0,0,0,0⟩,[],[],⟨0,0,0⟩⟩,0,13) ⟨fun h=>absurd h (by decide),by decide⟩)
  refine Bp<|.R1 ?_
  refine Bq ?_
  exact .ret (Eu Dy (⟨r.num,r.ag,r.toks,r.vehs,(Re r.bk).1⟩,Y1.1,0) ⟨fun _=>⟨⟨_,rfl,by unfold LvR;rw[if_pos h39];exact Prod.ext rfl h47⟩,qY1 (by simpa using h28)⟩,by simp⟩)
 refine Bp<|.R ?_
 exact .ret (Eu Dy (r,Y1.1,0) ⟨fun _=>⟨⟨_,rfl,by unfold LvR;rw[if_neg (by omega)]⟩,qY1 (by simpa using h28)⟩,by simp⟩)
def Gt:Jw×Int×Int:=(Eo (Po r m now hb h)).choose
theorem Adp:PP 188 [] [r.g,m.g,.li now] [] (.tup [.agg ((Gt r m now hb h).1.a false),.lit (.int .i64 (Gt r m now hb h).2.1),.lit (.int .i64 (Gt r m now hb h).2.2)]):=(Eo (Po r m now hb h)).choose_spec.1
theorem P6:((Gt r m now hb h).2.2=0->(∃bk,(Gt r m now hb h).1={ r with bk:=bk }/\LvR m.kind r.bk bk)/\Iu r.toks (Gt r m now hb h).2.1=true)/\0<=(Gt r m now hb h).2.2/\(Gt r m now hb h).2.2<=99:=(Eo (Po r m now hb h)).choose_spec.2
end
theorem Xy (r:Jw) (l:List Int) (slot:Int) (hb:Qb r) (hl:2<=l.length) (hl2:l.length<=1000000) (h0:0<=slot) (h1:slot<r.toks.length):Ct 236 [r.g,.mI l,.li slot] (fun d:List Hl×Int=>.tup [.mVeh d.1,.li d.2]) (fun d=>d.1.length<=8/\0<=d.2/\d.2<=99):=by
 refine Ev Tryz.func236 ?_
 iterate 2 refine Bq ?_
 obtain⟨e1,H1⟩:=gx r.toks slot.toNat
 refine C9 H1 ?_
 obtain⟨e2,H2⟩:=gx l 0
 obtain⟨e3,H3⟩:=gx l 1
 obtain⟨Y1,cY1,qY1⟩:=Eo (Yu r.vehs ⟨r.ag.sec,r.ag.ri,(if e1.cls<r.ag.cls then e1.cls else r.ag.cls),r.ag.lims,r.ag.rq,r.ag.se,r.ag.ra,r.ag.bu⟩ ⟨e2,e3⟩ hb.vehs)
 refine Dd (I1 H1 H2 H3) cY1 ?_
 exact .ret (Eu (I1 H1 H2 H3) (Y1.1,Y1.2) qY1)
section
variable (l:List Er) (i:Int) (hl:l.length<=1000000) (hg:∀r∈l,r.legs.length<=1000000)
include i hl hg
theorem Oi:Ct 214 [.mReq l,.li i] (fun d:List Er×Int=>.tup [.mReq d.1,.li d.2]) (fun d=>d.1.length<=l.length/\(∀r∈d.1,r.legs.length<=1000000)/\((∀r∈l,V0 r)->∀r∈d.1,V0 r)/\0<=d.2/\d.2<=99):=by
 refine Ev Tryz.func214 ?_
 refine Bq<|.seq ?_
 obtain⟨Y1,cY1,qY1⟩:=Eo (Pm l 4 (by assumption) (by assumption))
 refine B8 Dy cY1 ?_
 refine Br ?_ ?_<;>intro h8
 ·refine Bq ?_
  exact .ret (Eu Dy ([],1) ⟨Ae _,fun t h=>absurd h A8,fun _ t h=>absurd h A8,by decide⟩)
 refine Bp<|.seq<|.L Dy (Pz l i (by assumption)) ?_
 refine Br ?_ ?_<;>intro h12
 ·refine Bq ?_
  exact .ret (Eu Dy ([],12) ⟨Ae _,fun t h=>absurd h A8,fun _ t h=>absurd h A8,by decide⟩)
 refine Bp ?_
 refine VX.sel1 0 rfl rfl (by simp) ?_
 simp[go_sem,-Prod.exists]
 refine B3 (fun K kk=>by simp[go_sem];refine .lo (Nd l _ [.iptr false [.li i] 0] (fun r=>r.id != i) hl hg (Wr _) (Y8 i)) (by simp[go_sem]) (by simp[AV.cln,Ff]) ?_;simp[go_sem];exact kk) ?_
 exact .ret (Eu Dy ((List.filter (fun r:Er=>r.id != i) l),0) ⟨Az _ _,fun r h=>hg r ((Bn.1 h).1),fun hB r h=>hB r ((Bn.1 h).1),by simp⟩)
def Gx:List Er×Int:=(Eo (Oi l i hl hg)).choose
theorem Abn:PP 214 [] [.mReq l,.li i] [] (.tup [.imm false 5 (Hb (Gx l i hl hg).1),.lit (.int .i64 (Gx l i hl hg).2)]):=(Eo (Oi l i hl hg)).choose_spec.1
theorem Abv:(Gx l i hl hg).1.length<=l.length/\(∀r∈(Gx l i hl hg).1,r.legs.length<=1000000)/\((∀r∈l,V0 r)->∀r∈(Gx l i hl hg).1,V0 r)/\0<=(Gx l i hl hg).2/\(Gx l i hl hg).2<=99:=(Eo (Oi l i hl hg)).choose_spec.2
end
section
variable {n:Int}
theorem Ayj (h0:0<=n) (h1:n<4611686018427387904):Ey .and .i64 n 127=n % 128:=by
 obtain⟨m,rfl⟩:=Int.eq_ofNat_of_zero_le h0
 have e:(BitVec.ofInt 64 (m:Int) &&& BitVec.ofInt 64 127).toNat=m % 128:=by
  rw[BitVec.toNat_and,BitVec.ofInt_natCast,BitVec.toNat_ofNat,Nat.mod_eq_of_lt (by omega),show (BitVec.ofInt 64 127).toNat=2 ^ 7 - 1 from rfl,Nat.and_two_pow_sub_one_eq_mod]
 show IntKind.i64.wrap (((BitVec.ofInt 64 (m:Int) &&& BitVec.ofInt 64 127).toNat:Nat):Int)=_
 rw[e,Dw _]
 omega
theorem Az6:∀x:Fin 256,Ey .and .u8 (x.val:Int) 127=(x.val:Int) % 128:=by decide +kernel
theorem A14:∀x:Fin 128,Ey .or .u8 (x.val:Int) 128=(x.val:Int)+128:=by decide +kernel
theorem Alu {x:Int} (h:0<=x/\x<256):IntKind.u8.wrap x=x:=by
 simp[IntKind.wrap,IntKind.signed,IntKind.bits]
 omega
theorem At3 {f:Nat} (h0:0<=n) (h1:n<4611686018427387904):viN (f+1) n=if 128<=n then (n % 128+128)::viN f (n / 128) else [n]:=by
 rw[viN]
 by_cases h:128<=n
 ·have e:n.fdiv (2 ^ min 7 64)=n / 128:=by rw[Int.fdiv_eq_ediv_of_nonneg _ (by decide)];rfl
  have h3:=A14 ⟨(n % 128).toNat,by omega⟩
  rw[show (((⟨(n % 128).toNat,by omega⟩:Fin 128).val:Nat):Int)=n % 128 by show ((n % 128).toNat:Int)=_;omega] at h3
  rw[if_pos h,if_pos h,e,Ayj h0 h1,Alu (by omega),h3]
 rw[if_neg h,if_neg h,Alu (by omega)]
theorem Azq {a d:Int} {k:Nat} (ha:0<=a) (ha2:a<2 ^ k) (hd:0<=d) (hd2:d<128) (hk:k<=28):Ey .or .i64 a (d*2 ^ k)=a+d*2 ^ k:=by
 obtain⟨m,rfl⟩:=Int.eq_ofNat_of_zero_le ha
 obtain⟨q,rfl⟩:=Int.eq_ofNat_of_zero_le hd
 have hp:(2:Nat) ^ k<=2 ^ 28:=Nat.pow_le_pow_right (by decide) hk
 have hm:m<2 ^ k:=by exact_mod_cast ha2
 have hq:q*2 ^ k<=127*2 ^ 28:=Nat.mul_le_mul (by omega) hp
 have e:((q:Int)*2 ^ k)=((q*2 ^ k:Nat):Int):=by push_cast;rfl
 rw[e,Apl (by omega) (by omega) (by omega) (by omega),Int.toNat_natCast,Int.toNat_natCast,Nat.or_comm,Nat.mul_comm,<- Nat.two_pow_add_eq_or_of_lt hm]
 push_cast
 omega
variable {l:List Int}
theorem Aid {i f:Nat} {a x:Int} (h:l[i]? = some x) (hi:i<5) (hx:0<=x/\x<256) (ha:0<=a) (ha2:a<2 ^ (7*i)):Ui l (f+1) a i=if 128<=x then Ui l f (a+x % 128*2 ^ (7*i)) (i+1) else if 4294967295<a+x % 128*2 ^ (7*i)\/(0<i/\x=0) then (0,0,6) else (a+x % 128*2 ^ (7*i),(i:Int)+1,0):=by
 have h3:=Az6 ⟨x.toNat,by omega⟩
 rw[show (((⟨x.toNat,by omega⟩:Fin 256).val:Nat):Int)=x by show (x.toNat:Int)=_;omega] at h3
 have hm:min (7*(i:Int)).toNat 64=7*i:=by omega
 have hp:(2:Nat) ^ (7*i)<=2 ^ 28:=Nat.pow_le_pow_right (by decide) (by omega)
 have hp2:((2:Int) ^ (7*i))=((2 ^ (7*i):Nat):Int):=by push_cast;rfl
 have h0:0<=x % 128*2 ^ (7*i):=Int.mul_nonneg (by omega) (by rw[hp2];omega)
 have h1:x % 128*2 ^ (7*i)<=127*268435456:=Int.mul_le_mul (by omega) (by rw[hp2];omega) (by rw[hp2];omega) (by decide)
 have e:Ey .or .i64 a (IntKind.i64.wrap (IntKind.i64.wrap (Ey .and .u8 x 127)*2 ^ min (7*(i:Int)).toNat 64))=a+x % 128*2 ^ (7*i):=by
  rw[h3,hm,Dw (x % 128),Dw _,Azq ha ha2 (by omega) (by omega) (by omega)]
 rw[Aeh h,e,if_neg (by omega)]
theorem Al1:∀(k:Nat) {l r:List Int} {i:Nat} {a m:Int},i+k=5->0<=a->a<2 ^ (7*i)->0<=m->a+m*2 ^ (7*i)<=4294967295->(0<i->1<=m)->(∀j,l[i+j]? = (viN k m++r)[j]?)->Ui l (k+1) a i=(a+m*2 ^ (7*i),(i:Int)+(viN k m).length,0)
 | 0,l,r,i,a,m,hi,ha,ha2,hm,hb,h1,hl=>by
  have:i=5:=by omega
  subst this
  have:=h1 (by omega)
  rw[show (2:Int) ^ (7*5)=34359738368 from rfl] at hb
  omega
 | k+1,l,r,i,a,m,hi,ha,ha2,hm,hb,h1,hl=>by
  have hp:(1:Int)<=2 ^ (7*i):=by
   have:(1:Nat)<=2 ^ (7*i):=Nat.one_le_two_pow
   exact_mod_cast this
  have hmb:m<=m*2 ^ (7*i):=by
   have:=Int.mul_le_mul_of_nonneg_left hp hm
   omega
  have hN:=At3 (f:=k) hm (by omega)
  have h0:=hl 0
  rw[hN] at h0 hl ⊢
  have hp2:(2:Int) ^ (7*(i+1))=2 ^ (7*i)*128:=by rw[show 7*(i+1)=7*i+7 by omega,Int.pow_add];rfl
  by_cases h:128<=m
  ·rw[if_pos h] at h0 hl ⊢
   have h0:l[i]? = some (m % 128+128):=h0
   rw[Aid h0 (by omega) (by omega) ha ha2,if_pos (by omega),show (m % 128+128) % 128=m % 128 by omega]
   generalize hd:m % 128=d
   generalize hq:m / 128=q
   have hm2:m=128*q+d:=by omega
   generalize hpp:(2:Int) ^ (7*i)=p at *
   have hdp:d*p<=127*p:=Int.mul_le_mul_of_nonneg_right (by omega) (by omega)
   have hdn:0<=d*p:=Int.mul_nonneg (by omega) (by omega)
   have e1:a+d*p+q*(p*128)=a+m*p:=by rw[hm2,Int.add_mul,Int.mul_comm p 128,<- Int.mul_assoc,Int.mul_comm q 128];omega
   rw[Al1 k (r:=r) (m:=q) (by omega) (by omega) (by rw[hp2];omega) (by omega) (by rw[hp2];omega) (fun _=>by omega) (fun j=>by
    have:=hl (j+1)
    rw[hq] at this
    rw[show i+1+j=i+(j+1) by omega,this]
    rfl),hp2,e1]
   simp only[A6,Prod.mk.injEq,true_and,and_true]
   push_cast
   omega
  rw[if_neg h] at h0 hl ⊢
  have h0:l[i]? = some m:=h0
  rw[Aid h0 (by omega) (by omega) ha ha2,if_neg h,show m % 128=m by omega,if_neg (by omega)]
  rfl
theorem Arr (r:List Int) (h:(Gl n).2=0):Q3 ((Gl n).1++r)=(n,((Gl n).1.length:Int),0):=by
 unfold Gl at h ⊢
 by_cases hn:n<0\/4294967295<n
 ·rw[if_pos hn] at h;cases h
 rw[if_neg hn]
 have:=Al1 5 (l:=viN 5 n++r) (r:=r) (i:=0) (a:=0) (m:=n) rfl (by decide) (by decide) (by omega) (by simp;omega) (fun h=>absurd h (by decide)) (fun j=>by rw[Bm])
 rw[Q3,this]
 simp
theorem Aqo:∀(f:Nat) (n:Int),(viN f n).length<=f+1
 | 0,n=>by simp[viN]
 | f+1,n=>by
  rw[viN]
  split
  ·simp[Aqo f]
  simp
theorem Ej (n:Int):(Gl n).1.length<=6:=by
 unfold Gl
 split
 ·simp
 exact Aqo 5 n
def codes (l:List Int):List Int:=(l.map fun a=>(Gl a).1).flatten
def N6 (l:List Int):Prop:=∀a∈l,(Gl a).2=0
theorem Ajb:codes []=[]:=rfl
theorem Xx (a b:List Int):codes (a++b)=codes a++codes b:=by simp[codes]
theorem Acb (a:Int):codes [a]=(Gl a).1:=by simp[codes]
variable {i:Nat}
theorem Apw {e:Int} (h:l[i]? = some e):codes (l.take (i+1))=codes (l.take i)++(Gl e).1:=by rw[List.take_add_one,h,Xx];simp[codes]
theorem Af5 {l r:List Int} {y:List Int×List Int} (h:y=(l.take i,codes (l.drop i)++r)) (hv:N6 l) (hi:i<l.length):(Q3 y.2).2.2=0/\(y.1++[(Q3 y.2).1],y.2.drop (Q3 y.2).2.1.toNat)=(l.take (i+1),codes (l.drop (i+1))++r):=by
 have e:codes (l.drop i)++r=(Gl l[i]).1++(codes (l.drop (i+1))++r):=by
  rw[List.drop_eq_getElem_cons hi,<- List.append_assoc,<- Acb,<- Xx]
  rfl
 have hd:=Arr (codes (l.drop (i+1))++r) (hv l[i] (List.getElem_mem _))
 rw[h,e,hd]
 refine⟨rfl,?_⟩
 rw[List.take_add_one,Aa hi]
 simp
def vnl (n:Int):Nat:=if n<128 then 1 else if n<16384 then 2 else if n<2097152 then 3 else if n<268435456 then 4 else 5
theorem Alx (h:128<=n) (h2:n<=4294967295):vnl n=vnl (n / 128)+1:=by
 unfold vnl
 repeat' split
 all_goals omega
theorem Alz:∀(f:Nat) {n:Int},0<=n->n<=4294967295->n<128 ^ (f+1)->(viN f n).length=vnl n
 | 0,n,h0,h1,h2=>by
  have:n<128:=by simpa using h2
  rw[viN,vnl,if_pos this];rfl
 | f+1,n,h0,h1,h2=>by
  rw[At3 h0 (by omega)]
  by_cases h:128<=n
  ·rw[if_pos h,A6,Alx h h1,Alz f (by omega) (by omega) (by rw[Int.pow_succ] at h2;omega)]
  rw[if_neg h,vnl,if_pos (by omega)];rfl
theorem Uj (h:(Gl n).2=0):(Gl n).1.length=vnl n/\0<=n/\n<=4294967295:=by
 unfold Gl at h ⊢
 split
 ·rename_i h1;rw[if_pos h1] at h;cases h
 exact⟨Alz 5 (by omega) (by omega) (by rw[show (128:Int) ^ (5+1)=4398046511104 from rfl];omega),by omega,by omega⟩
def M0 (l:List Int):Nat:=(l.map vnl).sum
theorem Aib {e:Int} (h:l[i]? = some e):M0 (l.take (i+1))=M0 (l.take i)+vnl e:=by
 unfold M0
 rw[List.take_add_one,h]
 simp
theorem K5:∀{l:List Int},N6 l->(codes l).length=M0 l
 | [],_=>rfl
 | a::l,h=>by
  have h1:=(Uj (h a (List.mem_cons_self ..))).1
  have h2:=K5 (l:=l) fun b hb=>h b (List.mem_cons_of_mem _ hb)
  show ((Gl a).1++codes l).length=vnl a+M0 l
  rw[Bo,h1,h2]
end
section
section
variable (k:Int)
include k
def Sc:Option Gk:=if k=13\/k=14\/k=15 then some ⟨0,2,0,0,0,0⟩ else if k=16 then some ⟨0,1,0,0,0,10⟩ else if k=17 then some ⟨0,1,0,0,0,-1⟩ else if k=18 then some ⟨0,1,3,0,16,0⟩ else if k=19 then some ⟨0,0,2,0,4,0⟩ else if k=20 then some ⟨0,4,0,0,0,0⟩ else none
theorem M7:Ct 74 [.li k] (fun d:Gk×Bool=>.tup [d.1.g,.lb d.2]) (fun d=>(0<=d.1.tok/\∀s,Sc k=some s->d=(s,true))/\d.1.tok<=10/\0<=d.1.fix/\d.1.fix<=4/\0<=d.1.grp/\d.1.grp<=4/\0<=d.1.lea/\d.1.mos<=100/\(k=2->d.1.fix=3)/\(k=4->d.1.fix=2)/\(k=6->d.1.fix=3)/\((k=3\/k=5\/k=7\/k=8\/k=10\/k=11)->d.1.fix=1)):=by
 refine Ev Tryz.func74 ?_
 refine Bq<|.seq ?_
 refine Bq<|.block ?_
 refine Ce (by rfl) fun K1 hK1=>?_
 simp[go_sem]
 refine hK1 _ ⟨_,_,_,_,_,_,_,_,rfl,.more (by decide) rfl rfl (.one (by decide) rfl rfl),by decide,rfl,by simp[go_sem];rfl,by simp[go_sem];rfl,by simp[go_sem],?_⟩;clear hK1
 refine Br ?_ ?_<;>intro h5
 ·refine Bq ?_
  exact .ret (Eu Dy (⟨10,0,0,0,0,0⟩,true) ⟨⟨by (try dsimp only);omega,(fun s hs=>by unfold Sc at hs;(repeat' split at hs)<;>first | (exfalso;omega) | (cases hs;done))⟩,by (try dsimp only);omega⟩)
 refine Bq ?_
 refine Br ?_ ?_<;>intro h10
 ·refine Bq ?_
  exact .ret (Eu Dy (⟨10,3,0,0,0,0⟩,true) ⟨⟨by (try dsimp only);omega,(fun s hs=>by unfold Sc at hs;(repeat' split at hs)<;>first | (exfalso;omega) | (cases hs;done))⟩,by (try dsimp only);omega⟩)
 refine Ce (by rfl) fun K1 hK1=>?_
 simp[go_sem]
 refine hK1 _ ⟨_,_,_,_,_,_,_,_,rfl,.more (by decide) rfl rfl (.more (by decide) rfl rfl (.more (by decide) rfl rfl (.one (by decide) rfl rfl))),by decide,rfl,by simp[go_sem];rfl,by simp[go_sem];rfl,by simp[go_sem],?_⟩;clear hK1
 refine Br ?_ ?_<;>intro h13
 ·refine Bq ?_
  exact .ret (Eu Dy (⟨10,1,0,0,0,0⟩,true) ⟨⟨by (try dsimp only);omega,(fun s hs=>by unfold Sc at hs;(repeat' split at hs)<;>first | (exfalso;omega) | (cases hs;done))⟩,by (try dsimp only);omega⟩)
 refine Bq ?_
 refine Br ?_ ?_<;>intro h20
 ·refine Bq ?_
  exact .ret (Eu Dy (⟨10,2,0,0,0,0⟩,true) ⟨⟨by (try dsimp only);omega,(fun s hs=>by unfold Sc at hs;(repeat' split at hs)<;>first | (exfalso;omega) | (cases hs;done))⟩,by (try dsimp only);omega⟩)
 refine Bq ?_
 refine Br ?_ ?_<;>intro h23
 ·refine Bq ?_
  exact .ret (Eu Dy (⟨10,3,4,1,3,0⟩,true) ⟨⟨by (try dsimp only);omega,(fun s hs=>by unfold Sc at hs;(repeat' split at hs)<;>first | (exfalso;omega) | (cases hs;done))⟩,by (try dsimp only);omega⟩)
 refine Bq ?_
 refine Br ?_ ?_<;>intro h26
 ·refine Bq ?_
  exact .ret (Eu Dy (⟨10,1,2,1,3,0⟩,true) ⟨⟨by (try dsimp only);omega,(fun s hs=>by unfold Sc at hs;(repeat' split at hs)<;>first | (exfalso;omega) | (cases hs;done))⟩,by (try dsimp only);omega⟩)
 refine Ce (by rfl) fun K1 hK1=>?_
 simp[go_sem]
 refine hK1 _ ⟨_,_,_,_,_,_,_,_,rfl,.more (by decide) rfl rfl (.one (by decide) rfl rfl),by decide,rfl,by simp[go_sem];rfl,by simp[go_sem];rfl,by simp[go_sem],?_⟩;clear hK1
 refine Br ?_ ?_<;>intro h29
 ·refine Bq ?_
  exact .ret (Eu Dy (⟨0,2,0,0,0,0⟩,true) ⟨⟨by (try dsimp only);omega,(fun s hs=>by unfold Sc at hs;(repeat' split at hs)<;>first | (exfalso;omega) | (cases hs;done) | (cases hs;rfl))⟩,by (try dsimp only);omega⟩)
 refine Bq ?_
 refine Br ?_ ?_<;>intro h34
 ·refine Bq ?_
  exact .ret (Eu Dy (⟨0,1,0,0,0,10⟩,true) ⟨⟨by (try dsimp only);omega,(fun s hs=>by unfold Sc at hs;(repeat' split at hs)<;>first | (exfalso;omega) | (cases hs;done) | (cases hs;rfl))⟩,by (try dsimp only);omega⟩)
 refine Ce (by rfl) fun K1 hK1=>?_
 simp[go_sem]
 refine hK1 _ ⟨_,_,_,_,_,_,_,_,rfl,.one (by decide) rfl rfl,by decide,rfl,by simp[go_sem];rfl,by simp[go_sem];rfl,by simp[go_sem],?_⟩;clear hK1
 refine Br ?_ ?_<;>intro h37
 ·refine Bq ?_
  exact .ret (Eu Dy (⟨0,1,0,0,0,(-1)⟩,true) ⟨⟨by (try dsimp only);omega,(fun s hs=>by unfold Sc at hs;(repeat' split at hs)<;>first | (exfalso;omega) | (cases hs;done) | (cases hs;rfl))⟩,by (try dsimp only);omega⟩)
 refine Bq ?_
 refine Br ?_ ?_<;>intro h41
 ·refine Bq ?_
  exact .ret (Eu Dy (⟨0,1,3,0,16,0⟩,true) ⟨⟨by (try dsimp only);omega,(fun s hs=>by unfold Sc at hs;(repeat' split at hs)<;>first | (exfalso;omega) | (cases hs;done) | (cases hs;rfl))⟩,by (try dsimp only);omega⟩)
 refine Bq ?_
 refine Br ?_ ?_<;>intro h44
 ·refine Bq ?_
  exact .ret (Eu Dy (⟨0,0,2,0,4,0⟩,true) ⟨⟨by (try dsimp only);omega,(fun s hs=>by unfold Sc at hs;(repeat' split at hs)<;>first | (exfalso;omega) | (cases hs;done) | (cases hs;rfl))⟩,by (try dsimp only);omega⟩)
 refine Bq ?_
 refine Br ?_ ?_<;>intro h47
 ·refine Bq ?_
  exact .ret (Eu Dy (⟨0,4,0,0,0,0⟩,true) ⟨⟨by (try dsimp only);omega,(fun s hs=>by unfold Sc at hs;(repeat' split at hs)<;>first | (exfalso;omega) | (cases hs;done) | (cases hs;rfl))⟩,by (try dsimp only);omega⟩)
 refine Bq ?_
 refine Br ?_ ?_<;>intro h50
 ·refine Bq ?_
  exact .ret (Eu Dy (⟨0,1,0,0,0,0⟩,true) ⟨⟨by (try dsimp only);omega,(fun s hs=>by unfold Sc at hs;(repeat' split at hs)<;>first | (exfalso;omega) | (cases hs;done))⟩,by (try dsimp only);omega⟩)
 refine Bp<|.R ?_
 exact .ret (Eu Dy (⟨0,0,0,0,0,0⟩,false) ⟨⟨by (try dsimp only);omega,(fun s hs=>by unfold Sc at hs;(repeat' split at hs)<;>first | (exfalso;omega) | (cases hs;done))⟩,by (try dsimp only);omega⟩)
def D0:Gk×Bool:=(Eo (M7 k)).choose
theorem Ry:PP 74 [] [.li k] [] (.tup [.agg ((D0 k).1.a false),.lit (.bool (D0 k).2)]):=(Eo (M7 k)).choose_spec.1
theorem Hr:(0<=(D0 k).1.tok/\∀s,Sc k=some s->(D0 k)=(s,true))/\(D0 k).1.tok<=10/\0<=(D0 k).1.fix/\(D0 k).1.fix<=4/\0<=(D0 k).1.grp/\(D0 k).1.grp<=4/\0<=(D0 k).1.lea/\(D0 k).1.mos<=100/\(k=2->(D0 k).1.fix=3)/\(k=4->(D0 k).1.fix=2)/\(k=6->(D0 k).1.fix=3)/\((k=3\/k=5\/k=7\/k=8\/k=10\/k=11)->(D0 k).1.fix=1):=(Eo (M7 k)).choose_spec.2
end
section
variable (l:List Fz) (st:Int) (hl:l.length<=1000000)
include st hl
theorem Q1:Ct 176 [.mLight l,.li st] (fun d:List Int=>.mI d) (fun d=>d.length=l.length):=by
 refine Ev Tryz.func176 ?_
 refine Bq ?_
 refine Bu Dy<|.seq ?_
 refine Bq<|.block ?_
 refine Bs l.length (fun i1 (y1:(List Int))=>⟨[(1,.li st),(5,.own 0 y1.length),(11,.mLight l),(12,.li l.length),(13,.li i1)],[.row 3 1 false false (tI y1)]⟩) (fun i1 y1=>y1.length=l.length) (List.replicate l.length 0) (wk Dy [0]) (by simp) fun i1 y1 hi1 hy1=>?_
 refine Bq<|.seq ?_
 refine Br ?_ ?_<;>intro h14
 ·refine Bp<|.seq<|.block ?_
  obtain⟨e1,H1⟩:=gx l i1
  refine Bu H1 ?_
  obtain⟨e2,H2⟩:=gx y1 i1
  refine Bu (Fe H1 H2) ?_
  refine Ds 0 rfl (by simp) (fun x:Int=>[T.lit (Value.int IntKind.i64 x)]) l.length ?_ fun R hR=>?_
  ·apply Kx
   ·repeat' first | exact Mt | exact Ms | exact Mr (x:=0) rfl | apply Ku | apply Kw | apply Kv | apply Qp | apply (fun h=>Qo (x:=_) h rfl)
   first | rfl | omega
  simp[go_sem,-Prod.exists]
  refine Bu (I1 H1 H2 hR) ?_
  refine Br ?_ ?_<;>intro h25
  ·obtain⟨e3,H3⟩:=gx R i1
   refine B0 (O4 H1 H2 hR H3) ?_
   refine B0 (O4 H1 H2 hR H3) ?_
   refine⟨by omega,((R).set i1 1),?_,wk (cj6 (Dw ((i1:Int)+1)) H1 H2 hR H3 hy1) [0]⟩
   first | omega | (simp;omega)
  refine Bp<|.H1 (I1 H1 H2 hR) ?_
  refine⟨by omega,(R),?_,wk (Yo (Dw ((i1:Int)+1)) H1 H2 hR hy1) [0]⟩
  omega
 refine Bt<|.R ?_
 refine B2 Dy 0 ?_
 exact .ret (Eu Dy y1 (by omega))
def Nn:List Int:=(Eo (Q1 l st hl)).choose
theorem Afa:PP 176 [] [.mLight l,.li st] [] (.mI (Nn l st hl)):=(Eo (Q1 l st hl)).choose_spec.1
theorem Afz:(Nn l st hl).length=l.length:=(Eo (Q1 l st hl)).choose_spec.2
end
theorem Akb {α β:Type} (f:α->β) (l:List α):List.take l.length (l.map f)=l.map f:=by rw[Bf (by simp)]
attribute [go_sem] Akb
theorem Aqq (l:List Int):∀(f:Nat) (n:Int) (i:Nat),(Ui l f n i).2.2=0->0<=(Ui l f n i).2.1/\(Ui l f n i).2.1<=l.length
 | 0,n,i,h=>by simp[Ui] at h
 | f+1,n,i,h=>by
  cases hx:l[i]? with
  | none=>simp[Ui,hx] at h
  | some x =>
   have hi:=(Ab.1 hx).1
   rw[Aeh hx] at h ⊢
   split at h
   ·simp at h
   rename_i h1
   rw[if_neg h1]
   split at h
   ·rename_i h2
    rw[if_pos h2]
    exact Aqq l f _ _ h
   rename_i h2
   rw[if_neg h2]
   split at h
   ·simp at h
   rename_i h3
   rw[if_neg h3]
   simp
   omega
variable {l:List Int}
theorem At6 (h:(Q3 l).2.2=0):0<=(Q3 l).2.1/\(Q3 l).2.1<=l.length:=Aqq l 6 0 0 h
theorem Az7 (x:Int):0<=Ey .and .u8 x 127/\Ey .and .u8 x 127<=127:=by
 have h:(BitVec.ofInt 8 x &&& BitVec.ofInt 8 127).toNat<=127:=by
  rw[BitVec.toNat_and]
  exact Ak Nat.and_le_right (by decide)
 show 0<=IntKind.u8.wrap (((BitVec.ofInt 8 x &&& BitVec.ofInt 8 127).toNat:Nat):Int)/\IntKind.u8.wrap (((BitVec.ofInt 8 x &&& BitVec.ofInt 8 127).toNat:Nat):Int)<=127
 generalize (BitVec.ofInt 8 x &&& BitVec.ofInt 8 127).toNat=y at h
 have:IntKind.u8.wrap (y:Int)=y:=by
  simp[IntKind.wrap,IntKind.signed,IntKind.bits]
  omega
 rw[this]
 omega
theorem Aqp (l:List Int):∀(f:Nat) (n:Int) (i:Nat),0<=n->n<34359738368->i<=5->NB (Ui l f n i).1
 | 0,n,i,_,_,_=>by simp[Ui,NB]
 | f+1,n,i,h1,h2,h3=>by
  cases hx:l[i]? with
  | none=>simp[Ui,hx,NB]
  | some x =>
   rw[Aeh hx]
   split
   ·simp[NB]
   rename_i h5
   obtain⟨ha,hb⟩:=Az7 x
   generalize Ey .and .u8 x 127=y at ha hb
   have hz:0<=IntKind.i64.wrap (IntKind.i64.wrap y*2 ^ min (7*(i:Int)).toNat 64)/\IntKind.i64.wrap (IntKind.i64.wrap y*2 ^ min (7*(i:Int)).toNat 64)<34359738368:=by
    rw[Dw y]
    obtain rfl | rfl | rfl | rfl | rfl:i=0\/i=1\/i=2\/i=3\/i=4:=by omega
    all_goals
     first | rw[show (2:Int) ^ min (7*((0:Nat):Int)).toNat 64=1 from rfl] | rw[show (2:Int) ^ min (7*((1:Nat):Int)).toNat 64=128 from rfl] | rw[show (2:Int) ^ min (7*((2:Nat):Int)).toNat 64=16384 from rfl] | rw[show (2:Int) ^ min (7*((3:Nat):Int)).toNat 64=2097152 from rfl] | rw[show (2:Int) ^ min (7*((4:Nat):Int)).toNat 64=268435456 from rfl]
     rw[Dw _]
     omega
   generalize IntKind.i64.wrap (IntKind.i64.wrap y*2 ^ min (7*(i:Int)).toNat 64)=z at hz
   have hn:=Apl h1 (by omega) hz.1 (by omega)
   have hlt:n.toNat ||| z.toNat<2 ^ 35:=Nat.or_lt_two_pow (by omega) (by omega)
   rw[hn]
   split
   ·exact Aqp l f _ _ (by omega) (by omega) (by omega)
   split
   ·simp[NB]
   rename_i h9
   exact⟨Int.natCast_nonneg _,by dsimp only;omega⟩
theorem Azs {x:Int} (h:∀a∈l,NB a) (hx:NB x):∀a∈l++[x],NB a:=fun a ha=>by
 rcases A0.1 ha with ha | ha
 ·exact h a ha
 rw[An.1 ha];exact hx
theorem At5 (l:List Int):NB (Q3 l).1:=Aqp l 6 0 0 (by omega) (by omega) (by omega)
theorem Lp (b:List Int) (n:Int) (hb:b.length<=1000000) (hn:0<=n) (hn2:n<=1000):∃d:List Int×List Int×Bool,PP 75 [] [.mY b,.li n] [.row 3 1 false false (tI d.1)] (.tup [.own 0 d.1.length,.mY d.2.1,.lb d.2.2])/\(d.1.length<=n.toNat/\d.2.1.length<=b.length/\(d.2.2=true->d.1.length=n.toNat)/\(d.2.2=false->d.1=[])/\(∀a∈d.1,NB a)/\∀l r,b=codes l++r->N6 l->(l.length:Int)=n->d=(l,r,true)):=by
 refine Nr (D:=List Int×List Int×Bool) (F:=fun d=>.tup [.own 0 d.1.length,.mY d.2.1,.lb d.2.2]) (S:=fun d=>[.row 3 1 false false (tI d.1)]) (Q:=fun d=>d.1.length<=n.toNat/\d.2.1.length<=b.length/\(d.2.2=true->d.1.length=n.toNat)/\(d.2.2=false->d.1=[])/\(∀a∈d.1,NB a)/\∀l r,b=codes l++r->N6 l->(l.length:Int)=n->d=(l,r,true)) Tryz.func75 rfl rfl rfl (by simp[Tryz.ntmps75]) ?_
 refine Bq ?_
 refine Bu Dy<|.seq ?_
 refine Bq<|.block ?_
 refine Bs n.toNat (fun i1 (y1:(List Int)×(List Int))=>⟨[(0,.mY y1.2),(7,.own 0 y1.1.length),(13,.li n),(14,.li i1)],[.row 3 1 false false (tI y1.1)]⟩) (fun i1 y1=>y1.1.length=i1/\y1.2.length<=b.length/\(∀a∈y1.1,NB a)/\∀l r,b=codes l++r->N6 l->(l.length:Int)=n->y1=(l.take i1,codes (l.drop i1)++r)) (List.replicate 0 0,b) (wk Dy [0]) (⟨rfl,Aj _,(fun a h=>by cases h),fun l r hb2 _ _=>by rw[hb2];rfl⟩) fun i1 y1 hi1 hy1=>?_
 refine Bq<|.seq ?_
 refine Br ?_ ?_<;>intro h15
 ·refine Bp<|.seq<|.block<|.L Dy (Adk y1.2 (by omega))<|.seq ?_
  refine Bq ?_
  refine Br ?_ ?_<;>intro h23
  ·refine Bq ?_
   refine Cf 4 3 1 (by decide) (k':=1) (by simp[go_sem]) ?_
   simp[go_sem,-Prod.exists]
   exact .ret ⟨([],[],false),rW Dy [1],(by exact⟨Ae _,Ae _,fun h=>absurd h Bool.false_ne_true,fun _=>rfl,(fun a h=>by cases h),fun l r hb2 hv2 hn3=>absurd (Af5 (hy1.2.2.2 l r hb2 hv2 hn3) hv2 (by omega)).1 h23⟩)⟩
  have hv:=At6 h23
  refine Bp<|.H Dy ?_
  refine B0 Dy ?_
  refine Ch ?_
  exact⟨by omega,(y1.1++([(Q3 y1.2).1]),y1.2.drop (((Q3 y1.2).2.1).toNat)),⟨by simp;omega,by simp;omega,Azs hy1.2.2.1 (At5 _),fun l r hb2 hv2 hn3=>(Af5 (hy1.2.2.2 l r hb2 hv2 hn3) hv2 (by omega)).2⟩,wk (Dw ((i1:Int)+1)) [0]⟩
 refine Bt<|.R ?_
 exact .ret ⟨(y1.1,y1.2,true),rW Dy [0],(by first | exact⟨Ae _,Ae _,fun h=>absurd h Bool.false_ne_true,fun _=>rfl,(fun a h=>by cases h),fun l r hb2 hv2 hn3=>absurd (Af5 (hy1.2.2.2 l r hb2 hv2 hn3) hv2 (by omega)).1 h23⟩ | (refine⟨?_,?_,fun _=>?_,fun h=>absurd h (by simp),hy1.2.2.1,fun l r hb2 hv2 hn3=>?_⟩<;>first | (have e:=hy1.2.2.2 l r hb2 hv2 hn3;rw[Bf (by omega),List.drop_eq_nil_of_le (by omega)] at e;rw[e];rfl) | (dsimp only;omega)))⟩
end
section
def Qa (s:Gk) (n:Int):Int×Bool:=if s.grp=0 then (0,n == s.fix) else if n - s.fix<0\/¬(n - s.fix).tmod s.grp=0 then (0,false) else ((n - s.fix).tdiv s.grp,decide (s.lea<=(n - s.fix).tdiv s.grp)&&decide ((n - s.fix).tdiv s.grp<=s.mos))
theorem A0q {a g:Int} (h:0<=a/\a<=1000000) (hg:0<=g):IntKind.i64.wrap (a.tdiv g)=a.tdiv g:=by
 have h1:0<=a.tdiv g:=Int.tdiv_nonneg h.1 hg
 have h2:a.tdiv g<=a:=Int.tdiv_le_self _ h.1
 exact Dw _
def msArgs (s:Gk) (l:List Int):List Int:=if 0<s.grp then codes (l.take s.fix.toNat)++(Gl (Qa s l.length).1).1++codes (l.drop s.fix.toNat) else codes l
def Tx (s:Gk) (l:List Int) (i:Nat):List Int:=if 0<s.grp/\s.fix<i then codes (l.take s.fix.toNat)++(Gl (Qa s l.length).1).1++codes ((l.take i).drop s.fix.toNat) else codes (l.take i)
theorem Asi {s:Gk} {l:List Int} {i:Nat} {e:Int} (hi:(i:Int)=s.fix) (hg:0<s.grp) (he:l[i]? = some e):Tx s l i++(Gl (Qa s l.length).1).1++(Gl e).1=Tx s l (i+1):=by
 have hn:s.fix.toNat=i:=by omega
 have hl:=(Ab.1 he).1
 unfold Tx
 rw[if_neg (by omega),if_pos ⟨hg,by omega⟩,hn,List.take_add_one,he,List.drop_append_of_le_length (by simp;omega),List.drop_eq_nil_of_le (by simp;omega)]
 simp[codes]
theorem Ash {s:Gk} {l:List Int} {i:Nat} {e:Int} (h0:0<=s.fix) (hn:¬((i:Int)=s.fix/\0<s.grp)) (he:l[i]? = some e):Tx s l i++(Gl e).1=Tx s l (i+1):=by
 have hl:=(Ab.1 he).1
 unfold Tx
 by_cases h:0<s.grp/\s.fix<(i:Int)
 ·rw[if_pos h,if_pos ⟨h.1,by omega⟩,List.take_add_one,he,List.drop_append_of_le_length (by simp;omega),Xx,List.append_assoc,List.append_assoc,List.append_assoc]
  simp[codes]
 rw[if_neg h,if_neg (by omega),Apw he]
theorem Apm {s:Gk} {l:List Int} (hi:(l.length:Int)=s.fix) (hg:0<s.grp):Tx s l l.length++(Gl (Qa s l.length).1).1=msArgs s l:=by
 have hn:s.fix.toNat=l.length:=by omega
 unfold Tx msArgs
 rw[if_neg (by omega),if_pos hg,hn,List.take_length,List.drop_eq_nil_of_le (Aj _),Ajb,List.append_nil]
theorem Asj {s:Gk} {l:List Int} (h0:0<=s.fix) (hg0:0<=s.grp) (hn:¬((l.length:Int)=s.fix/\0<s.grp)) (ho:(Qa s l.length).2=true):Tx s l l.length=msArgs s l:=by
 unfold Tx msArgs
 rw[List.take_length]
 by_cases hg:0<s.grp
 ·have:s.fix<=l.length:=by
   unfold Qa at ho
   rw[if_neg (by omega)] at ho
   split at ho
   ·cases ho
   omega
  rw[if_pos ⟨hg,by omega⟩,if_pos hg]
 rw[if_neg (by omega),if_neg hg]
variable {l:List Int}
theorem Ae3 {i:Nat} {e:Int} (h:N6 (l.take i)) (he:l[i]? = some e) (h0:(Gl e).2=0):N6 (l.take (i+1)):=fun a ha=>by
 rw[List.take_add_one,he] at ha
 rcases A0.1 ha with ha | ha
 ·exact h a ha
 rw[An.1 ha];exact h0
structure Ly (m:Dz):Prop where
  kind:(D0 m.kind).2=true
  tok:(m.tok.length:Int)=(D0 m.kind).1.tok
  dat:(D0 m.kind).1.dat = -1\/(m.data.length:Int)=(D0 m.kind).1.dat
  grp:(Qa (D0 m.kind).1 m.args.length).2=true
  dl:m.data.length<=200
  args:N6 m.args
  len:(m.tok++msArgs (D0 m.kind).1 m.args++m.data).length<=200
def Kr (m:Dz):List Int×Int:=by
 classical
 exact if Ly m then (m.tok++msArgs (D0 m.kind).1 m.args++m.data,0) else ([],6)
variable {m:Dz}
theorem Ank (h:¬Ly m):([],6)=Kr m:=(if_neg h).symm
theorem Aat {m:Dz} (h:Ly m) {y:List Int} (hy:y=m.tok++msArgs (D0 m.kind).1 m.args):(y++m.data,0)=Kr m:=by rw[hy];exact (if_pos h).symm
structure A0j (S:Gk×Bool) (b:List Int) (m:Dz):Prop where
  k:S.2=true
  bl:b.length<=200
  tl:S.1.tok<=b.length
  tk:b.take S.1.tok.toNat=m.tok
  dat:S.1.dat = -1\/(m.data.length:Int)=S.1.dat
  al:N6 m.args
  g0:S.1.grp=0->b.drop S.1.tok.toNat=codes m.args++m.data/\(m.args.length:Int)=S.1.fix
  g1:0<S.1.grp->∃g:Int,b.drop S.1.tok.toNat=codes (m.args.take S.1.fix.toNat)++(codes [g]++(codes (m.args.drop S.1.fix.toNat)++m.data))/\((m.args.take S.1.fix.toNat).length:Int)=S.1.fix/\N6 [g]/\S.1.lea<=g/\g<=S.1.mos/\((m.args.drop S.1.fix.toNat).length:Int)=g*S.1.grp
variable {b:List Int}
theorem A39 {k:Int} (hk:m.kind=k) (ho:Ly m) (hb:b=m.tok++msArgs (D0 k).1 m.args++m.data):A0j (D0 k) b m:=by
 subst hk
 have hq:=Hr m.kind
 obtain⟨h1,h2,h3,h4,h5,h6,h7⟩:=ho
 generalize D0 m.kind=S at *
 have htn:S.1.tok.toNat=m.tok.length:=by omega
 rw[List.append_assoc] at hb
 have hdr:b.drop S.1.tok.toNat=msArgs S.1 m.args++m.data:=by rw[hb,htn,List.drop_left]
 refine⟨h1,by rw[hb,<- List.append_assoc];exact h7,by rw[hb];simp;omega,by rw[hb,htn,List.take_left],h3,h6,fun hg=>?_,fun hg=>?_⟩
 ·refine⟨by rw[hdr,msArgs,if_neg (by omega)],?_⟩
  unfold Qa at h4
  rw[if_pos hg] at h4
  simpa using h4
 have hm:msArgs S.1 m.args=codes (m.args.take S.1.fix.toNat)++(Gl (Qa S.1 m.args.length).1).1++codes (m.args.drop S.1.fix.toNat):=by rw[msArgs,if_pos hg]
 rw[hm] at hdr
 unfold Qa at h4 hdr
 rw[if_neg (by omega)] at h4 hdr
 split at h4
 ·cases h4
 rename_i hn
 rw[if_neg hn] at hdr
 have h4:S.1.lea<=((m.args.length:Int) - S.1.fix).tdiv S.1.grp/\((m.args.length:Int) - S.1.fix).tdiv S.1.grp<=S.1.mos:=by simpa using h4
 have hmod:((m.args.length:Int) - S.1.fix).tmod S.1.grp=0:=by
  by_cases hz:((m.args.length:Int) - S.1.fix).tmod S.1.grp=0
  ·exact hz
  exact absurd (.inr hz) hn
 have h0:0<=(m.args.length:Int) - S.1.fix:=by omega
 have hdv:=Int.mul_tdiv_add_tmod ((m.args.length:Int) - S.1.fix) S.1.grp
 rw[hmod,Int.add_zero] at hdv
 have hnn:0<=((m.args.length:Int) - S.1.fix).tdiv S.1.grp:=Int.tdiv_nonneg h0 (by omega)
 generalize ((m.args.length:Int) - S.1.fix).tdiv S.1.grp=g at *
 refine⟨g,by rw[hdr,Acb];simp,by rw[A5];omega,fun a ha=>?_,h4.1,h4.2,?_⟩
 ·rw[An.1 ha];unfold Gl;rw[if_neg (by omega)]
 rw[Bc,Int.mul_comm g,hdv];omega
theorem Uk (h:N6 l) (n:Nat):N6 (l.take n):=fun a ha=>h a (Aq ha)
theorem Om (h:N6 l) (n:Nat):N6 (l.drop n):=fun a ha=>h a (Ay ha)
theorem Qs {S:Gk×Bool} {N1 N2:List Int×List Int×Bool} (hP:A0j S b m) (hg:0<S.1.grp) (h1:∀l r,b.drop S.1.tok.toNat=codes l++r->N6 l->(l.length:Int)=S.1.fix->N1=(l,r,true)) (h2:∀l r,N1.2.1=codes l++r->N6 l->(l.length:Int)=1->N2=(l,r,true)):∃g,N1.1=m.args.take S.1.fix.toNat/\N2=([g],codes (m.args.drop S.1.fix.toNat)++m.data,true)/\S.1.lea<=g/\g<=S.1.mos/\((m.args.drop S.1.fix.toNat).length:Int)=g*S.1.grp:=by
 obtain⟨g,p1,p2,p3,p4,p5,p6⟩:=hP.g1 hg
 have n1:=h1 _ _ p1 (Uk hP.al _) p2
 subst n1
 exact⟨g,rfl,h2 [g] _ rfl p3 rfl,p4,p5,p6⟩
end
theorem A19 {a b:Int} (h1:0<=a) (h2:a<=100) (h3:0<=b) (h4:b<=4):0<=a*b/\a*b<=400:=⟨Int.mul_nonneg h1 h3,by
 have:=Int.mul_le_mul h2 h4 h3 (by omega:(0:Int)<=100)
 omega⟩
section
variable (k:Int) (b:List Int) (hb:b.length<=1000000)
include k hb
theorem Ok:Ct 50 [.li k,.mY b] (fun d:Dz×Int=>.tup [d.1.g,.li d.2]) (fun d=>(d.2=0->d.1.kind=k/\(D0 k).1.fix<=d.1.args.length/\d.1.args.length<=1000/\d.1.tok.length<=b.length/\d.1.data.length<=b.length/\∀a∈d.1.args,NB a)/\∀m,m.kind=k->Ly m->b=m.tok++(msArgs (D0 k).1 m.args++m.data)->d=(m,0)):=by
 refine Ev Tryz.func50 ?_
 have hv:=Ry k
 have hq0:=Hr k
 have hdp:∀m,m.kind=k->Ly m->b=m.tok++(msArgs (D0 k).1 m.args++m.data)->A0j (D0 k) b m:=fun m h1 h2 h3=>A39 h1 h2 (by rw[h3,List.append_assoc])
 generalize D0 k=S at hv hq0 hdp ⊢
 refine Bq ?_
 refine B8 Dy (hv)<|.seq ?_
 refine Bq ?_
 refine Br ?_ ?_<;>intro h19
 ·refine Bq ?_
  exact .ret (Eu Dy (⟨0,[],[],[]⟩,5) ⟨fun h=>absurd h (by decide),fun m hk ho hb=>absurd (hdp m hk ho hb).k (by rw[h19];decide)⟩)
 refine Bp<|.seq<|.R ?_
 refine Br ?_ ?_<;>intro h30
 ·refine Bq ?_
  exact .ret (Eu Dy (⟨0,[],[],[]⟩,6) ⟨fun h=>absurd h (by decide),fun m hk ho hb=>(by have hP:=hdp m hk ho hb;have:=hP.bl;have:=hP.tl;omega)⟩)
 refine Bp<|.G Dy ?_
 obtain⟨N1,hN1,hq1⟩:=Lp (b.drop S.1.tok.toNat) (S.1.fix) (by first | omega | (simp;omega)) (by omega) (by omega)
 simp only[Bc] at hq1
 refine B3 (fun K kk=>by simp[go_sem];refine .lo (hN1) (by simp[go_sem]) (by simp[AV.cln,Ff]) ?_;simp[go_sem];exact kk)<|.seq ?_
 refine Bq ?_
 refine Br ?_ ?_<;>intro h53
 ·refine Bq ?_
  obtain⟨N2,hN2,hq2⟩:=Lp N1.2.1 1 (by omega) (by omega) (by omega)
  refine B3 (fun K kk=>by simp[go_sem];refine .lo (hN2) (by simp[go_sem]) (by simp[AV.cln,Ff]) ?_;simp[go_sem];exact kk)<|.seq ?_
  by_cases hc11:N2.2.2=true
  ·have hln:N2.1.length=1:=hq2.2.2.1 hc11
   obtain⟨e1,H1⟩:=gx N2.1 0
   refine C9 (Fe hc11 H1) ?_
   refine Br ?_ ?_<;>intro h77
   ·refine Bu (Fe hc11 H1) ?_
    exact .ret (Eu (Fe hc11 H1) (⟨0,[],[],[]⟩,6) ⟨fun h=>absurd h (by decide),fun m hk ho hb=>(by obtain⟨g,c1,c2,c3,c4,c5⟩:=Qs (hdp m hk ho hb) h53.2 hq1.2.2.2.2.2 hq2.2.2.2.2.2;(rw[c2] at H1;injection H1 with H1;omega))⟩)
   refine Bp ?_
   have hm:=A19 (a:=e1) (b:=S.1.grp) (by omega) (by omega) (by omega) (by omega)
   obtain⟨N3,hN3,hq3⟩:=Lp N2.2.1 (e1*S.1.grp) (by omega) (by omega) (by omega)
   have hw2:=Dw (e1*S.1.grp:Int)
   refine Cw (fun K kk=>by simp[go_sem,hc11,H1,hw2];(repeat refine aK ?_);refine .lo (hN3) (by simp[go_sem]) (by simp[AV.cln,Ff]) ?_;simp[go_sem,hc11,H1,hw2];exact kk) ?_
   refine B0 (I1 hc11 H1 hw2)<|.seq ?_
   refine B3 (fun K kk=>by simp +contextual[go_sem,hc11,H1,hw2];exact kk) ?_
   refine Br ?_ ?_<;>intro h107
   ·refine Bu (I1 hc11 H1 hw2) ?_
    exact .ret (Eu (I1 hc11 H1 hw2) (⟨0,[],[],[]⟩,6) ⟨fun h=>absurd h (by decide),fun m hk ho hb=>(by have hP:=hdp m hk ho hb;(obtain⟨g,c1,c2,c3,c4,c5⟩:=Qs (hdp m hk ho hb) h53.2 hq1.2.2.2.2.2 hq2.2.2.2.2.2;rw[c2] at H1;injection H1 with H1;have n3:=hq3.2.2.2.2.2 _ _ (by rw[c2]) (Om hP.al _) (by rw[<- H1];exact c5);have hd:=hP.dat;rw[n3] at h107;simp at h107;omega))⟩)
   refine Bp<|.S (fun K kk=>by simp[go_sem,hc11,H1,hw2];refine .lo cB rfl (by simp[AV.cln,Ff]) ?_;simp[go_sem,hc11,H1,hw2];refine .lo cB rfl (by simp[AV.cln,Ff]) ?_;simp[go_sem,hc11,H1,hw2];exact kk) ?_
   refine B2 Dy 2 ?_
   exact .ret (Eu (I1 hc11 H1 hw2) (⟨k,b.take S.1.tok.toNat,N1.1++N3.1,N3.2.1⟩,0) (by (have hA:=hq1.2.2.1 h53.1;exact⟨fun _=>⟨rfl,by simp;omega,by simp;omega,by simp;omega,by dsimp only;omega,fun a ha=>(A0.1 ha).elim (hq1.2.2.2.2.1 a) (hq3.2.2.2.2.1 a)⟩,fun m hk ho hb=>(by have hP:=hdp m hk ho hb;obtain⟨g,c1,c2,c3,c4,c5⟩:=Qs (hdp m hk ho hb) h53.2 hq1.2.2.2.2.2 hq2.2.2.2.2.2;rw[c2] at H1;injection H1 with H1;have n3:=hq3.2.2.2.2.2 _ _ (by rw[c2]) (Om hP.al _) (by rw[<- H1];exact c5);rw[n3,c1,hP.tk,<- hk];show ((⟨m.kind,m.tok,m.args.take _++m.args.drop _,m.data⟩:Dz),(0:Int))=(m,0);rw[List.take_append_drop])⟩)))
  have hz:N2.1[0]? = none:=by rw[hq2.2.2.2.1 (by simpa using hc11)];rfl
  refine C9 (Fe hc11 hz) ?_
  refine Ck ?_ ?_<;>intro h77<;>simp[go_sem] at h77
  refine Bu (Fe hc11 hz) ?_
  exact .ret (Eu (Fe hc11 hz) (⟨0,[],[],[]⟩,6) ⟨fun h=>absurd h (by decide),fun m hk ho hb=>(by obtain⟨g,c1,c2,c3,c4,c5⟩:=Qs (hdp m hk ho hb) h53.2 hq1.2.2.2.2.2 hq2.2.2.2.2.2;first | (rw[c2] at H1;injection H1 with H1;omega) | exact absurd (congrArg (fun x=>x.2.2) c2) hc11)⟩)
 refine Bp<|.seq<|.S (fun K kk=>by simp +contextual[go_sem];exact kk) ?_
 refine Br ?_ ?_<;>intro h107
 ·refine Bq ?_
  exact .ret (Eu Dy (⟨0,[],[],[]⟩,6) ⟨fun h=>absurd h (by decide),fun m hk ho hb=>(by have hP:=hdp m hk ho hb;first | (obtain⟨g,c1,c2,c3,c4,c5⟩:=Qs (hdp m hk ho hb) h53.2 hq1.2.2.2.2.2 hq2.2.2.2.2.2;rw[c2] at H1;injection H1 with H1;have n3:=hq3.2.2.2.2.2 _ _ (by rw[c2]) (Om hP.al _) (by rw[<- H1];exact c5);have hd:=hP.dat;rw[n3] at h107;simp at h107;omega) | (by_cases hg:0<S.1.grp;(obtain⟨g,p1,p2,p3,p4,p5,p6⟩:=hP.g1 hg;have n1:=hq1.2.2.2.2.2 _ _ p1 (Uk hP.al _) p2;rw[n1] at h53;simp at h53;omega);(obtain⟨p1,p2⟩:=hP.g0 (by omega);have n1:=hq1.2.2.2.2.2 _ _ p1 hP.al p2;have hd:=hP.dat;rw[n1] at h107;simp at h107;omega)))⟩)
 refine Bp<|.S (fun K kk=>by simp[go_sem];refine .lo cB rfl (by simp[AV.cln,Ff]) ?_;simp[go_sem];refine .lo cB rfl (by simp[AV.cln,Ff]) ?_;simp[go_sem];exact kk) ?_
 refine B2 Dy 2 ?_
 exact .ret (Eu Dy (⟨k,b.take S.1.tok.toNat,N1.1,N1.2.1⟩,0) (by first | (have hA:=hq1.2.2.1 h53.1;exact⟨fun _=>⟨rfl,by simp;omega,by simp;omega,by simp;omega,by dsimp only;omega,fun a ha=>(A0.1 ha).elim (hq1.2.2.2.2.1 a) (hq3.2.2.2.2.1 a)⟩,fun m hk ho hb=>(by have hP:=hdp m hk ho hb;obtain⟨g,c1,c2,c3,c4,c5⟩:=Qs (hdp m hk ho hb) h53.2 hq1.2.2.2.2.2 hq2.2.2.2.2.2;rw[c2] at H1;injection H1 with H1;have n3:=hq3.2.2.2.2.2 _ _ (by rw[c2]) (Om hP.al _) (by rw[<- H1];exact c5);rw[n3,c1,hP.tk,<- hk];show ((⟨m.kind,m.tok,m.args.take _++m.args.drop _,m.data⟩:Dz),(0:Int))=(m,0);rw[List.take_append_drop])⟩) | (have hA:=hq1.2.2.1 h107.1;exact⟨fun _=>⟨rfl,by dsimp only;omega,by dsimp only;omega,by simp;omega,by dsimp only;omega,hq1.2.2.2.2.1⟩,fun m hk ho hb=>(by have hP:=hdp m hk ho hb;obtain⟨p1,p2⟩:=hP.g0 (by have:=h53 h107.1;omega);have n1:=hq1.2.2.2.2.2 _ _ p1 hP.al p2;rw[n1,hP.tk,<- hk])⟩)))
def E9:Dz×Int:=(Eo (Ok k b hb)).choose
theorem Ti:PP 50 [] [.li k,.mY b] [] (.tup [.agg ((E9 k b hb).1.a false),.lit (.int .i64 (E9 k b hb).2)]):=(Eo (Ok k b hb)).choose_spec.1
theorem Tq:((E9 k b hb).2=0->(E9 k b hb).1.kind=k/\(D0 k).1.fix<=(E9 k b hb).1.args.length/\(E9 k b hb).1.args.length<=1000/\(E9 k b hb).1.tok.length<=b.length/\(E9 k b hb).1.data.length<=b.length/\∀a∈(E9 k b hb).1.args,NB a)/\∀m,m.kind=k->Ly m->b=m.tok++(msArgs (D0 k).1 m.args++m.data)->(E9 k b hb)=(m,0):=(Eo (Ok k b hb)).choose_spec.2
end
section
variable (s:Gk) (n:Int) (hn:0<=n/\n<=1000000) (hf:0<=s.fix/\s.fix<=4) (hg:0<=s.grp/\s.grp<=4)
include hn hf hg
theorem Uc:Ct 159 [s.g,.li n] (fun d:Int×Bool=>.tup [.li d.1,.lb d.2]) (fun d=>d=Qa s n):=by
 refine Ev Tryz.func159 ?_
 refine Bq<|.seq ?_
 refine Bq ?_
 refine Br ?_ ?_<;>intro h10
 ·refine VX.D ?_
  exact .ret (Eu Dy (0,((n:Int) == s.fix)) (by show _=Qa s n;rw[Qa,if_pos h10]))
 refine Bp ?_
 have hw1:=Dw (n - s.fix:Int)
 refine Bu hw1<|.seq ?_
 refine Bu hw1 ?_
 refine Br ?_ ?_<;>intro h27
 ·refine Bu hw1 ?_
  exact .ret (Eu hw1 (0,false) (by show _=Qa s n;rw[Qa,if_neg h10,if_pos h27]))
 refine Bp<|.H hw1 ?_
 refine C9 hw1 ?_
 exact .ret (Eu hw1 (IntKind.i64.wrap (Int.tdiv (n - s.fix) s.grp),(decide ((s.lea:Int)<=(IntKind.i64.wrap (Int.tdiv (n - s.fix) s.grp)))&&decide (((IntKind.i64.wrap (Int.tdiv (n - s.fix) s.grp)):Int)<=s.mos))) (by show _=Qa s n;rw[Qa,if_neg h10,if_neg (by omega),A0q (by omega) hg.1]))
def Uw:Int×Bool:=(Eo (Uc s n hn hf hg)).choose
theorem Ajz:PP 159 [] [s.g,.li n] [] (.tup [.lit (.int .i64 (Uw s n hn hf hg).1),.lit (.bool (Uw s n hn hf hg).2)]):=(Eo (Uc s n hn hf hg)).choose_spec.1
theorem Akp:(Uw s n hn hf hg)=Qa s n:=(Eo (Uc s n hn hf hg)).choose_spec.2
theorem Ahm:PP 159 [] [s.g,.li n] [] (.tup [.lit (.int .i64 (Qa s n).1),.lit (.bool (Qa s n).2)]):=by
 have h:=Ajz s n hn hf hg
 rwa[Akp] at h
end
section
variable (m:Dz) (h1:m.tok.length<=10000) (h2:m.args.length<=10000) (h3:m.data.length<=10000)
include h1 h2 h3
theorem Oj:Ct 136 [m.g] (fun d:List Int×Int=>.tup [.mY d.1,.li d.2]) (fun d=>d=Kr m):=by
 refine Ev Tryz.func136 ?_
 have hv:=Ry m.kind
 have hq0:=Hr m.kind
 have hgv:=Ahm (D0 m.kind).1 m.args.length (by omega) (by omega) (by omega)
 have hno:=Ank (m:=m)
 have hye:=@Aat m
 have hok:=@Ly.mk m
 have hko:=@Ly.kind m
 have hto:=@Ly.tok m
 have hdo:=@Ly.dat m
 have hgo:=@Ly.grp m
 have hlo:=@Ly.dl m
 have hao:=@Ly.args m
 have hzo:=@Ly.len m
 have hp1:=@Asi (D0 m.kind).1 m.args
 have hp2:=@Ash (D0 m.kind).1 m.args
 have hp3:=@Apm (D0 m.kind).1 m.args
 have hp4:=@Asj (D0 m.kind).1 m.args
 have hp0:Tx (D0 m.kind).1 m.args 0=[]:=by unfold Tx;rw[if_neg (by omega)];rfl
 generalize (D0 m.kind)=S at hv hq0 hgv hye hok hko hto hdo hgo hlo hao hzo hp1 hp2 hp3 hp4 hp0
 generalize hGr:Qa S.1 m.args.length=Gr at hgv hok hgo hp1 hp3 hp4
 refine B3 (fun K kk=>by simp[go_sem,Af];exact kk) ?_
 refine B3 (fun K kk=>by simp[go_sem,Af];refine .l (hv) ?_;simp[go_sem,Af];exact kk)<|.seq ?_
 refine B3 (fun K kk=>by simp +contextual[go_sem,Af];exact kk) ?_
 refine Br ?_ ?_<;>intro h41
 ·refine B3 (fun K kk=>by simp[go_sem,Af];exact kk) ?_
  refine Bz (Fl ?_);simp[go_sem,Af]
  exact⟨([],6),by rfl,(hno fun h=>by rcases h41 with (h4 | h4) | h4;(rw[hko h] at h4;cases h4);exact h4 (hto h);(rcases hdo h with h5 | h5;exact h4.1 h5;exact h4.2 h5))⟩
 refine Bp<|.S (fun K kk=>by simp[go_sem,Af];refine .l (hgv) ?_;simp[go_sem,Af];exact kk)<|.seq ?_
 refine B3 (fun K kk=>by simp +contextual[go_sem,Af];exact kk) ?_
 refine Br ?_ ?_<;>intro h57
 ·refine B3 (fun K kk=>by simp[go_sem,Af];exact kk) ?_
  refine Bz (Fl ?_);simp[go_sem,Af]
  exact⟨([],6),by rfl,(hno fun h=>by rcases h57 with h4 | h4;(rw[hgo h] at h4;cases h4);(have:=hlo h;omega))⟩
 refine Bp<|.S (fun K kk=>by simp[go_sem,Af];refine .lo (Gh _ (by first | (simp;done) | (simp;omega)) (by (simp[T.plain];done))) rfl (by simp[AV.cln,Ff]) ?_;simp[go_sem,Af];exact kk)<|.seq ?_
 have hw1:=Dw (m.args.length+1:Int)
 refine B3 (fun K kk=>by simp[go_sem,Af,hw1];exact kk)<|.block ?_
 refine Bs (m.args.length+1) (fun i1 (y1:(List Int))=>⟨[(1,.ptr 0 0),(4,.ptr 1 0),(6,.li Gr.1),(7,.own 2 y1.length),(64,.li (m.args.length+1)),(65,.li i1)],[.box 56 (m.a false),.box 171 [.li S.1.tok,.li S.1.fix,.li S.1.grp,.li S.1.lea,.li S.1.mos,.li S.1.dat],.row 5 1 false false (tY y1)]⟩) (fun i1 y1=>(y1.length<=m.tok.length+12*i1/\i1<=m.args.length)/\y1=m.tok++Tx S.1 m.args i1/\N6 (m.args.take i1)) (m.tok) (wk hw1 [0,1,2]) (⟨by simp,by simp[hp0],fun a h=>by cases h⟩) fun i1 y1 hi1 hy1=>?_
 refine B3 (fun K kk=>by simp[go_sem,Af,hw1];exact kk)<|.seq ?_
 refine Br ?_ ?_<;>intro h66
 ·refine Bp<|.seq<|.block<|.S (fun K kk=>by simp[go_sem,Af,hw1];exact kk)<|.seq ?_
  refine B3 (fun K kk=>by simp[go_sem,Af,hw1];exact kk) ?_
  refine Br ?_ ?_<;>intro h76
  ·refine B3 (fun K kk=>by simp[go_sem,Af,hw1];refine .l (Px Gr.1) ?_;simp[go_sem,Af,hw1];exact kk) ?_
   refine C4 (by rfl) fun K1 hK1=>?_
   simp[go_sem,Af,hw1]
   repeat' with_reducible refine Ax ?_ ?_
   all_goals try (intros;(repeat' refine Ax ?_ ?_)<;>omega)
   all_goals try ((have q0:=Ej Gr.1);(try have q1:=Ej e1);(try have q2:=Ej e2);(try have q3:=Ej e3);(try have q4:=Ej e4);(try have q5:=Ej e5);(try have q6:=Ej e6);(try have q7:=Ej e7);(try have q8:=Ej e8);omega)
   refine hK1 _ ?_;clear hK1
   refine B9<|.S (fun K kk=>by simp[go_sem,Af,hw1];exact kk) ?_
   refine Br ?_ ?_<;>intro h89
   ·refine Bt ?_
    refine B4 (by rfl) fun K1 hK1=>?_
    simp[go_sem,Af,hw1]
    repeat' with_reducible refine Ax ?_ ?_
    all_goals try (intros;(repeat' refine Ax ?_ ?_)<;>omega)
    all_goals try ((have q0:=Ej Gr.1);(try have q1:=Ej e1);(try have q2:=Ej e2);(try have q3:=Ej e3);(try have q4:=Ej e4);(try have q5:=Ej e5);(try have q6:=Ej e6);(try have q7:=Ej e7);(try have q8:=Ej e8);omega)
    refine hK1 _ ?_;clear hK1
    refine B9<|.S (fun K kk=>by simp[go_sem,Af,hw1];exact kk) ?_
    refine Br ?_ ?_<;>intro h111
    ·refine B3 (fun K kk=>by simp[go_sem,Af,hw1];exact kk) ?_
     refine Bz (Fl ?_);simp[go_sem,Af,hw1]
     exact⟨([],6),by rfl,(by have hi:i1=m.args.length:=(by omega);have hy2:=hy1.2.1;have hv2:=hy1.2.2;rw[hi] at hy2 hv2;rw[List.take_length] at hv2;(have hA:=hp3 (by omega) h76.2;have hB:y1++(Gl Gr.1).1=m.tok++msArgs S.1 m.args:=(by rw[hy2,List.append_assoc,hA]);first | exact hye (hok h41.1.1 h41.1.2 (by omega) h57.1 (by omega) hv2 (by rw[<- hB];simp;omega)) hB | exact hno fun h=>(by have h9:=hzo h;rw[<- hB] at h9;simp at h9;omega)))⟩
    refine Bp<|.S (fun K kk=>by simp[go_sem,Af,hw1];exact kk) ?_
    refine B2 Dy 2 ?_
    refine Bz (Fl ?_);simp[go_sem,Af,hw1]
    exact⟨((y1++((Gl Gr.1).1))++m.data,0),by first | rfl | simp[go_sem],(by have hi:i1=m.args.length:=(by omega);have hy2:=hy1.2.1;have hv2:=hy1.2.2;rw[hi] at hy2 hv2;rw[List.take_length] at hv2;(have hA:=hp3 (by omega) h76.2;have hB:y1++(Gl Gr.1).1=m.tok++msArgs S.1 m.args:=(by rw[hy2,List.append_assoc,hA]);exact hye (hok h41.1.1 h41.1.2 (by omega) h57.1 (by omega) hv2 (by rw[<- hB];simp;omega)) hB))⟩
   refine Bp ?_
   obtain⟨e2,H2⟩:=gx m.args i1
   refine B3 (fun K kk=>by simp[go_sem,Af,hw1,H2];(repeat refine aK ?_);refine .l (Px e2) ?_;simp[go_sem,Af,hw1,H2];exact kk)<|.seq ?_
   refine B3 (fun K kk=>by simp[go_sem,Af,hw1,H2];exact kk) ?_
   refine Br ?_ ?_<;>intro h100
   ·refine B3 (fun K kk=>by simp[go_sem,Af,hw1,H2];exact kk) ?_
    refine Bz (Fl ?_);simp[go_sem,Af,hw1,H2]
    exact⟨([],6),by rfl,(hno fun h=>h100 (hao h _ (Ac (by assumption))))⟩
   refine Bp ?_
   refine C4 (by rfl) fun K1 hK1=>?_
   simp[go_sem,Af,hw1,H2]
   repeat' with_reducible refine Ax ?_ ?_
   all_goals try (intros;(repeat' refine Ax ?_ ?_)<;>omega)
   all_goals try ((have q0:=Ej Gr.1);(try have q1:=Ej e1);(try have q2:=Ej e2);(try have q3:=Ej e3);(try have q4:=Ej e4);(try have q5:=Ej e5);(try have q6:=Ej e6);(try have q7:=Ej e7);(try have q8:=Ej e8);omega)
   refine hK1 _ ?_;clear hK1
   refine Ci (fun K kk=>by simp[go_sem,Af,hw1,H2];exact kk) ?_
   exact⟨by omega,((y1++((Gl Gr.1).1))++((Gl e2).1)),⟨⟨by first | omega | (simp only[Bo];(have q0:=Ej Gr.1);(have q2:=Ej e2);omega),by omega⟩,by rw[<- hp1 h76.1 h76.2 H2,hy1.2.1];simp only[List.append_assoc],Ae3 hy1.2.2 H2 h100⟩,wk (I1 (Dw ((i1:Int)+1)) hw1 H2) [0,1,2]⟩
  refine Bp<|.seq<|.S (fun K kk=>by simp[go_sem,Af,hw1];exact kk) ?_
  refine Br ?_ ?_<;>intro h89
  ·refine Bt ?_
   refine B4 (by rfl) fun K1 hK1=>?_
   simp[go_sem,Af,hw1]
   repeat' with_reducible refine Ax ?_ ?_
   all_goals try (intros;(repeat' refine Ax ?_ ?_)<;>omega)
   all_goals try ((have q0:=Ej Gr.1);(try have q1:=Ej e1);(try have q2:=Ej e2);(try have q3:=Ej e3);(try have q4:=Ej e4);(try have q5:=Ej e5);(try have q6:=Ej e6);(try have q7:=Ej e7);(try have q8:=Ej e8);omega)
   refine hK1 _ ?_;clear hK1
   refine B9<|.S (fun K kk=>by simp[go_sem,Af,hw1];exact kk) ?_
   refine Br ?_ ?_<;>intro h111
   ·refine B3 (fun K kk=>by simp[go_sem,Af,hw1];exact kk) ?_
    refine Bz (Fl ?_);simp[go_sem,Af,hw1]
    exact⟨([],6),by rfl,(by have hi:i1=m.args.length:=(by omega);have hy2:=hy1.2.1;have hv2:=hy1.2.2;rw[hi] at hy2 hv2;rw[List.take_length] at hv2;first | (have hA:=hp3 (by omega) h76.2;have hB:y1++(Gl Gr.1).1=m.tok++msArgs S.1 m.args:=(by rw[hy2,List.append_assoc,hA]);first | exact hye (hok h41.1.1 h41.1.2 (by omega) h57.1 (by omega) hv2 (by rw[<- hB];simp;omega)) hB | exact hno fun h=>(by have h9:=hzo h;rw[<- hB] at h9;simp at h9;omega)) | (have hA:=hp4 (by omega) (by omega) (by omega) h57.1;have hB:y1=m.tok++msArgs S.1 m.args:=(by rw[hy2,hA]);first | exact hye (hok h41.1.1 h41.1.2 (by omega) h57.1 (by omega) hv2 (by rw[<- hB];simp;omega)) hB | exact hno fun h=>(by have h9:=hzo h;rw[<- hB] at h9;simp at h9;omega)))⟩
   refine Bp<|.S (fun K kk=>by simp[go_sem,Af,hw1];exact kk) ?_
   refine B2 Dy 2 ?_
   refine Bz (Fl ?_);simp[go_sem,Af,hw1]
   exact⟨(y1++m.data,0),by first | rfl | simp[go_sem],(by have hi:i1=m.args.length:=(by omega);have hy2:=hy1.2.1;have hv2:=hy1.2.2;rw[hi] at hy2 hv2;rw[List.take_length] at hv2;first | (have hA:=hp3 (by omega) h76.2;have hB:y1++(Gl Gr.1).1=m.tok++msArgs S.1 m.args:=(by rw[hy2,List.append_assoc,hA]);first | exact hye (hok h41.1.1 h41.1.2 (by omega) h57.1 (by omega) hv2 (by rw[<- hB];simp;omega)) hB | exact hno fun h=>(by have h9:=hzo h;rw[<- hB] at h9;simp at h9;omega)) | (have hA:=hp4 (by omega) (by omega) (by omega) h57.1;have hB:y1=m.tok++msArgs S.1 m.args:=(by rw[hy2,hA]);exact hye (hok h41.1.1 h41.1.2 (by omega) h57.1 (by omega) hv2 (by rw[<- hB];simp;omega)) hB))⟩
  refine Bp ?_
  obtain⟨e3,H3⟩:=gx m.args i1
  refine B3 (fun K kk=>by simp[go_sem,Af,hw1,H3];(repeat refine aK ?_);refine .l (Px e3) ?_;simp[go_sem,Af,hw1,H3];exact kk)<|.seq ?_
  refine B3 (fun K kk=>by simp[go_sem,Af,hw1,H3];exact kk) ?_
  refine Br ?_ ?_<;>intro h100
  ·refine B3 (fun K kk=>by simp[go_sem,Af,hw1,H3];exact kk) ?_
   refine Bz (Fl ?_);simp[go_sem,Af,hw1,H3]
   exact⟨([],6),by rfl,(hno fun h=>h100 (hao h _ (Ac (by assumption))))⟩
  refine Bp ?_
  refine C4 (by rfl) fun K1 hK1=>?_
  simp[go_sem,Af,hw1,H3]
  repeat' with_reducible refine Ax ?_ ?_
  all_goals try (intros;(repeat' refine Ax ?_ ?_)<;>omega)
  all_goals try ((have q0:=Ej Gr.1);(try have q1:=Ej e1);(try have q2:=Ej e2);(try have q3:=Ej e3);(try have q4:=Ej e4);(try have q5:=Ej e5);(try have q6:=Ej e6);(try have q7:=Ej e7);(try have q8:=Ej e8);omega)
  refine hK1 _ ?_;clear hK1
  refine Ci (fun K kk=>by simp[go_sem,Af,hw1,H3];exact kk) ?_
  exact⟨by omega,(y1++((Gl e3).1)),⟨⟨by first | omega | (simp only[Bo];(have q0:=Ej e3);omega),by omega⟩,by rw[<- hp2 (by omega) (by omega) H3,hy1.2.1];simp only[List.append_assoc],Ae3 hy1.2.2 H3 h100⟩,wk (I1 (Dw ((i1:Int)+1)) hw1 H3) [0,1,2]⟩
 exfalso;omega
def Ex:List Int×Int:=(Eo (Oj m h1 h2 h3)).choose
theorem Th:PP 136 [] [m.g] [] (.tup [.imm false 1 (tY (Ex m h1 h2 h3).1),.lit (.int .i64 (Ex m h1 h2 h3).2)]):=(Eo (Oj m h1 h2 h3)).choose_spec.1
theorem Ju:(Ex m h1 h2 h3)=Kr m:=(Eo (Oj m h1 h2 h3)).choose_spec.2
end
def P17 (m:Dz) (n:Int):Prop:=m.kind=17/\m.tok=[]/\m.args=[n]/\(Gl n).2=0/\m.data.length<=100
theorem Avh {m:Dz} {n:Int} (h:P17 m n):Kr m=((Gl n).1++m.data,0):=by
 obtain⟨h1,h2,h3,h4,h5⟩:=h
 have hs:=(Hr m.kind).1.2 _ (by rw[h1];rfl)
 have ha:msArgs (D0 m.kind).1 m.args=(Gl n).1:=by rw[hs,h3];show (if (0:Int)<0 then _ else codes [n])=_;rw[if_neg (by decide),Acb]
 have hl:=Ej n
 have ho:Ly m:=⟨by rw[hs],by rw[hs,h2];rfl,by rw[hs];exact .inl rfl,by rw[hs,h3];rfl,by omega,fun a ha=>by rw[h3,An] at ha;rw[ha];exact h4,by rw[ha,h2];simp;omega⟩
 rw[<- Aat ho (y:=(Gl n).1) (by rw[ha,h2];rfl)]
theorem Ask (m:Dz):(Kr m).2=0<->Ly m:=by
 unfold Kr
 split
 ·rename_i h;exact⟨fun _=>h,fun _=>rfl⟩
 rename_i h;exact⟨fun h1=>by simp at h1,fun h1=>absurd h1 h⟩
theorem Tz (m:Dz):(Kr m).1.length<=200:=by
 unfold Kr
 split
 ·rename_i h;exact h.len
 simp
theorem Oy (m:Dz) (h1:m.tok.length<=10000) (h2:m.args.length<=10000) (h3:m.data.length<=10000):(Ex m h1 h2 h3).1.length<=200/\∀n,P17 m n->(Ex m h1 h2 h3)=((Gl n).1++m.data,0):=by
 rw[Ju]
 exact⟨Tz m,fun n h=>Avh h⟩
theorem Avv {k:Int} {p:List Int} (h1:0<=k) (h2:k<=255) (h3:p.length<=200):(Qe k p).2=0/\(Qe k p).1.length=p.length+10:=by
 unfold Qe
 rw[if_neg (by omega),if_neg (by omega)]
 exact⟨rfl,by simp[Io,I6,Kn]⟩
theorem As3 (k:Int) (p:List Int):(Qe k p).1.length<=p.length+10:=by
 unfold Qe
 split
 ·simp
 split
 ·simp
 simp[Io,I6,Kn]
section
variable (m:Dz) (h1:m.tok.length<=10000) (h2:m.args.length<=10000) (h3:m.data.length<=10000)
include h1 h2 h3
theorem L4:Ct 134 [m.g] (fun d:Bool=>.lb d) (fun d=>d=((Ex m h1 h2 h3).2 == 0)):=by
 refine Ev Tryz.func134 ?_
 refine Bq ?_
 refine B8 Dy (Th m h1 h2 h3) ?_
 refine Bq ?_
 exact .ret (Eu Dy ((((Ex m h1 h2 h3).2):Int) == 0) rfl)
def Ma:Bool:=(Eo (L4 m h1 h2 h3)).choose
theorem Ads:PP 134 [] [m.g] [] (.lb (Ma m h1 h2 h3)):=(Eo (L4 m h1 h2 h3)).choose_spec.1
theorem P7:(Ma m h1 h2 h3)=((Ex m h1 h2 h3).2 == 0):=(Eo (L4 m h1 h2 h3)).choose_spec.2
theorem Pp:Ct 102 [m.g] (fun d:List Int×Int=>.tup [.mY d.1,.li d.2]) (fun d=>d.1.length<=210/\((Ex m h1 h2 h3).2=0->0<=m.kind->m.kind<=255->d.2=0/\d.1.length=(Ex m h1 h2 h3).1.length+10)/\(Ly m->d=Qe m.kind (Kr m).1)/\(¬Ly m->¬d.2=0)):=by
 refine Ev Tryz.func102 ?_
 have hq:=Oy m h1 h2 h3
 have he0:(Ex m h1 h2 h3).2=0<->Ly m:=by rw[Ju];exact Ask m
 refine Bq ?_
 refine B8 Dy (Th m h1 h2 h3)<|.seq ?_
 refine Bq ?_
 refine Br ?_ ?_<;>intro h12
 ·refine Bq ?_
  exact .ret (Eu Dy ([],(Ex m h1 h2 h3).2) (by exact⟨Ae _,(fun e=>absurd e (by assumption)),(fun h=>absurd (he0.2 h) (by assumption)),fun _=>(by assumption)⟩))
 refine Bp<|.L Dy (Aff m.kind (Ex m h1 h2 h3).1 (by omega)) ?_
 exact .ret (Eu Dy ((Qe m.kind ((Ex m h1 h2 h3).1)).1,(Qe m.kind ((Ex m h1 h2 h3).1)).2) (by first | exact⟨Ae _,(fun e=>absurd e (by assumption)),(fun h=>absurd (he0.2 h) (by assumption)),fun _=>(by assumption)⟩ | exact⟨Ak (As3 _ _) (by omega),(fun _ k1 k2=>Avv k1 k2 hq.1),(fun _=>by rw[Ju]),fun h=>absurd (he0.1 (by assumption)) h⟩))
def Fp:List Int×Int:=(Eo (Pp m h1 h2 h3)).choose
theorem Adt:PP 102 [] [m.g] [] (.tup [.imm false 1 (tY (Fp m h1 h2 h3).1),.lit (.int .i64 (Fp m h1 h2 h3).2)]):=(Eo (Pp m h1 h2 h3)).choose_spec.1
theorem Me:(Fp m h1 h2 h3).1.length<=210/\((Ex m h1 h2 h3).2=0->0<=m.kind->m.kind<=255->(Fp m h1 h2 h3).2=0/\(Fp m h1 h2 h3).1.length=(Ex m h1 h2 h3).1.length+10)/\(Ly m->(Fp m h1 h2 h3)=Qe m.kind (Kr m).1)/\(¬Ly m->¬(Fp m h1 h2 h3).2=0):=(Eo (Pp m h1 h2 h3)).choose_spec.2
end
section
section
variable (n:Int) (a:Hy) (h1:a.sec.length<=1000000) (h2:a.lims.length<=1000000)
include n h1 h2
theorem Yy:Ct 55 [.li n,a.g] (fun d:Dx=>d.g) (fun d=>d.reg=G5 n a h1 h2/\d.reqs=[]/\d.draws=[]/\d.aud.length<=2/\(∀k:Nat,¬d.aud[k]? = some true)/\d.aud=List.replicate ((if 2<(if a.se<0 then 0 else a.se) then 2 else (if a.se<0 then 0 else a.se)).toNat) false):=by
 refine Ev Tryz.func55 ?_
 iterate 2 refine Bq ?_
 refine Dd Dy (Ae8 n a (by assumption) (by assumption)) ?_
 refine B2 Dy 2 ?_
 exact .ret (Eu Dy ⟨(G5 n a (by assumption) (by assumption)),[],[],List.replicate ((if 2<(if a.se<0 then 0 else a.se) then 2 else (if a.se<0 then 0 else a.se)).toNat) false⟩ ⟨rfl,rfl,rfl,by simp;(repeat' split)<;>omega,(fun k h=>by have:=List.eq_of_mem_replicate (Ac h);cases this),rfl⟩)
def Fy:Dx:=(Eo (Yy n a h1 h2)).choose
theorem Ao3:PP 55 [] [.li n,a.g] [] (.agg ((Fy n a h1 h2).a false)):=(Eo (Yy n a h1 h2)).choose_spec.1
theorem Rh:(Fy n a h1 h2).reg=G5 n a h1 h2/\(Fy n a h1 h2).reqs=[]/\(Fy n a h1 h2).draws=[]/\(Fy n a h1 h2).aud.length<=2/\(∀k:Nat,¬(Fy n a h1 h2).aud[k]? = some true)/\(Fy n a h1 h2).aud=List.replicate ((if 2<(if a.se<0 then 0 else a.se) then 2 else (if a.se<0 then 0 else a.se)).toNat) false:=(Eo (Yy n a h1 h2)).choose_spec.2
end
theorem X8 (c:Nw) (h:c.lights.length<=1000000):Ct 225 [c.g] (fun d:Bool=>.lb d) (fun d=>True):=by
 refine Ev Tryz.func225 ?_
 refine Bq ?_
 refine B3 (fun K kk=>by simp[go_sem];refine .lo (Wl c.lights _ [] (fun x=>x.l != 0) h Tm Adl) (by simp[go_sem]) (by simp[AV.cln,Ff]) ?_;simp[go_sem];exact kk) ?_
 refine Bz (Fl ?_);simp[go_sem]
 exact⟨_,by rfl,trivial⟩
def Nt (m:Dz):List Int:=by
 classical
 exact if h:m.tok.length<=10000/\m.args.length<=10000/\m.data.length<=10000 then (if (Fp m h.1 h.2.1 h.2.2).2=0 then (Fp m h.1 h.2.1 h.2.2).1 else []) else []
variable {m:Dz}
theorem Aes (h1:m.tok.length<=10000) (h2:m.args.length<=10000) (h3:m.data.length<=10000) (h:(Fp m h1 h2 h3).2=0):Nt m=(Fp m h1 h2 h3).1:=by
 unfold Nt
 rw[dif_pos ⟨h1,h2,h3⟩,if_pos h]
theorem Arb (h1:m.tok.length<=10000) (h2:m.args.length<=10000) (h3:m.data.length<=10000) (h:¬(Fp m h1 h2 h3).2=0):Nt m=[]:=by
 unfold Nt
 rw[dif_pos ⟨h1,h2,h3⟩,if_neg h]
theorem Ayc {n:Int} (h:P17 m n):(Nt m).length=(Gl n).1.length+m.data.length+10:=by
 have h1:m.tok.length<=10000:=by rw[h.2.1];simp
 have h2:m.args.length<=10000:=by rw[h.2.2.1];simp
 have h3:m.data.length<=10000:=by have:=h.2.2.2.2;omega
 have he:=(Oy m h1 h2 h3).2 n h
 have hf:=(Me m h1 h2 h3).2.1 (by rw[he]) (by rw[h.1];decide) (by rw[h.1];decide)
 rw[Aes h1 h2 h3 hf.1,hf.2,he]
 simp
theorem Arc {α β:Type} {f:α->List β} {l:List α} {i:Nat} {e:α} (h:l[i]? = some e):((l.take (i+1)).map f).flatten=((l.take i).map f).flatten++f e:=by
 rw[List.take_add_one,h];simp
theorem Vg (l:List Dz) (hl:l.length<=1000) (hm:∀m∈l,m.tok.length<=10000/\m.args.length<=10000/\m.data.length<=10000):Ct 66 [.mMsg l] (fun d:List Int=>.mY d) (fun d=>d=(l.map Nt).flatten):=by
 refine Ev Tryz.func66 ?_
 refine Bq ?_
 refine Bq<|.seq ?_
 refine Bq<|.block ?_
 refine Cf 3 5 1 (by decide) (k':=1) (by simp[go_sem]) ?_
 simp[go_sem,-Prod.exists]
 refine Bs l.length (fun i1 (y1:(List Int))=>⟨[(3,.own 0 y1.length),(8,.mMsg l),(9,.li l.length),(10,.li i1)],[.row 5 1 false false (tY y1)]⟩) (fun i1 y1=>y1=((l.take i1).map Nt).flatten/\y1.length<=300*i1) ([]) (wk Dy [0]) (⟨by simp,by simp⟩) fun i1 y1 hi1 hy1=>?_
 refine Bq<|.seq ?_
 refine Br ?_ ?_<;>intro h11
 ·refine Bp<|.seq<|.block ?_
  obtain⟨e1,H1⟩:=gx l i1
  refine Bu H1 ?_
  have hb:=hm e1 (Ac H1)
  have hf:=(Me e1 hb.1 hb.2.1 hb.2.2).1
  refine B8 H1 (Adt e1 hb.1 hb.2.1 hb.2.2) ?_
  refine Bu H1 ?_
  refine Br ?_ ?_<;>intro h20
  ·refine B0 H1 ?_
   refine B0 H1 ?_
   exact⟨by omega,(y1++((Fp e1 hb.1 hb.2.1 hb.2.2).1)),⟨by rw[hy1.1,Arc H1,Aes hb.1 hb.2.1 hb.2.2 h20],by simp;omega⟩,wk (Fe (Dw ((i1:Int)+1)) H1) [0]⟩
  refine Bp<|.H1 H1 ?_
  exact⟨by omega,(y1),⟨by rw[Arc H1,Arb hb.1 hb.2.1 hb.2.2 h20,List.append_nil];exact hy1.1,by omega⟩,wk (Fe (Dw ((i1:Int)+1)) H1) [0]⟩
 refine Bt<|.R ?_
 refine B2 Dy 0 ?_
 exact .ret (Eu Dy y1 (by rw[hy1.1,Bf (by omega)]))
end
section
variable {cs:List AV}
theorem Es.cellOwn {E:Gp} {β:Nat->Option Nat} {st:St} {a:Act} {w:World} (r:Es E β st a w) {b n i k:Nat} {ty:TypeId} (hb:st.o b=.box ty cs) (hi:cs[i]? = some (.nil k)) (hn:∀A,Ea (E.C β st w) (.own n 0) (.slice A 0 0)) :
 Es E β (st.set b (.box ty (cs.set i (.own n 0)))) a w:=by
 have ho':∀j,j≠b->(st.set b (.box ty (cs.set i (.own n 0)))).o j=st.o j:=fun j hj=>by rw[St.set_o,if_neg hj]
 have ho:(st.set b (.box ty (cs.set i (.own n 0)))).o b=.box ty (cs.set i (.own n 0)):=by rw[St.set_o,if_pos rfl]
 have hng:∀j,(st.set b (.box ty (cs.set i (.own n 0)))).o j≠.gone->st.o j≠.gone:=fun j hj=>by
  by_cases e:j=b
  ·subst e;rw[hb];simp
  rw[ho' j e] at hj;exact hj
 have s:N4 (E.C β st w) (E.C β (st.set b (.box ty (cs.set i (.own n 0)))) w):=by
  refine⟨rfl,fun _ h=>h,fun _ h=>h,fun _ h=>h,Aj _,?_,fun _ _ _=>rfl,?_,?_⟩
  ·rintro x hx ⟨j,h1,h2⟩
   have h2:((st.set b (.box ty (cs.set i (.own n 0)))).o j).live:=h2
   by_cases e:j=b
   ·subst e;exact⟨j,h1,by show (st.o j).live;rw[hb];trivial⟩
   rw[ho' j e] at h2;exact⟨j,h1,h2⟩
  ·intro j ty' cs' hj
   have hj:st.o j=.box ty' cs':=hj
   by_cases e:j=b
   ·subst e
    rw[hb] at hj
    injection hj with e1 e2
    subst e1
    exact⟨⟨_,ho⟩,rfl⟩
   exact⟨⟨cs',(ho' j e).trans hj⟩,rfl⟩
  intro j ty' k' fr' fz' es' hj
  have hj:st.o j=.row ty' k' fr' fz' es':=hj
  have e:j≠b:=fun e=>by subst e;rw[hb] at hj;cases hj
  exact⟨_,_,_,(ho' j e).trans hj,Aj _,fun _=>⟨rfl,fun b cc hb hc=>⟨cc,hc,rfl⟩⟩⟩
 refine r.move s rfl (fun j=>?_) (fun i j x hi hj=>r.inj i j x (hng i hi) (hng j hj)) (fun j x hj=>r.rng j x (hng j hj)) r.kp
 by_cases e:j=b
 ·subst e
  rw[ho]
  have h:=r.ob j
  rw[hb] at h
  obtain⟨x,cur,h1,h2,h3,h4⟩:=Ki.step (o:=.box ty cs) s h rfl fun _ _=>rfl
  refine⟨x,cur,h1,h2,by rw[List.length_set];exact h3,fun q c u hc hu=>?_⟩
  rw[List.getElem?_set] at hc
  split at hc
  ·rename_i e
   subst e
   split at hc
   ·injection hc with hc
    subst hc
    obtain⟨g1,g2⟩:=h4 i _ u hi hu
    refine⟨?_,g2⟩
    cases g1 with
    | nil k A=>exact (hn A).step s
   cases hc
  exact h4 q c u hc hu
 rw[ho' j e]
 exact (r.ob j).step s rfl fun _ _=>rfl
variable {bt:TypeId}
section
variable {P:Program} {n m:Nat} {st:St} {K:Exit->St->Prop} {c:Code}
theorem VW.own0c (b i:Nat) (ty k:Nat) (hk:0<k) {k':Nat} (hb:st.o b=.box bt cs) (hi:cs[i]? = some (.nil k')) (hv:VW P n m c ((st.set st.ob.length (.row ty k true false [])).set b (.box bt (cs.set i (.own st.ob.length 0)))) K):VW P n m c st K:=fun E F hE hF β a w r=>by
 obtain⟨r1,h1⟩:=r.empty (Hg st st.ob.length (Aj _)) ty hk true
 have hne:b≠st.ob.length:=fun e=>by
  have:=Hg st st.ob.length (Aj _)
  rw[<- e,hb] at this
  cases this
 exact hv E F hE hF _ a w (r1.cellOwn (by rw[St.set_o,if_neg hne];exact hb) hi h1)
theorem VX.own0c (b i:Nat) (ty k:Nat) (hk:0<k) {k':Nat} (hb:st.o b=.box bt cs) (hi:cs[i]? = some (.nil k')) (hv:VX P n m c ((st.set st.ob.length (.row ty k true false [])).set b (.box bt (cs.set i (.own st.ob.length 0)))) K):VX P n m c st K:=by
 obtain⟨e,s,h1,h2⟩:=hv
 exact⟨e,s,.own0c b i ty k hk hb hi h1,h2⟩
abbrev Cl:=@VX.own0c
end
end
def A0c (x:Dx) (k now:Int) (m:Dz):Prop:=(k=1/\m.kind=13/\m.args=[x.reg.num,now])\/(k=9/\m.kind=19/\m.args=x.reqs.flatMap fun r=>[r.id,r.unt])\/(k≠1/\k≠9/\m.kind=20/\∃f:Int,0<=f/\f<=x.reg.toks.length/\m.args=[f,IntKind.i64.wrap (8 - x.reg.vehs.length),IntKind.i64.wrap (x.reg.ag.rq - x.reqs.length),x.reg.bk.lv])
section
variable (x:Dx) (k:Int) (now:Int) (h1:x.reqs.length<=1000) (h2:x.reg.toks.length<=1000000)
include k now h1 h2
theorem Wb:Ct 192 [x.g,.li k,.li now] (fun d:Dz=>d.g) (fun d=>d.tok=[]/\d.data=[]/\d.args.length<=2000/\A0c x k now d):=by
 refine Ev Tryz.func192 ?_
 refine Bq<|.seq ?_
 refine Bq<|.block ?_
 refine Bq ?_
 refine Br ?_ ?_<;>intro h14
 ·refine Bq ?_
  refine B2 Dy 2 ?_
  exact .ret (Eu Dy ⟨13,[],[x.reg.num,now],[]⟩ ⟨rfl,rfl,by (simp;done),.inl ⟨h14,rfl,rfl⟩⟩)
 refine Bq ?_
 refine Br ?_ ?_<;>intro h22
 ·refine Bq<|.seq ?_
  refine Bq<|.block ?_
  refine Cl 2 2 3 1 (by decide) rfl rfl ?_
  simp[go_sem,-Prod.exists]
  refine Bs x.reqs.length (fun i1 (y1:(List Int))=>⟨[(6,.ptr 0 0),(7,.ptr 1 0),(26,.mReq x.reqs),(27,.li x.reqs.length),(28,.li i1)],[.box 56 [.li 0,.nil 1,.nil 1,.nil 1],.box 56 [.li 19,.nil 1,.own 2 y1.length,.nil 1],.row 3 1 false false (tI y1)]⟩) (fun i1 y1=>y1.length=2*i1/\y1=(x.reqs.take i1).flatMap fun r=>[r.id,r.unt]) ([]) (wk Dy [1,2,3]) (⟨rfl,rfl⟩) fun i1 y1 hi1 hy1=>?_
  refine Bq<|.seq ?_
  refine Br ?_ ?_<;>intro h29
  ·refine Bp<|.seq<|.block ?_
   obtain⟨e1,H1⟩:=gx x.reqs i1
   refine Bu H1 ?_
   refine B0 H1 ?_
   refine B0 H1 ?_
   refine⟨by omega,(y1++([e1.id,e1.unt])),?_,wk (Fe (Dw ((i1:Int)+1)) H1) [0,1,2]⟩
   exact⟨by simp;omega,by rw[hy1.2,List.take_add_one,H1];simp⟩
  refine Bt<|.R ?_
  refine B2 Dy 2 ?_
  exact .ret (Eu Dy ⟨19,[],y1,[]⟩ ⟨rfl,rfl,by dsimp only;omega,.inr (.inl ⟨h22,rfl,by have h:=hy1.2;rwa[Bf (by omega)] at h⟩)⟩)
 refine Bp<|.R<|.seq ?_
 refine Bq<|.block ?_
 refine Bs x.reg.toks.length (fun i2 (y2:Int)=>⟨[(3,.ptr 0 0),(6,.ptr 1 0),(10,.li y2),(45,.mTok x.reg.toks),(46,.li x.reg.toks.length),(47,.li i2)],[.box 70 (x.a false),.box 56 [.li 0,.nil 1,.nil 1,.nil 1]]⟩) (fun i2 y2=>0<=y2/\y2<=i2) (0) (wk Dy [0,1]) (by simp) fun i2 y2 hi2 hy2=>?_
 refine Bq<|.seq ?_
 refine Br ?_ ?_<;>intro h48
 ·refine Bp<|.seq<|.block ?_
  obtain⟨e2,H2⟩:=gx x.reg.toks i2
  refine Bu H2 ?_
  refine Bu H2 ?_
  refine Br ?_ ?_<;>intro h53
  ·refine B0 H2 ?_
   refine B0 H2 ?_
   exact⟨by omega,(IntKind.i64.wrap (y2+1)),by rw[Dw _];omega,wk (Fe (Dw ((i2:Int)+1)) H2) [0,1]⟩
  refine Bp<|.H1 H2 ?_
  exact⟨by omega,(y2),by omega,wk (Fe (Dw ((i2:Int)+1)) H2) [0,1]⟩
 refine Bt<|.R ?_
 refine B2 Dy 2 ?_
 exact .ret (Eu Dy ⟨20,[],[y2,IntKind.i64.wrap (8 - x.reg.vehs.length),IntKind.i64.wrap (x.reg.ag.rq - x.reqs.length),x.reg.bk.lv],[]⟩ ⟨rfl,rfl,by (simp;done),.inr (.inr ⟨h14,h22,rfl,y2,hy2.1,by omega,rfl⟩)⟩)
def Ie:Dz:=(Eo (Wb x k now h1 h2)).choose
theorem Amf:PP 192 [] [x.g,.li k,.li now] [] (.agg ((Ie x k now h1 h2).a false)):=(Eo (Wb x k now h1 h2)).choose_spec.1
theorem W7:(Ie x k now h1 h2).tok=[]/\(Ie x k now h1 h2).data=[]/\(Ie x k now h1 h2).args.length<=2000/\A0c x k now (Ie x k now h1 h2):=(Eo (Wb x k now h1 h2)).choose_spec.2
end
section
structure Fc where
  l:List Int
  pos:Int
def Fc.a (fr:Bool) (x:Fc):List AV:=[.imm fr 1 (tI x.l),.li x.pos]
abbrev Fc.g (x:Fc):AV:=.agg (x.a false)
attribute [go_sem] Fc.g
attribute [go_sem] Fc.a
def Ay8 (P:Program) (m:Nat) {D:Type} (rs:List ResultVar) (F:D->AV) (S:D->List Ob) (Q:D->Prop) (e:Exit) (st:St):Prop:=∃d,Rm P m rs (S d) (F d) e st/\Q d
variable {f:FuncId} {fn:Func} {args:List AV} {σa:List Ob} {rs:List ResultVar}
theorem Aer {P:Program} {c:Code} {D:Type} {F:D->AV} {S:D->List Ob} {Q:D->Prop} (hf:P.funcs[f]? = some fn) (hb:fn.body=some c) (hn:(fn.name == "runtime.NumGoroutine")=false) (hrs:fn.results=rs.toArray) (hk:args.length<=fn.ntmps) (h:VX P fn.ntmps σa.length c ⟨H0 0 args,σa⟩ (Ay8 P σa.length rs F S Q)):∃d,E4 P f σa args (S d) (F d)/\Q d:=by
 obtain⟨e,s,h1,d,h2,h3⟩:=h
 refine⟨d,Aeo hf hb hn hrs hk (h1.mono ?_),h3⟩
 rintro e' s' ⟨rfl,rfl⟩
 exact h2
def Cx {D:Type} (f:FuncId) (σa:List Ob) (args:List AV) (S:D->List Ob) (F:D->AV) (Q:D->Prop):Prop:=∃d,PP f σa args (S d) (F d)/\Q d
theorem T0 {c:Code} {D:Type} {F:D->AV} {S:D->List Ob} {Q:D->Prop} (hf:Tryz.prog.funcs[f]? = some fn) (h:VX Tryz.prog fn.ntmps σa.length c ⟨H0 0 args,σa⟩ (Ay8 Tryz.prog σa.length rs F S Q)) (hb:fn.body=some c:=by rfl) (hn:(fn.name == "runtime.NumGoroutine")=false:=by rfl) (hrs:fn.results=rs.toArray:=by rfl) (hk:args.length<=fn.ntmps:=by exact Nat.le_of_ble_eq_true rfl):Cx f σa args S F Q:=Aer hf hb hn hrs hk h
theorem Oe (k:Fc) (h:k.l.length<=300):Cx 34 [.box 84 (k.a false)] [.ptr 0 0] (fun d:Bool×Fc=>[.box 84 (d.2.a false)]) (fun d=>.lb d.1) (fun d=>d.2=k):=by
 refine T0 Tryz.func34 ?_
 refine Bq ?_
 refine VX.D ?_
 exact .ret ⟨(decide ((k.pos:Int)<k.l.length),k),rW Dy [0],rfl⟩
theorem Dv (k:Fc) (n:Int) (h:k.l.length<=300) (h0:0<=k.pos) (h1:1<=n) (h2:n<=1000000):Cx 26 [.box 84 (k.a false)] [.ptr 0 0,.li n] (fun d:Int×Fc=>[.box 84 (d.2.a false)]) (fun d=>.li d.1) (fun d=>d.2.l=k.l/\k.pos<=d.2.pos/\(0<=d.1/\d.1<n/\(k.l=[]->d.1=0))):=by
 refine T0 Tryz.func26 ?_
 refine Bq<|.seq ?_
 refine VX.D ?_
 refine Br ?_ ?_<;>intro h14
 ·refine Bq ?_
  exact .ret ⟨(0,k),rW Dy [0],(by exact⟨rfl,by dsimp only;omega,by dsimp only;omega,by dsimp only;omega,fun _=>rfl⟩)⟩
 have hw0:=Dw k.pos (by omega) (by omega)
 refine Bp ?_
 have hw1:=Dw (k.pos+1:Int)
 refine Bu hw1 ?_
 obtain⟨e2,H2⟩:=gx k.l k.pos.toNat
 refine Dd (I1 hw1 H2 hw0) (Nb e2 n (by assumption) (by assumption)) ?_
 exact .ret ⟨((Kc e2 n (by assumption) (by assumption)),⟨k.l,(k.pos+1)⟩),rW (Fe hw1 H2) [0],(by first | exact⟨rfl,by dsimp only;omega,by dsimp only;omega,by dsimp only;omega,fun _=>rfl⟩ | exact⟨rfl,by dsimp only;omega,(No _ _ h1 h2).1,(No _ _ h1 h2).2,fun e=>absurd h14 (by rw[e];simp;omega)⟩)⟩
end
theorem Eg (k:Fc) (lo:Int) (hi:Int) (h:k.l.length<=300) (h0:0<=k.pos) (h1:0<=lo) (h2:lo<=hi) (h3:hi<=1000):Cx 25 [.box 84 (k.a false)] [.ptr 0 0,.li lo,.li hi] (fun d:Int×Fc=>[.box 84 (d.2.a false)]) (fun d=>.li d.1) (fun d=>d.2.l=k.l/\k.pos<=d.2.pos/\lo<=d.1/\d.1<=hi/\(k.l=[]->d.1=lo)):=by
 refine T0 Tryz.func25 ?_
 obtain⟨N1,hN1,hq1⟩:=Dv k (hi - lo+1) h h0 (by omega) (by omega)
 have hw3:=Dw (lo+N1.1)
 refine Bu hw3 ?_
 have hw1:=Dw (hi - lo:Int)
 have hw2:=Dw ((hi - lo)+1:Int)
 refine Da (I1 hw3 hw1 hw2) [0] hN1 ?_
 exact .ret ⟨((lo+N1.1),N1.2),rW (I1 hw3 hw1 hw2) [0],⟨hq1.1,hq1.2.1,by dsimp only;omega,by dsimp only;omega,fun e=>by have:=hq1.2.2.2.2 e;dsimp only;omega⟩⟩
theorem Nx:By []:=fun x h=>by cases h
theorem Xm (x:Int):By [IntKind.u8.wrap x]:=fun y hy=>by simp at hy;subst hy;exact Rv x
theorem A2x (a b:Int):By [Ey .xor .u8 a b]:=Xm _
theorem Hw (n:Int):Ct 32 [.li n] (fun d:List Int=>.mY d) (fun d=>d.length=8/\By d):=by
 refine Ev Tryz.func32 ?_
 refine Bq ?_
 refine Bq<|.seq ?_
 refine Bq<|.block ?_
 refine Cf 3 5 1 (by decide) (k':=1) (by simp[go_sem]) ?_
 simp[go_sem,-Prod.exists]
 refine Bs 8 (fun i1 (y1:(List Int))=>⟨[(0,.li n),(3,.own 0 y1.length),(5,.li i1)],[.row 5 1 false false (tY y1)]⟩) (fun i1 y1=>y1.length=i1/\By y1) ([]) (wk Dy [0]) (⟨rfl,Nx⟩) fun i1 y1 hi1 hy1=>?_
 refine Bq<|.seq ?_
 refine Br ?_ ?_<;>intro h6
 ·refine Bp<|.seq<|.block<|.R ?_
  refine B0 Dy ?_
  refine Ch ?_
  exact⟨by omega,(y1++([Ey .xor .u8 (IntKind.u8.wrap (Int.fdiv (IntKind.u64.wrap n) (2 ^ min (Int.toNat (IntKind.u64.wrap (8*(IntKind.u64.wrap i1)))) 64))) (IntKind.u8.wrap (IntKind.i64.wrap (IntKind.i64.wrap (29*i1)+7)))])),⟨by simp;omega,hy1.2.app (A2x _ _)⟩,wk (Dw ((i1:Int)+1)) [0]⟩
 refine Bt<|.R ?_
 refine B2 Dy 0 ?_
 exact .ret (Eu Dy y1 ⟨by omega,hy1.2⟩)
def Ec (n:Int):List Int:=(Eo (Hw n)).choose
theorem Ge (n:Int):PP 32 [] [.li n] [] (.mY (Ec n)):=(Eo (Hw n)).choose_spec.1
theorem Jb (n:Int):(Ec n).length=8/\By (Ec n):=(Eo (Hw n)).choose_spec.2
section
variable (a:Int) (s:Int) (b:List Int) (h:b.length<=1000)
include a s h
theorem I9:Ct 20 [.li a,.li s,.mY b] (fun d:List Int=>.mY d) (fun d=>d.length=b.length+2/\(By b->By d)):=by
 refine Ev Tryz.func20 ?_
 have e2:2+b.length=b.length+1+1:=by omega
 refine Bq ?_
 refine Bu Dy ?_
 refine B2 Dy 0 ?_
 refine Bz (Fl ?_);simp[go_sem,e2]
 exact⟨([IntKind.u8.wrap a,IntKind.u8.wrap s])++b,by rfl,⟨by simp,fun h=>by exact (Xm _).app ((Xm _).app h)⟩⟩
def Em:List Int:=(Eo (I9 a s b h)).choose
theorem G0:PP 20 [] [.li a,.li s,.mY b] [] (.mY (Em a s b h)):=(Eo (I9 a s b h)).choose_spec.1
theorem Ll:(Em a s b h).length=b.length+2/\(By b->By (Em a s b h)):=(Eo (I9 a s b h)).choose_spec.2
end
theorem M6 (k:Fc) (num:Int) (ri:Int) (h:k.l.length<=300) (h0:0<=k.pos):Cx 28 [.box 84 (k.a false)] [.ptr 0 0,.li num,.li ri] (fun d:Hy×Fc=>[.box 84 (d.2.a false)]) (fun d=>d.1.g) (fun d=>d.2.l=k.l/\(0<=d.2.pos/\(k.l=[]->d.1.se=1))/\d.1.sec.length=8/\d.1.lims.length=4/\(∀x∈d.1.lims,0<=x/\x<=3)/\d.1.ri=ri/\d.1.cls=3/\(1<=d.1.rq/\d.1.rq<=3)/\(1<=d.1.se/\d.1.se<=2)/\(1<=d.1.ra/\d.1.ra<=3)/\d.1.ra<=d.1.bu/\d.1.bu<=7/\By d.1.sec):=by
 refine T0 Tryz.func28 ?_
 refine Bq ?_
 obtain⟨D1,hD1,hd1⟩:=Eg k 1 3 (by assumption) (by assumption) (by omega) (by omega) (by omega)
 have hl1:D1.2.l.length<=300:=by rw[hd1.1];assumption
 have hp1:0<=D1.2.pos:=by omega
 obtain⟨D2,hD2,hd2⟩:=Eg D1.2 1 3 (by assumption) (by assumption) (by omega) (by omega) (by omega)
 have hl2:D2.2.l.length<=300:=by rw[hd2.1];assumption
 have hp2:0<=D2.2.pos:=by omega
 obtain⟨D3,hD3,hd3⟩:=Dv D2.2 3 (by assumption) (by assumption) (by omega) (by omega)
 have hl3:D3.2.l.length<=300:=by rw[hd3.1];assumption
 have hp3:0<=D3.2.pos:=by omega
 obtain⟨D4,hD4,hd4⟩:=Dv D3.2 3 (by assumption) (by assumption) (by omega) (by omega)
 have hl4:D4.2.l.length<=300:=by rw[hd4.1];assumption
 have hp4:0<=D4.2.pos:=by omega
 obtain⟨D5,hD5,hd5⟩:=Eg D4.2 1 3 (by assumption) (by assumption) (by omega) (by omega) (by omega)
 have hl5:D5.2.l.length<=300:=by rw[hd5.1];assumption
 have hp5:0<=D5.2.pos:=by omega
 obtain⟨D6,hD6,hd6⟩:=Eg D5.2 1 2 (by assumption) (by assumption) (by omega) (by omega) (by omega)
 have hl6:D6.2.l.length<=300:=by rw[hd6.1];assumption
 have hp6:0<=D6.2.pos:=by omega
 obtain⟨D7,hD7,hd7⟩:=Eg D6.2 1 3 (by assumption) (by assumption) (by omega) (by omega) (by omega)
 have hl7:D7.2.l.length<=300:=by rw[hd7.1];assumption
 have hp7:0<=D7.2.pos:=by omega
 refine Dk 13 2 (by rfl) fun K1 hK1=>?_
 simp[go_sem]
 obtain⟨Y1,cY1,qY1⟩:=Eo (Hw (IntKind.i64.wrap (1000+num)))
 refine .l cY1 ?_
 simp[go_sem]
 refine .o [0] (hD1) ?_
 simp[go_sem]
 refine .o [0] (hD2) ?_
 simp[go_sem]
 refine .o [0] (hD3) ?_
 simp[go_sem]
 refine .o [0] (hD4) ?_
 simp[go_sem]
 refine .o [0] (hD5) ?_
 simp[go_sem]
 refine .o [0] (hD6) ?_
 simp[go_sem]
 refine .o [0] (hD7) ?_
 simp[go_sem]
 refine hK1 _ ?_;clear hK1
 obtain⟨D8,hD8,hd8⟩:=Dv D7.2 5 (by assumption) (by assumption) (by omega) (by omega)
 have hl8:D8.2.l.length<=300:=by rw[hd8.1];assumption
 have hp8:0<=D8.2.pos:=by omega
 have hw9:=Dw (D7.1+D8.1)
 refine Cw (fun K kk=>by simp[go_sem,hw9];refine .o [0] (hD8) ?_;simp[go_sem,hw9];exact kk) ?_
 refine Bq ?_
 exact .ret ⟨(⟨Y1,ri,3,[D1.1,D2.1,D3.1,D4.1],D5.1,D6.1,D7.1,(D7.1+D8.1)⟩,D8.2),rW Dy [0],⟨by simp only[hd1.1,hd2.1,hd3.1,hd4.1,hd5.1,hd6.1,hd7.1,hd8.1],⟨hp8,fun e=>hd6.2.2.2.2 (by simp only[hd1.1,hd2.1,hd3.1,hd4.1,hd5.1,e])⟩,qY1.1,rfl,by simp;omega,rfl,rfl,by dsimp only;omega,by dsimp only;omega,by dsimp only;omega,by dsimp only;omega,by dsimp only;omega,qY1.2⟩⟩
end Go.Proofs.YtkkimgjinbaemaaGreat
