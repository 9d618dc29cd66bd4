/- The walk. -/
import Derived.Test.YtkkimgjinbaemaaGreatKan
noncomputable section
namespace Go.Proofs.YtkkimgjinbaemaaGreat
open Go.RowKit
set_option linter.unusedVariables false
set_option linter.unusedSimpArgs false
set_option linter.defProp false
set_option linter.unusedSectionVars false
set_option maxRecDepth 100000
set_option maxHeartbeats 4000000
section
variable {P:Program} {f:FuncId}
theorem Ajd {d:Option Tmp} {ty:TypeId} {os:List VO} {st:St} {K:St->Prop} {xs:List Operand} {ts:Array TypeId} {v:AV} {want:Bool} {args':List AV} {σa σr:List Ob} {res:AV} (sel:List Nat) (hp:E4 P f σa args' σr res) (hv:Ih v.sv=true/\(v.sb&&(Fh v.sv == want))=true) (hb:(xs.all fun x=>(st.raw x).sb)=true) (hσ:(sel.map fun id=>((st.o id).passR st.o fun id=>M3 id sel 0).low)=σa) (ha:Kf (G9 st.o (fun id=>M3 id sel 0) (xs.map fun x=>(st.raw x).sv))=args') (hc:Adb (xs.map fun x=>(st.raw x).sv) st sel σr res) (h:runs P os (st.after d (.gd true (O0 sel st.ob.length σr res).1) (O0 sel st.ob.length σr res).2) K) :
  Zp P d (.call ⟨.value (.func f),xs.toArray,ts⟩) ty v want os st K :=
 Aoc hv ⟨_,⟨⟨rfl,by simpa using hb⟩,.inr ⟨f,[],sel,σr,res,rfl,by simpa using Yt.of sel hp hσ ha hc _,rfl⟩⟩,h⟩
theorem Oc.one {e:Mg} (h:Oc e):∀x∈[e],Oc x:=fun x hx=>by simp at hx;rw[hx];exact h
theorem A32 {kd a s n:Int} {h:(Ec n).length<=1000} {args:List Int} (hl:args.length<=20):MkQ ⟨kd,Em a s (Ec n) h,args,[]⟩:=⟨(Amk (h:=h)).1,(Amk (h:=h)).2,hl,rfl⟩
theorem A37 {j:Gc} (h:Atp j):1<=j.phs.length:=by
 obtain⟨s,hs,x,_,hl,_⟩:=h
 rw[hl]
 have:∀s∈Xr,1<=s.length:=by decide +kernel
 exact this s hs
theorem Oc.app {l:List Mg} {e:Mg} (hl:∀x∈l,Oc x) (h:Oc e):∀x∈l++[e],Oc x:=fun x hx=>by
 rcases A0.1 hx with h1 | h1
 ·exact hl x h1
 exact Oc.one h x h1
theorem mkF {m:Dz} (h:MkQ m):∃d:List Int,PP 18 [] [m.g] [.row 5 1 false false (tY d)] (.own 0 d.length)/\d.length<=210/\By d:=by
 obtain⟨d,h1,h2,h3⟩:=Si m (by rw[h.1];decide) (Ak h.2.2.1 (by decide)) (by rw[h.2.2.2];exact Ae _)
 exact⟨d,h1,h2,h3 h.2.1 (by rw[h.2.2.2];exact Nx)⟩
theorem E4.bright {σa:List Ob} {args:List AV} {ty k:Nat} {fr fz:Bool} {es:List (List T)} {res:AV} (h:E4 P f σa args [.row ty k fr fz es] res) (hp:es.all (fun e=>e.all T.plain)=true):E4 P f σa args [.row ty k true fz es] res :=
 ⟨h.1,fun E β us hn ho hβ r=>(h.2 E β us hn ho hβ r).mono fun e w' ⟨v,β',he,r'⟩=>⟨v,β',he,(r'.flag (id:=0) rfl (fun _=>.inr hp) (fun h=>h)).1⟩⟩
theorem Azu {m:Dz} (h:MkQ m):∃d:List Int,PP 18 [] [m.g] [] (.imm true 1 (tY d))/\d.length<=210/\By d:=by
 obtain⟨d,h1,h2⟩:=mkF h
 exact⟨d,E4.froz (es:=tY d) (by rw[A2];exact h1.bright (by simp[T.plain])),h2⟩
theorem M5 (k:Fc) (c:E6) (cal:Bool) (h:k.l.length<=300) (h0:0<=k.pos) (hc:Aef 63 c):Cx 13 [.box 84 (k.a false)] [.ptr 0 0,c.g,.lb cal] (fun d:List Mg×Fc=>[.box 84 (d.2.a false)]) (fun d=>.mEv d.1) (fun d=>d.2.l=k.l/\0<=d.2.pos/\(2<=d.1.length/\d.1.length<=200)/\∀e∈d.1,Oc e):=by
 refine T0 Tryz.func13 ?_
 have hag:c.ags.length<=1000000:=Ak hc.na.2 (by decide)
 have hna:=hc.na
 have hph:∀j∈c.juns,j.phs.length<=8/\1<=j.phs.length:=fun j hj=>⟨(hc.hj j hj).2,A37 (hc.jun j hj)⟩
 obtain⟨Y1,cY1,qY1⟩:=Eo (S7 c hag hc.hs)
 have hSv:=cY1
 have hSq:=qY1
 generalize Y1=NS at hSv hSq
 iterate 2 refine Bq ?_
 refine B8 Dy (hSv)<|.seq ?_
 refine Bq<|.block ?_
 refine Cf 7 46 5 (by decide) (k':=5) (by simp[go_sem]) ?_
 simp[go_sem,-Prod.exists]
 refine Bs NS.toNat (fun i1 (y1:(List Mg))=>⟨[(0,.ptr 0 0),(2,.lb cal),(4,.ptr 1 0),(7,.own 2 y1.length),(8,.li NS),(17,.li NS),(18,.li i1)],[.box 84 [.mI k.l,.li k.pos],.box 30 (c.a false),.row 46 5 false false (tEv y1)]⟩) (fun i1 y1=>y1.length=i1/\∀e∈y1,Oc e) ([]) (wk Dy [0,1,2]) (⟨rfl,fun e he=>by cases he⟩) fun i1 y1 hi1 hy1=>?_
 refine Bq<|.seq ?_
 refine Br ?_ ?_<;>intro h19
 ·refine Bp<|.seq<|.block<|.R ?_
  refine B0 Dy ?_
  refine Ch ?_
  exact⟨by omega,(y1++([⟨1,i1,0,0,[]⟩])),⟨by simp;omega,Oc.app hy1.2 (Jj rfl)⟩,wk (Dw ((i1:Int)+1)) [0,1,2]⟩
 refine Bt<|.seq<|.R<|.block ?_
 refine Bs c.ags.length (fun i2 (y2:(List Mg))=>⟨[(0,.ptr 0 0),(2,.lb cal),(4,.ptr 1 0),(7,.own 2 y2.length),(8,.li NS),(29,.li c.ags.length),(30,.li i2)],[.box 84 [.mI k.l,.li k.pos],.box 30 (c.a false),.row 46 5 false false (tEv y2)]⟩) (fun i2 y2=>y2.length<=6+4*i2/\∀e∈y2,Oc e) (y1) (wk Dy [0,1,2]) (⟨by omega,hy1.2⟩) fun i2 y2 hi2 hy2=>?_
 refine Bq<|.seq ?_
 refine Br ?_ ?_<;>intro h31
 ·refine Bp<|.seq<|.block<|.R ?_
  refine B8 Dy (Ge (IntKind.i64.wrap (2000+(IntKind.i64.wrap (10*i2))))) ?_
  refine Bq<|.block ?_
  refine Bs 3 (fun i3 (y3:(List Mg))=>⟨[(0,.ptr 0 0),(2,.lb cal),(4,.ptr 1 0),(7,.own 2 y3.length),(8,.li NS),(10,.li i2),(29,.li c.ags.length),(30,.li i2),(42,.li i3)],[.box 84 [.mI k.l,.li k.pos],.box 30 (c.a false),.row 46 5 false false (tEv y3)]⟩) (fun i3 y3=>y3.length<=7+4*i2+i3/\∀e∈y3,Oc e) (y2++([⟨4,0,i2,0,(Ec (IntKind.i64.wrap (2000+(IntKind.i64.wrap (10*i2)))))⟩])) (wk Dy [0,1,2]) (⟨by simp;omega,Oc.app hy2.2 (Aet rfl)⟩) fun i3 y3 hi3 hy3=>?_
  refine Bq<|.seq ?_
  refine Br ?_ ?_<;>intro h43
  ·refine Bp<|.seq<|.block<|.R ?_
   obtain⟨FR,hFR,hfr⟩:=Azu (m:=⟨4,Em i2 0 (Ec (IntKind.i64.wrap (1000+(i2:Int)))) (Amu _),[(i3:Int),Int.tmod i3 2],[]⟩) (A32 (by simp))
   refine Ci (fun K kk=>by simp[go_sem];refine .l (Td c i2 hag) ?_;simp[go_sem];refine .l (Ge (IntKind.i64.wrap (1000+i2))) ?_;simp[go_sem];refine .lo (G0 i2 0 (Ec (IntKind.i64.wrap (1000+i2))) (Amu _)) rfl (by simp[AV.cln,Ff]) ?_;simp[go_sem];(repeat refine aK ?_);refine .l (hFR) ?_;simp[go_sem];(repeat first | exact kk | refine aK ?_)) ?_
   refine Ch ?_
   exact⟨by omega,(y3++[⟨3,Mu c (i2:Int) hag,0,0,FR⟩]),⟨by simp;omega,Oc.app hy3.2 ⟨by dsimp only;omega,hfr.2⟩⟩,wk (Dw ((i3:Int)+1)) [0,1,2]⟩
  refine Bt<|.R1 ?_
  exact⟨by omega,(y3),⟨by omega,hy3.2⟩,wk (Dw ((i2:Int)+1)) [0,1,2]⟩
 refine Bt<|.H Dy<|.seq<|.block ?_
 refine Cj (fun (y4:(List Int)×Int×(List Mg))=>⟨[(0,.ptr 0 0),(2,.lb cal),(4,.ptr 1 0),(7,.own 2 y4.2.2.length),(8,.li NS)],[.box 84 [.mI y4.1,.li y4.2.1],.box 30 (c.a false),.row 46 5 false false (tEv y4.2.2)]⟩) (fun y4=>y4.1=k.l/\0<=y4.2.1/\(1<=y4.2.2.length/\y4.2.2.length<=160)/\∀e∈y4.2.2,Oc e) (fun y4=>150 - y4.2.2.length) (k.l,k.pos,y2++([⟨6,0,0,0,[]⟩])) (wk Dy [0,1,2]) (⟨rfl,h0,⟨by simp,by simp;omega⟩,Oc.app hy2.2 (Jj rfl)⟩) fun y4 hy4=>?_
 refine B9 ?_
 have hyl:(⟨y4.1,y4.2.1⟩:Fc).l.length<=300:=by show y4.1.length<=300;rw[hy4.1];exact h
 have hyp:0<=(⟨y4.1,y4.2.1⟩:Fc).pos:=hy4.2.1
 have hyk:(⟨y4.1,y4.2.1⟩:Fc).l=k.l:=hy4.1
 obtain⟨⟨LB,LD⟩,hLF,hlf⟩:=Oe ⟨y4.1,y4.2.1⟩ hyl
 dsimp only at hlf hLF
 subst hlf
 refine B3 (fun K kk=>by simp[go_sem];refine .o [0] (hLF) ?_;simp[go_sem];exact kk) ?_
 refine Br ?_ ?_<;>intro h75
 ·refine Bp<|.block ?_
  obtain⟨NN,hNN⟩:∃NN,(if 1<NS then NS else 1)=NN:=⟨_,rfl⟩
  have hnb:1<=NN/\NN<=100:=by rw[<- hNN];split<;>omega
  obtain⟨D1,hD1,hd1⟩:=Dv ⟨y4.1,y4.2.1⟩ NN (by assumption) (by assumption) (by omega) (by omega)
  have hl1:D1.2.l.length<=300:=by rw[hd1.1];assumption
  have hp1:0<=D1.2.pos:=by omega
  have hk1:D1.2.l=k.l:=hd1.1.trans (by assumption)
  refine B3 (fun K kk=>by simp[go_sem,hNN];refine .o [0] (hD1) ?_;simp[go_sem,hNN];exact kk) ?_
  obtain⟨D2,hD2,hd2⟩:=Dv D1.2 12 (by assumption) (by assumption) (by omega) (by omega)
  have hl2:D2.2.l.length<=300:=by rw[hd2.1];assumption
  have hp2:0<=D2.2.pos:=by omega
  have hk2:D2.2.l=k.l:=hd2.1.trans (by assumption)
  refine B3 (fun K kk=>by simp[go_sem];refine .o [0] (hD2) ?_;simp[go_sem];exact kk)<|.block ?_
  refine Ce (by rfl) fun K1 hK1=>?_
  simp[go_sem]
  refine hK1 _ ⟨_,_,_,_,_,_,_,_,rfl,.more (by decide) rfl rfl (.more (by decide) rfl rfl (.one (by decide) rfl rfl)),by decide,rfl,by simp[go_sem];rfl,by simp[go_sem];rfl,by simp[go_sem],?_⟩;clear hK1
  refine Br ?_ ?_<;>intro h122
  ·refine B0 Dy ?_
   refine⟨(D2.2.l,D2.2.pos,y4.2.2++([⟨6,0,0,0,[]⟩])),?_,?_,wQ [0,1,2] ?_ ?_⟩
   ·((simp;omega))
   ·exact⟨hk2,hp2,⟨by simp,by simp;omega⟩,Oc.app hy4.2.2.2 (Jj rfl)⟩
   all_goals simp[go_sem]
  refine Bq ?_
  refine Br ?_ ?_<;>intro h131
  ·obtain⟨D3,hD3,hd3⟩:=Dv D2.2 6 (by assumption) (by assumption) (by omega) (by omega)
   have hl3:D3.2.l.length<=300:=by rw[hd3.1];assumption
   have hp3:0<=D3.2.pos:=by omega
   have hk3:D3.2.l=k.l:=hd3.1.trans (by assumption)
   refine B3 (fun K kk=>by simp[go_sem];refine .o [0] (hD3) ?_;simp[go_sem];exact kk)<|.block ?_
   refine Cj (fun (y5:(List Mg)×Int)=>⟨[(0,.ptr 0 0),(2,.lb cal),(4,.ptr 1 0),(7,.own 2 y5.1.length),(8,.li NS),(13,.li y5.2)],[.box 84 [.mI D3.2.l,.li D3.2.pos],.box 30 (c.a false),.row 46 5 false false (tEv y5.1)]⟩) (fun y5=>y5.1.length+y5.2=y4.2.2.length+D3.1 /\ -1<=y5.2/\∀e∈y5.1,Oc e) (fun y5=>(y5.2+1).toNat) (y4.2.2,D3.1) (wk Dy [0,1,2]) (⟨by simp,by dsimp only;omega,hy4.2.2.2⟩) fun y5 hy5=>?_
   refine B9<|.R ?_
   refine Br ?_ ?_<;>intro h136
   ·refine Bp<|.seq<|.block<|.H1 Dy ?_
    have hw1:=Dw (y5.2 - 1:Int)
    refine B0 hw1 ?_
    refine⟨(y5.1++([⟨6,0,0,0,[]⟩]),(y5.2 - 1)),?_,?_,wQ [0,1,2] ?_ ?_⟩
    ·(dsimp only;omega)
    ·exact⟨by simp;omega,by dsimp only;omega,Oc.app hy5.2.2 (Jj rfl)⟩
    all_goals simp[go_sem,hw1]
   refine Bt ?_
   refine⟨(D3.2.l,D3.2.pos,y5.1),?_,?_,wQ [0,1,2] ?_ ?_⟩
   ·((simp;omega))
   ·exact⟨hk3,hp3,⟨by dsimp only;omega,by dsimp only;omega⟩,hy5.2.2⟩
   all_goals simp[go_sem]
  refine Bq ?_
  refine Br ?_ ?_<;>intro h143
  ·obtain⟨O1,hO1,ho1⟩:=Pa D2.2 c D1.1 cal (by assumption) (by assumption)
   refine Ci (fun K kk=>by simp[go_sem];refine .o [0] (hO1) ?_;simp[go_sem];(repeat first | exact kk | refine aK ?_)) ?_
   refine⟨(O1.2.l,O1.2.pos,y4.2.2++([O1.1])),?_,?_,wQ [0,1,2] ?_ ?_⟩
   ·((simp;omega))
   ·exact⟨ho1.1.trans hk2,ho1.2.1,⟨by simp,by simp;omega⟩,Oc.app hy4.2.2.2 ho1.2.2⟩
   all_goals simp[go_sem]
  obtain⟨Y2,cY2,qY2⟩:=Eo (Sh c D1.1 hag)
  obtain⟨M1,hM1,hm1⟩:=I8 D2.2 c Y2 cal (by assumption) (by assumption) hc.nj hph
  have hlM1:M1.2.l.length<=300:=by rw[hm1.1];assumption
  have hpM1:=hm1.2.1
  have hkM1:M1.2.l=k.l:=hm1.1.trans (by assumption)
  obtain⟨F1,hF1,hf1⟩:=mkF hm1.2.2
  refine Cw (fun K kk=>by simp[go_sem];refine .l cY2 ?_;simp[go_sem];refine .o [0] (hM1) ?_;simp[go_sem];refine .l (hF1) ?_;simp[go_sem];exact kk)<|.seq ?_
  obtain⟨D4,hD4,hd4⟩:=Dv M1.2 3 (by assumption) (by assumption) (by omega) (by omega)
  have hl4:D4.2.l.length<=300:=by rw[hd4.1];assumption
  have hp4:0<=D4.2.pos:=by omega
  have hk4:D4.2.l=k.l:=hd4.1.trans (by assumption)
  refine B3 (fun K kk=>by simp[go_sem];refine .o [0] (hD4) ?_;simp[go_sem];exact kk) ?_
  refine Br ?_ ?_<;>intro h92
  ·obtain⟨M2,hM2,hm2⟩:=I8 D4.2 c Y2 cal (by assumption) (by assumption) hc.nj hph
   have hlM2:M2.2.l.length<=300:=by rw[hm2.1];assumption
   have hpM2:=hm2.2.1
   have hkM2:M2.2.l=k.l:=hm2.1.trans (by assumption)
   obtain⟨F2,hF2,hf2⟩:=Azu hm2.2.2
   refine Dg (fun K kk=>by simp[go_sem];refine .l cY2 ?_;simp[go_sem];refine .o [0] (hM2) ?_;simp[go_sem];refine .l (hF2) ?_;simp[go_sem];(repeat first | exact kk | refine aK ?_))<|.seq ?_
   by_cases hc25:cal=false
   ·have hcl:(M2.2:Fc).l.length<=300:=by assumption
    have hcp:0<=(M2.2:Fc).pos:=by assumption
    have hck:(M2.2:Fc).l=k.l:=by assumption
    have hB25:((F1++F2)).length<=1000/\By ((F1++F2)):=by first | exact⟨by omega,hf1.2⟩ | exact⟨by simp;omega,hf1.2.app hf2.2⟩
    obtain⟨D5,hD5,hd5⟩:=Dv M2.2 7 (by assumption) (by assumption) (by omega) (by omega)
    have hl5:D5.2.l.length<=300:=by rw[hd5.1];assumption
    have hp5:0<=D5.2.pos:=by omega
    have hk5:D5.2.l=k.l:=hd5.1.trans (by assumption)
    refine B2 hc25 3 ?_
    refine B3 (fun K kk=>by simp[go_sem,hc25];refine Ajd [0] (hD5) (by simp[go_sem,hc25]) (by simp[go_sem,hc25]) (by simp[go_sem,hc25]) (by simp[go_sem,hc25]) (by constructor<;>simp[go_sem]) ?_;simp[go_sem,hc25];exact kk) ?_
    refine Br ?_ ?_<;>intro h109
    ·obtain⟨D6,hD6,hd6⟩:=Dv D5.2 99 (by assumption) (by assumption) (by omega) (by omega)
     have hl6:D6.2.l.length<=300:=by rw[hd6.1];assumption
     have hp6:0<=D6.2.pos:=by omega
     have hk6:D6.2.l=k.l:=hd6.1.trans (by assumption)
     obtain⟨D7,hD7,hd7⟩:=Dv D6.2 1024 (by assumption) (by assumption) (by omega) (by omega)
     have hl7:D7.2.l.length<=300:=by rw[hd7.1];assumption
     have hp7:0<=D7.2.pos:=by omega
     have hk7:D7.2.l=k.l:=hd7.1.trans (by assumption)
     have hq26:=Lm ((F1++F2)) D6.1 D7.1 hB25.1
     refine Ci (fun K kk=>by simp[go_sem,hc25];refine .o [0] (hD6) ?_;simp[go_sem,hc25];refine .o [0] (hD7) ?_;simp[go_sem,hc25];refine .lo (Lj (F1++F2) D6.1 D7.1 hB25.1) (by simp[go_sem]) (by simp[AV.cln,Ff]) ?_;simp[go_sem,hc25];exact kk) ?_
     refine B0 hc25 ?_
     refine⟨(D7.2.l,D7.2.pos,y4.2.2++([⟨3,D1.1,0,0,(G2 (F1++F2) D6.1 D7.1 hB25.1)⟩])),?_,?_,wQ [0,1,2] ?_ ?_⟩
     ·((simp;omega))
     ·exact⟨by assumption,by assumption,⟨by simp,by simp;omega⟩,Oc.app hy4.2.2.2 ⟨by dsimp only;omega,hq26.2 hB25.2⟩⟩
     all_goals simp[go_sem,hc25]
    refine Bp<|.H1 hc25 ?_
    refine⟨(D5.2.l,D5.2.pos,y4.2.2++([⟨3,D1.1,0,0,F1++F2⟩])),?_,?_,wQ [0,1,2] ?_ ?_⟩
    ·((simp;omega))
    ·exact⟨by assumption,by assumption,⟨by simp,by simp;omega⟩,Oc.app hy4.2.2.2 ⟨by dsimp only;omega,hB25.2⟩⟩
    all_goals simp[go_sem,hc25]
   have hcl:(M2.2:Fc).l.length<=300:=by assumption
   have hcp:0<=(M2.2:Fc).pos:=by assumption
   have hck:(M2.2:Fc).l=k.l:=by assumption
   have hB25:((F1++F2)).length<=1000/\By ((F1++F2)):=by first | exact⟨by omega,hf1.2⟩ | exact⟨by simp;omega,hf1.2.app hf2.2⟩
   refine B2 hc25 3 ?_
   refine B3 (fun K kk=>by simp[go_sem,hc25];refine Aa4 (by simp[go_sem,hc25]) ?_;simp[go_sem,hc25];exact kk) ?_
   refine Ck ?_ ?_<;>intro h109<;>simp[go_sem] at h109
   refine Bp<|.H1 hc25 ?_
   refine⟨(M2.2.l,M2.2.pos,y4.2.2++([⟨3,D1.1,0,0,F1++F2⟩])),?_,?_,wQ [0,1,2] ?_ ?_⟩
   ·((simp;omega))
   ·exact⟨by assumption,by assumption,⟨by simp,by simp;omega⟩,Oc.app hy4.2.2.2 ⟨by dsimp only;omega,hB25.2⟩⟩
   all_goals simp[go_sem,hc25]
  refine Bp<|.seq ?_
  by_cases hc25:cal=false
  ·have hcl:(D4.2:Fc).l.length<=300:=by assumption
   have hcp:0<=(D4.2:Fc).pos:=by assumption
   have hck:(D4.2:Fc).l=k.l:=by assumption
   have hB25:(F1).length<=1000/\By (F1):=by exact⟨by omega,hf1.2⟩
   obtain⟨D5,hD5,hd5⟩:=Dv D4.2 7 (by assumption) (by assumption) (by omega) (by omega)
   have hl5:D5.2.l.length<=300:=by rw[hd5.1];assumption
   have hp5:0<=D5.2.pos:=by omega
   have hk5:D5.2.l=k.l:=hd5.1.trans (by assumption)
   refine B2 hc25 3 ?_
   refine B3 (fun K kk=>by simp[go_sem,hc25];refine Ajd [0] (hD5) (by simp[go_sem,hc25]) (by simp[go_sem,hc25]) (by simp[go_sem,hc25]) (by simp[go_sem,hc25]) (by constructor<;>simp[go_sem]) ?_;simp[go_sem,hc25];exact kk) ?_
   refine Br ?_ ?_<;>intro h109
   ·obtain⟨D6,hD6,hd6⟩:=Dv D5.2 99 (by assumption) (by assumption) (by omega) (by omega)
    have hl6:D6.2.l.length<=300:=by rw[hd6.1];assumption
    have hp6:0<=D6.2.pos:=by omega
    have hk6:D6.2.l=k.l:=hd6.1.trans (by assumption)
    obtain⟨D7,hD7,hd7⟩:=Dv D6.2 1024 (by assumption) (by assumption) (by omega) (by omega)
    have hl7:D7.2.l.length<=300:=by rw[hd7.1];assumption
    have hp7:0<=D7.2.pos:=by omega
    have hk7:D7.2.l=k.l:=hd7.1.trans (by assumption)
    have hq26:=Lm (F1) D6.1 D7.1 hB25.1
    refine Ci (fun K kk=>by simp[go_sem,hc25];refine .o [0] (hD6) ?_;simp[go_sem,hc25];refine .o [0] (hD7) ?_;simp[go_sem,hc25];refine .lo (Lj F1 D6.1 D7.1 hB25.1) (by simp[go_sem]) (by simp[AV.cln,Ff]) ?_;simp[go_sem,hc25];exact kk) ?_
    refine B0 hc25 ?_
    refine⟨(D7.2.l,D7.2.pos,y4.2.2++([⟨3,D1.1,0,0,(G2 F1 D6.1 D7.1 hB25.1)⟩])),?_,?_,wQ [0,1,2] ?_ ?_⟩
    ·((simp;omega))
    ·exact⟨by assumption,by assumption,⟨by simp,by simp;omega⟩,Oc.app hy4.2.2.2 ⟨by dsimp only;omega,hq26.2 hB25.2⟩⟩
    all_goals simp[go_sem,hc25]
   refine Bp<|.H1 hc25 ?_
   refine⟨(D5.2.l,D5.2.pos,y4.2.2++([⟨3,D1.1,0,0,F1⟩])),?_,?_,wQ [0,1,2] ?_ ?_⟩
   ·((simp;omega))
   ·exact⟨by assumption,by assumption,⟨by simp,by simp;omega⟩,Oc.app hy4.2.2.2 ⟨by dsimp only;omega,hB25.2⟩⟩
   all_goals simp[go_sem,hc25]
  have hcl:(D4.2:Fc).l.length<=300:=by assumption
  have hcp:0<=(D4.2:Fc).pos:=by assumption
  have hck:(D4.2:Fc).l=k.l:=by assumption
  have hB25:(F1).length<=1000/\By (F1):=by exact⟨by omega,hf1.2⟩
  refine B2 hc25 3 ?_
  refine B3 (fun K kk=>by simp[go_sem,hc25];refine Aa4 (by simp[go_sem,hc25]) ?_;simp[go_sem,hc25];exact kk) ?_
  refine Ck ?_ ?_<;>intro h109<;>simp[go_sem] at h109
  refine Bp<|.H1 hc25 ?_
  refine⟨(D4.2.l,D4.2.pos,y4.2.2++([⟨3,D1.1,0,0,F1⟩])),?_,?_,wQ [0,1,2] ?_ ?_⟩
  ·((simp;omega))
  ·exact⟨by assumption,by assumption,⟨by simp,by simp;omega⟩,Oc.app hy4.2.2.2 ⟨by dsimp only;omega,hB25.2⟩⟩
  all_goals simp[go_sem,hc25]
 refine Bt<|.H Dy ?_
 refine B2 Dy 2 ?_
 exact .ret ⟨(y4.2.2++([⟨6,0,0,0,[]⟩]),(⟨y4.1,y4.2.1⟩:Fc)),rW Dy [0],⟨hy4.1,hy4.2.1,⟨by simp;omega,by first | (simp;done) | (simp;omega)⟩,Oc.app hy4.2.2.2 (Jj rfl)⟩⟩
end
theorem Afn {l:List Hy} (hs:∀a∈l,1<=a.se/\a.se<=2):∀k,k<=l.length->Ek l k=((l.take k).map Hy.se).sum
 | 0,_=>rfl
 | k+1,h=>by
  have hk:l[k]? = some l[k]:=Aa (by omega)
  rw[R6 hk,Afn hs k (by omega),List.take_add_one,hk,(Hf _).2.2 (hs _ (List.getElem_mem _))]
  simp only[List.map_append,List.sum_append,Option.toList_some,List.map_cons,List.map_nil,List.sum_cons,List.sum_nil]
  omega
theorem Uu {l:List Hy} {s:Nat}:∀k,(s:Int)<Ek l k->∃(i:Nat) (a:Hy) (j:Nat),l[i]? = some a/\(j:Int)<Ed a/\s=(Ek l i).toNat+j
 | 0,h=>by rw[Ek] at h;omega
 | k+1,h=>by
  by_cases hk:(s:Int)<Ek l k
  ·exact Uu k hk
  have h0:=(Iz l k).1
  rw[Ek] at h
  cases ha:l[k]? with
  | none=>rw[ha] at h;simp only at h;omega
  | some a=>rw[ha] at h;simp only at h;exact⟨k,a,s - (Ek l k).toNat,ha,by omega,by omega⟩
theorem Avw {L:List Dz} {m:Dz} (h:m∈L):(Nt m).length<=(L.map Nt).flatten.length:=by
 induction L with
 | nil=>cases h
 | cons x L ih =>
  rw[List.map_cons,List.flatten_cons,Bo]
  rcases List.mem_cons.1 h with rfl | h
  ·omega
  have:=ih h;omega
theorem Ase {b:I7} {e:Mg} (hb:Ru b) (he:Oc e) (hk:e.kind=6) (hn:b.city.now=0) {a:Hy} (ha:b.city.cfg.ags[0]? = some a) (hj:0<Ed a) {s:Fi} (hs:b.sess[0]? = some s) (ho:s.op=true):(Vv b e).2.2=true/\((Vv b e).2.1.ses.length:Int)=Ek b.city.cfg.ags b.city.cfg.ags.length/\∃o,(Vv b e).2.1.ses[0]? = some o/\10<o.length:=by
 have hq:=Jg b e hb he
 rw[<- U6 hb he] at hq
 generalize Vv b e=D at hq ⊢
 obtain⟨t1,t2,t3,l,S,hl,hTk,hTic,hsl,hout⟩:=hq.tick hk
 have hcfg:=hq.cfg
 have hnow:D.1.city.now=1:=by rw[t3,hn,if_neg (by omega)];rfl
 obtain⟨x,p,hx,hp,hK⟩:=hTk 0 s (Ab.1 hs).1 hs
 obtain⟨ee,_,hee⟩:=hK.2 ho
 have hpo:p.op=true:=congrArg (fun z:Fi×Gj=>z.2.op) hee
 obtain⟨rp,en,⟨ens,_,_,hA⟩,hrl,hSI⟩:=hTic
 have hd0:0<b.city.desks.length:=by rw[hb.city.desks];exact (Ab.1 ha).1
 obtain⟨_,r,_,_,k1,k2,_,k4⟩:=(hA 0 _ a (Aa hd0) ha).1 hd0
 obtain⟨q,hq1,hq2⟩:=hSI 0 0 a r (.inl (by show 0<D.1.city.cfg.ags.length;rw[hcfg];exact (Ab.1 ha).1)) (by show D.1.city.cfg.ags[0]? = _;rw[hcfg];exact ha) hj k2
 have hq1:S.ses[0]? = some q:=hq1
 have hso:0<D.2.1.ses.length:=by
  have hsl:S.ses.length=D.2.1.ses.length:=hsl
  rw[<- hsl]
  exact (Ab.1 hq1).1
 refine⟨t1,t2,_,Aa hso,?_⟩
 rw[hout 0 q _ hq1 (Aa hso)]
 rcases hq2 with⟨_,_,_,E,M,m1,m2,m3⟩ | ⟨hno,_⟩
 ·have m2:StS D.1.city E M:=m2
  have hv4:D.1.city.views.length<=4:=by have:=hq.i.city.views;have:=hq.i.city.nj;omega
  have hvl:=Abf hq.i.city.view
  have hrq:=(hq.i.city.desk E (Ac m1)).1.rq
  have hM:Hh M:=Aep (by rw[m2.2.2.1];simp) (by rw[m2.2.1];simp) (by rw[m2.2.2.2.1];omega)
  have hP:P17 M D.1.city.now:=⟨m2.1,m2.2.2.1,m2.2.1,by rw[hnow];rfl,by rw[m2.2.2.2.1];omega⟩
  have hm:M∈q:=by
   rw[m3]
   refine Bn.2 ⟨?_,Azt hM hP⟩
   unfold Wo
   exact Bj _ (List.mem_append_right _ (An.2 rfl))
  have h1:=Avw hm
  rw[Ayc hP,hnow,show (Gl 1).1.length=1 from rfl] at h1
  omega
 have:=hno p hp
 rw[hpo] at this
 cases this
theorem As6 {c:E6} (hb:Acg c) (hp:Ln c=true) (hJ:∀j∈c.juns,N5 j/\j.phs.length<=8) (hA:∀a∈c.ags,a.sec.length<=1000000/\a.lims.length<=1000000/\a.rq<=3) (hl1:c.juns.length<=4) (hl2:c.ags.length<=4) (hS:∀x∈c.ags,1<=x.se/\x.se<=2) (h1:c.ags.length=1) (hse:∀a∈c.ags,a.se=1) :
 ∃b f,Rd (F6 c hb hp hJ hA hl1 hl2 hS) [⟨1,0,0,0,[]⟩,⟨6,0,0,0,[]⟩]=[⟨[b],f⟩]/\10<b.length:=by
 obtain⟨q1,q2,q3,q4,q5,q6⟩:=U1 c hb hp hJ hA hl1 hl2 hS
 generalize F6 c hb hp hJ hA hl1 hl2 hS=B at q1 q2 q3 q4 q5 q6
 have ha:c.ags[0]? = some c.ags[0]:=Aa (by omega)
 have hse0:=hse _ (Ac ha)
 have hcn:Ed c.ags[0]=1:=by rw[(Hf _).2.2 (by omega)];exact hse0
 have hsum:Ek c.ags c.ags.length=1:=by
  rw[h1,R6 ha,hcn]
  rfl
 have hsl:0<B.sess.length:=by
  rw[<- List.take_length (l:=c.ags),<- Afn hS _ (Aj _),hsum] at q4
  omega
 have hz:B.sess[0]? = some ⟨false,false,⟨[],false⟩⟩:=by rw[Aa hsl,q5 _ (List.getElem_mem _)]
 have hE1:Oc ⟨1,0,0,0,[]⟩:=Jj rfl
 have d1:=Jg B ⟨1,0,0,0,[]⟩ q1 hE1
 have hsq:=q1.ses _ (Ac hz)
 have hop:=(Ac0 _ hsq.1).2.2.1
 have hds:Aax B.sess ⟨1,0,0,0,[]⟩=B.sess.set 0 (Jf ⟨false,false,⟨[],false⟩⟩ hsq.1):=by
  rw[Any (s:=⟨false,false,⟨[],false⟩⟩) (by decide) hz,Auq hsq (by simp) rfl]
  rfl
 have f1:=d1.few (by decide:(1:Int)<=3)
 rw[hds] at f1
 have i1:=d1.i
 rw[f1] at i1
 have e1:Vv B ⟨1,0,0,0,[]⟩=_:=(U6 q1 hE1).trans f1
 obtain⟨g1,g2,x,g3,g4⟩:=Ase (e:=⟨6,0,0,0,[]⟩) i1 (Jj rfl) rfl q3 (by rw[q2];exact ha) (by rw[hcn];decide) (Bg hsl) hop
 rw[q2,hsum] at g2
 rw[Rd,e1,if_neg Bool.false_ne_true,Rd,if_pos g1,Rd]
 generalize (Vv _ (⟨6,0,0,0,[]⟩:Mg)).2.1=o at g2 g3
 obtain⟨s,f⟩:=o
 match s,g2,g3 with
 | [y],_,g3 =>
  have g3:some y=some x:=g3
  injection g3 with g3
  exact⟨y,f,rfl,by rw[g3];exact g4⟩
section
def An0 (m:Dz):Bool:=m.kind == 16||(m.kind == 14&&(m.args.length == 2&&(match m.args[0]? with | some a=>decide (2<=a)&&decide (a<=8) | none=>false)))
def N0 (l:List Dz):Nat:=l.countP An0
theorem T1 (l m:List Dz):N0 (l++m)=N0 l+N0 m:=List.countP_append
structure BkI (b:Ji):Prop where
  lv:0<=b.lv
  le:b.lv<=b.bu
  ra:0<=b.ra
  ru:b.ra<=1000
  bu:b.bu<=1000
def BkS (a b:Ji) (n:Nat):Prop:=b.ra=a.ra/\b.bu=a.bu/\0<=b.lv/\b.lv+n<=a.lv
theorem BkS.refl {a:Ji} (h:BkI a):BkS a a 0:=⟨rfl,rfl,h.lv,by omega⟩
variable {a b:Ji} {n k:Nat}
theorem BkS.mono (h:BkS a b n) (hk:k<=n):BkS a b k:=⟨h.1,h.2.1,h.2.2.1,by have:=h.2.2.2;omega⟩
theorem BkS.trans {a b c:Ji} (h:BkS a b n) (h':BkS b c k):BkS a c (n+k):=⟨h'.1.trans h.1,h'.2.1.trans h.2.1,h'.2.2.1,by have:=h.2.2.2;have:=h'.2.2.2;omega⟩
theorem BkS.I {n:Nat} (h:BkS a b n) (ha:BkI a):BkI b:=by
 obtain⟨h1,h2,h3,h4⟩:=h
 have:=ha.le
 exact⟨h3,by omega,by rw[h1];exact ha.ra,by rw[h1];exact ha.ru,by rw[h2];exact ha.bu⟩
theorem LvR.step {k:Int} (h:LvR k a b) (ha:BkI a):BkS a b (if 2<=k/\k<=8 then 1 else 0):=by
 unfold LvR at h
 have h1:=ha.le
 have h2:=ha.bu
 split at h
 ·rename_i hk
  rw[if_pos hk]
  unfold Re at h
  split at h
  ·cases h
  rename_i h0
  simp only[Prod.mk.injEq,and_true] at h
  rw[<- h]
  have e:=Dw (a.lv - 1)
  exact⟨rfl,rfl,by dsimp only;omega,by dsimp only;omega⟩
 rename_i hk
 rw[if_neg hk,h]
 exact .refl ha
variable {x y:Dx} {it:E7} {m:Dz}
theorem OkR.bk {now sl:Int} (h:OkR x it now m y sl):LvR m.kind x.reg.bk y.reg.bk:=by
 obtain⟨h1,h2,r,h3,rfl⟩:=h.op
 have hq:=(P6 x.reg m now h1 h2).1
 rw[h3] at hq
 obtain⟨⟨bk,e,hL⟩,_⟩:=hq rfl
 have e:r={ x.reg with bk:=bk }:=e
 rw[e]
 exact hL
structure T6 (m:Dz):Prop where
  k1:13<=m.kind
  k2:m.kind<=20
  by':By m.data
theorem Arg (m:Dz):N0 [m]<=1:=List.countP_le_length
theorem Acc (h:An0 m=false):N0 [m]=0:=by simp[N0,h]
variable {cfg:E6} {ses now:Int}
theorem Zq.bk {x:Dx} {e:Dx×Dz×Int×Int} (h:Zq cfg x ses it now e) (hb:BkI x.reg.bk):BkS x.reg.bk e.1.reg.bk 0/\(e.2.2.2=0->BkS x.reg.bk e.1.reg.bk (N0 [e.2.1])/\T6 e.2.1):=by
 cases h with
 | bad hc _=>exact⟨.refl hb,fun h=>absurd h hc⟩
 | @reg m y sl R h1 hk h2 =>
  obtain⟨a1,a2,a3,a4,a5,a6,a7,rfl⟩:=h2
  have q:=Mf y m sl now a1 a2 a3 a4 a5 a6 a7
  have hS:=h1.bk.step hb
  rw[if_pos (by omega),<- q.2.2.2.2.2.1] at hS
  exact⟨hS.mono (by omega),fun h0=>⟨hS.mono (Arg _),by
   have q3:=q.2.2.2.2.2.2.1 h0
   have hk:=q3.1.elim (fun h=>Or.inl h.1) fun h=>Or.inr (b:=(Ep y m sl now a1 a2 a3 a4 a5 a6 a7).2.1.kind=16) h.2.1
   exact⟨by dsimp only;omega,by dsimp only;omega,q3.2⟩⟩⟩
 | @ask m y sl c l h1 hk hc h2=>exact⟨(h1.bk.step hb).mono (by omega),fun h=>absurd h hc⟩
 | @asked m y sl v l h1 hk h2 hv =>
  have hS:=h1.bk.step hb
  rw[if_pos (by omega)] at hS
  refine⟨hS.mono (by omega),fun _=>⟨hS.mono (Arg _),?_⟩⟩
  dsimp only
  rw[Ml]
  exact⟨by simp,by simp,.nil⟩
 | @no m y sl h1 hk=>exact⟨(h1.bk.step hb).mono (by omega),fun h=>absurd h (by simp)⟩
 | @aud m y sl v l h1 hk hv h2 =>
  have hS:=(h1.bk.step hb).mono (Ae _)
  refine⟨hS,fun _=>?_⟩
  dsimp only
  rw[Ml]
  refine⟨?_,by simp,by simp,.nil⟩
  rw[Acc (by simp[An0,hk])]
  exact hS
 | @reset m y sl v h1 hk hv =>
  have hS:=(h1.bk.step hb).mono (Ae _)
  refine⟨hS,fun _=>?_⟩
  dsimp only
  rw[Ml]
  refine⟨?_,by simp,by simp,.nil⟩
  rw[Acc (by simp[An0,hk])]
  exact hS
 | @tell m y sl h1 hk a1 a2 =>
  have hS:=(h1.bk.step hb).mono (Ae _)
  have q:=W7 y m.kind now a1 a2
  have hk2:(Ie y m.kind now a1 a2).kind=13\/(Ie y m.kind now a1 a2).kind=19\/(Ie y m.kind now a1 a2).kind=20:=q.2.2.2.elim (fun h=>.inl h.2.1) fun h=>.inr (h.elim (fun h=>.inl h.2.1) fun h=>.inr h.2.2.1)
  refine⟨hS,fun _=>⟨?_,by dsimp only;omega,by dsimp only;omega,by dsimp only;rw[q.2.1];exact .nil⟩⟩
  dsimp only
  rw[Acc (by rcases hk2 with h | h | h<;>simp[An0,h])]
  exact hS
theorem Atq.bk {x:Dx} {d:Dx×Dz×F8×Int} (h:Atq cfg x ses it now d) (hb:BkI x.reg.bk):BkS x.reg.bk d.1.reg.bk (N0 [d.2.1])/\T6 d.2.1:=by
 obtain⟨e,hx,e1,_,e3,e4⟩:=h
 have hB:=hx.bk hb
 rw[e1]
 by_cases h0:e.2.2.2=0
 ·rw[(e3 h0).1]
  exact hB.2 h0
 rw[(e4 h0).1,Acc (by simp[An0])]
 exact⟨hB.1,by simp,by simp,.nil⟩
variable {e:List F8} {s:List Int}
theorem ItR.bk {l:List E7} {r:List Dz} (h:ItR cfg ses now x l y r e s) (hb:BkI x.reg.bk):BkS x.reg.bk y.reg.bk (N0 r)/\∀m∈r,T6 m:=by
 induction h with
 | nil=>exact⟨.refl hb,fun _ h=>absurd h A8⟩
 | app h1 h2 ih =>
  obtain⟨hd,hp,h3⟩:=h2
  have hq:=(Lx cfg _ ses _ now hd hp).2
  rw[h3] at hq
  have hB:=hq.bk (ih.1.I hb)
  exact⟨by rw[T1];exact ih.1.trans hB.1,Kg ih.2 hB.2⟩
variable {l:List Gj} {r:List (List Dz)}
theorem Zs.bk {now:Int} (h:Zs cfg now x l y r e s) (hb:BkI x.reg.bk):BkS x.reg.bk y.reg.bk (N0 r.flatten)/\∀q∈r,∀m∈q,T6 m:=by
 induction h with
 | nil=>exact⟨.refl hb,fun _ h=>absurd h A8⟩
 | closed h1 h2 ih=>exact⟨by simpa using ih.1,Kg ih.2 fun _ h=>absurd h A8⟩
 | opened h1 h2 h3 ih =>
  have hB:=h3.bk (ih.1.I hb)
  exact⟨by rw[List.flatten_append,T1];simpa using ih.1.trans hB.1,Kg ih.2 hB.2⟩
theorem Ac9.bk {x:Dx} {now:Int} {d:Dx×List (List Dz)×List F8×List Int} (h:Ac9 cfg x l now d) (hb:BkI x.reg.bk):BkS x.reg.bk d.1.reg.bk (N0 d.2.1.flatten)/\∀q∈d.2.1,∀m∈q,T6 m:=by
 obtain⟨b,y,r,h1,h2,_,_,hS,e1,e2⟩:=h
 have hB:=Zs.bk hS hb
 rw[e1,e2]
 refine⟨?_,fun q hq=>(A0.1 hq).elim (hB.2 q) fun h=>?_⟩
 ·rw[List.flatten_append,T1,show (List.replicate (x.aud.length - r.length) ([]:List Dz)).flatten=[] by simp]
  exact hB.1
 rw[(List.mem_replicate.1 h).2]
 exact fun _ h=>absurd h A8
theorem Aae {b:Ji} (h:BkI b):BkI (Nj b)/\(Nj b).ra=b.ra/\(Nj b).bu=b.bu/\(Nj b).lv<=b.lv+b.ra:=by
 obtain⟨h1,h2,h3,h4,h5⟩:=h
 have e:=Dw (b.lv+b.ra)
 unfold Nj
 rw[e]
 refine⟨⟨?_,?_,h3,h4,h5⟩,rfl,rfl,?_⟩<;>dsimp only<;>split<;>omega
theorem Aqj.bk {c:Fo} {k:Nat} {d:Dx} {a:Hy} {D:Dx×List (List Dz)×List F8×List Int} (h:Aqj c l k d a D) (hb:BkI d.reg.bk):BkS (Nj d.reg.bk) D.1.reg.bk (N0 D.2.1.flatten)/\(∀q∈D.2.1,q.length<=257/\∀m∈q,T6 m)/\D.2.1.length=d.aud.length:=by
 obtain⟨hb',h1,h2,h3,h4,rfl⟩:=h
 have hq:=Sa c.cfg (Fd d c.now hb') (Zn l (Ek c.cfg.ags k).toNat (Ed a).toNat) c.now h1 h2 h3 h4
 have hB:=Ql d c.now hb'
 have hR:=Md d.reg c.now hb'.reg
 have e:(Fd d c.now hb').reg.bk=Nj d.reg.bk:=by rw[hB.2.1,hR.2.2.2.2]
 have hX:=hq.2.bk (by rw[e];exact (Aae hb).1)
 rw[e] at hX
 exact⟨hX.1,fun q h=>⟨(hq.1.2.2.2.2.2.1 q h).1,hX.2 q h⟩,by rw[hq.1.2.2.2.2.1,hB.2.2.2.2]⟩
theorem By.viN:∀(f:Nat) (n:Int),By (viN f n)
 | 0,n=>.u8 n
 | f+1,n=>by
  rw[Go.Proofs.YtkkimgjinbaemaaGreat.viN]
  split
  ·exact .cons (Rv _) (By.viN f _)
  exact .u8 n
theorem By.vi (n:Int):By (Gl n).1:=by
 unfold Gl
 split
 ·exact .nil
 exact .viN 5 n
theorem By.codes (l:List Int):By (codes l):=by
 induction l with
 | nil=>rw[Ajb];exact .nil
 | cons a l ih=>rw[show a::l=[a]++l from rfl,Xx];exact .app (by simp[Go.Proofs.YtkkimgjinbaemaaGreat.codes];exact .vi a) ih
theorem By.msArgs (s:Gk) (l:List Int):By (msArgs s l):=by
 unfold Go.Proofs.YtkkimgjinbaemaaGreat.msArgs
 split
 ·exact .app (.app (.codes _) (.vi _)) (.codes _)
 exact .codes _
theorem S2.by (h:S2 m) (hB:By m.data):By (Nt m)/\(Nt m).length<=210:=by
 refine⟨?_,?_⟩
 ·rw[Anu h]
  have ht:m.tok=[]:=by
   obtain⟨s,hs⟩:=h.sh
   exact List.length_eq_zero_iff.1 (A1w hs h.ok).tok
  have he:By (Kr m).1:=by
   rw[<- Aat h.ok rfl,ht]
   exact .app (.app .nil (.msArgs _ _)) hB
  unfold Io
  refine .app (.app ?_ he) ?_
  ·exact .cons (by decide) (.cons (by decide) (.cons (by decide) (.cons (Rv _) (.cons (Rv _) (.u8 _)))))
  exact .cons (Rv _) (.cons (Rv _) (.cons (Rv _) (.u8 _)))
 have hq:=(Me m h.h1 h.h2 h.h3)
 by_cases h0:(Fp m h.h1 h.h2 h.h3).2=0
 ·rw[Aes h.h1 h.h2 h.h3 h0];exact hq.1
 rw[Arb h.h1 h.h2 h.h3 h0];exact Ae _
theorem Amr {L:List Dz} (h:∀m∈L,S2 m/\By m.data):By (L.map Nt).flatten/\(L.map Nt).flatten.length<=210*L.length:=by
 induction L with
 | nil=>exact⟨.nil,Ae _⟩
 | cons m L ih =>
  have h1:=h m (List.mem_cons_self ..)
  have h2:=h1.1.by h1.2
  have h3:=ih fun x hx=>h x (List.mem_cons_of_mem _ hx)
  rw[List.map_cons,List.flatten_cons,Bo,A6]
  exact⟨h2.1.app h3.1,by omega⟩
theorem Avg {k:Int} (h1:13<=k) (h2:k<=20):∃s,Sc k=some s:=by
 have:k=13\/k=14\/k=15\/k=16\/k=17\/k=18\/k=19\/k=20:=by omega
 rcases this with rfl | rfl | rfl | rfl | rfl | rfl | rfl | rfl<;>exact⟨_,rfl⟩
theorem Azf (h:(!N7 m)=true) (hr:T6 m):S2 m:=by
 unfold N7 at h
 split at h
 ·rename_i hM
  have hv:=P7 m hM.v.1 hM.v.2.1 hM.v.2.2
  have he:=Ju m hM.v.1 hM.v.2.1 hM.v.2.2
  rw[hv,he] at h
  refine⟨Avg hr.k1 hr.k2,?_,hM.v.1,hM.v.2.1,hM.v.2.2⟩
  by_cases hk:Ly m
  ·exact hk
  rw[<- Ank hk] at h
  exact absurd h (by decide)
 cases h
variable {i j:Nat} {en:List F8} {q:List Dz}
theorem Aob.srv {S:Fo} (h:Aob S l i j r en q) (hr:∀x∈r,x.length<=257/\∀m∈x,T6 m):(∀m∈q,S2 m/\By m.data)/\q.length<=259/\N0 q<=N0 ((r[j]?).getD []):=by
 rcases h with⟨p,_,_,E,M,_,m2,m3⟩ | ⟨_,rfl⟩
 ·have m3:q=(((r[j]?).getD []++[M])++(if E.aud[j]? = some true then [(⟨18,[],S.now::(en.take 16).flatMap K4,[]⟩:Dz)] else [])).filter fun m=>!N7 m:=m3
  have hj:((r[j]?).getD []).length<=257/\∀m∈(r[j]?).getD [],T6 m:=by
   cases hj:r[j]? with
   | none=>exact⟨Ae _,fun _ h=>absurd h A8⟩
   | some x=>exact hr x (Ac hj)
  generalize (r[j]?).getD []=y at m3 hj ⊢
  have hM:T6 M:=⟨by rw[m2.1];decide,by rw[m2.1];decide,m2.2.2.2.2⟩
  generalize hT:(if E.aud[j]? = some true then [(⟨18,[],S.now::(en.take 16).flatMap K4,[]⟩:Dz)] else [])=T at m3
  have hTq:T.length<=1/\N0 T=0/\∀m∈T,T6 m:=by
   rw[<- hT]
   split
   ·exact⟨Aj _,Acc (by simp[An0]),fun m h=>by rw[An.1 h];exact { k1:=by simp,k2:=by simp,by':=.nil }⟩
   exact⟨Ae _,rfl,fun _ h=>absurd h A8⟩
  have hall:∀m∈y++[M]++T,T6 m:=fun m h=>by
   rcases A0.1 h with h | h
   ·exact Kg hj.2 hM m h
   exact hTq.2.2 m h
  rw[m3]
  refine⟨fun m h=>?_,?_,?_⟩
  ·have h:=Bn.1 h
   exact⟨Azf h.2 (hall m h.1),(hall m h.1).by'⟩
  ·refine Ak (Az _ _) ?_
   rw[Bo,Bo,List.length_singleton]
   omega
  refine Ak (List.Sublist.countP_le List.filter_sublist) ?_
  show N0 (y++[M]++T)<=_
  rw[T1,T1,hTq.2.1,Acc (by simp[An0,m2.1])]
  exact Aj _
 exact⟨fun _ h=>absurd h A8,Ae _,Ae _⟩
structure Aa3 (b:List Int) (L:List Dz):Prop where
  srv:∀m∈L,S2 m
  eq:b=(L.map Nt).flatten
  len:b.length<=1000000
  by':By b
theorem Aob.said {S:Fo} (h:Aob S l i j r en q) (hr:∀x∈r,x.length<=257/\∀m∈x,T6 m):Aa3 (q.map Nt).flatten q/\q.length<=259/\N0 q<=N0 ((r[j]?).getD []):=by
 have h:=h.srv hr
 have hf:=Amr h.1
 exact⟨⟨fun m hm=>(h.1 m hm).1,rfl,by omega,hf.1⟩,h.2⟩
end
section
theorem At0 (a:Int):vnl a<=5:=by
 unfold vnl
 repeat' split
 all_goals omega
theorem Ta (a:Int) (l:List Int):M0 (a::l)=vnl a+M0 l:=rfl
theorem Aqn (l:List Int):M0 l<=5*l.length:=by
 induction l with
 | nil=>exact Ae _
 | cons a l ih =>
  have:=At0 a
  rw[Ta,A6]
  omega
theorem Al2 {l:List Int} (h:∀a∈l,NB a):N6 l:=fun a ha=>by
 have:=h a ha
 unfold NB at this
 unfold Gl
 rw[if_neg (by omega)]
variable {s:Gk}
theorem Akt {m:Dz} (hs:Sc m.kind=some s) (ht:m.tok=[]) (hd:s.dat = -1\/(m.data.length:Int)=s.dat) (hd2:m.data.length<=100) (hg:(s.grp=0/\(m.args.length:Int)=s.fix)\/∃g:Int,0<=g/\g<=s.mos/\0<s.grp/\(m.args.length:Int) - s.fix=s.grp*g) (hr:∀a∈m.args,NB a) (hl:M0 m.args<=99):Ly m:=by
 have hb:=Aq6 hs
 have hsh:=(Hr m.kind).1.2 s hs
 have h6:=Al2 hr
 have hgr:∃g:Int,Qa s m.args.length=(g,true)/\0<=g/\g<=100:=by
  unfold Qa
  rcases hg with⟨h1,h2⟩ | ⟨g,h1,h2,h3,h4⟩
  ·rw[if_pos h1]
   exact⟨0,by simp[h2],by decide,by decide⟩
  have hnn:0<=s.grp*g:=Int.mul_nonneg (by omega) h1
  have e1:(s.grp*g).tmod s.grp=0:=Int.mul_tmod_right _ _
  have e2:(s.grp*g).tdiv s.grp=g:=Int.mul_tdiv_cancel_left _ (by omega)
  have hlea:=hb.2.2.2.2.2.2.2.1
  rw[if_neg (by omega),h4,if_neg (by rw[e1];omega),e2,hlea]
  exact⟨g,by simp[h1,h2],h1,by omega⟩
 have hlen:(msArgs s m.args).length<=M0 m.args+1:=by
  unfold msArgs
  split
  ·obtain⟨g,e,g0,g1⟩:=hgr
   rw[e]
   have hv:(Gl g).2=0:=Al2 (l:=[g]) (fun a h=>by rw[An.1 h];exact⟨g0,by omega⟩) g (List.mem_singleton_self _)
   have hl:=(Uj hv).1
   rw[show vnl g=1 by unfold vnl;rw[if_pos (by omega)]] at hl
   have:M0 (m.args.take s.fix.toNat)+M0 (m.args.drop s.fix.toNat)=M0 m.args:=by
    unfold M0
    rw[<- List.sum_append,<- List.map_append,List.take_append_drop]
   simp only[Bo,hl,K5 (Uk h6 _),K5 (Om h6 _)]
   omega
  rw[K5 h6]
  omega
 refine⟨by rw[hsh],by rw[hsh,ht];exact hb.2.2.1.symm,by rw[hsh];exact hd,?_,by omega,h6,?_⟩
 ·rw[hsh]
  obtain⟨g,e,_⟩:=hgr
  dsimp only
  rw[e]
 rw[hsh,ht]
 simp only[Bo,List.length_nil]
 omega
structure Agv (m:Dz):Prop where
  srv:S2 m
  sz:Hh m
  by':By m.data
  nt:m.kind≠17/\m.kind≠18
  a15:m.kind=15->2<=m.args.length
  a14:m.kind=14->1<=m.args.length
theorem Ake {m:Dz} (hs:Sc m.kind=some s) (ho:Ly m) (hz:Hh m):S2 m:=⟨⟨s,hs⟩,ho,hz.v.1,hz.v.2.1,hz.v.2.2⟩
theorem Aen {m:Dz} (hs:Sc m.kind=some s) (ht:m.tok=[]) (hd:s.dat = -1\/(m.data.length:Int)=s.dat) (hd2:m.data.length<=100) (hg:(s.grp=0/\(m.args.length:Int)=s.fix)\/∃g:Int,0<=g/\g<=s.mos/\0<s.grp/\(m.args.length:Int) - s.fix=s.grp*g) (hr:∀a∈m.args,NB a) (hl:m.args.length<=19) (hB:By m.data) (hn:m.kind≠17/\m.kind≠18) (h15:m.kind=15->2<=m.args.length:=by intro h;simp_all) (h14:m.kind=14->1<=m.args.length:=by intro h;simp_all):Agv m:=by
 have hz:Hh m:=⟨by rw[ht];exact Ae _,by omega,by omega⟩
 have:=Aqn m.args
 exact⟨Ake hs (Akt hs ht hd hd2 hg hr (by omega)) hz,hz,hB,hn,h15,h14⟩
theorem Aya {m:Dz} (h:Ly m) (hz:Hh m):(!N7 m)=true:=by
 have hv:=P7 m hz.v.1 hz.v.2.1 hz.v.2.2
 have he:=Ju m hz.v.1 hz.v.2.1 hz.v.2.2
 unfold N7
 rw[dif_pos hz,hv,he,<- Aat h rfl]
 rfl
def A2b (k:Int):Int:=if k=13 then 1 else if k=16 then 2 else if k=19 then 9 else if k=20 then 12 else 0
def Hz (n:Int) (m:Dz):List Int:=if m.kind=17 then [] else if m.kind=18 then [] else if m.kind=15 then [n,m.args.getD 0 0,m.args.getD 1 0] else if m.kind=14 then [n,m.args.getD 0 0,0] else [n,A2b m.kind,0]
theorem Dz.eq4 {m:Dz} {k:Int} {a:List Int} (h1:m.kind=k) (h2:m.tok=[]) (h3:m.args=a) (h4:m.data=[]):m=⟨k,[],a,[]⟩:=by
 cases m
 simp only at h1 h2 h3 h4
 rw[h1,h2,h3,h4]
theorem nb2 {a b:Int} (ha:NB a) (hb:NB b):∀x∈[a,b],NB x:=fun x h=>by
 rcases List.mem_cons.1 h with rfl | h
 ·exact ha
 rw[An.1 h]
 exact hb
theorem Azl {k a b:Int} (hk:k=13\/k=14\/k=15) (ha:NB a) (hb:NB b):Agv ⟨k,[],[a,b],[]⟩:=Aen (s:=⟨0,2,0,0,0,0⟩) (if_pos hk) rfl (.inr rfl) (Ae _) (.inl ⟨rfl,rfl⟩) (nb2 ha hb) (by simp) .nil (by dsimp only;omega)
def Ayq (n k:Int) (m:Dz):Prop:=Agv m/\Hz n m=[n,k,0]
theorem Aq2 {n k v:Int} (hk:NB k) (hv:NB v):Ayq n k ⟨14,[],[k,v],[]⟩:=⟨Azl (by decide) hk hv,rfl⟩
variable {x y:Dx} {it:E7}
section
variable {now sl:Int} {m:Dz} (h:OkR x it now m y sl)
include h
theorem OkR.eq:∃bk,y=⟨{ x.reg with bk:=bk },x.reqs,x.draws,x.aud⟩:=by
 obtain⟨h1,h2,r,h3,rfl⟩:=h.op
 have hq:=(P6 x.reg m now h1 h2).1
 rw[h3] at hq
 obtain⟨⟨bk,e,_⟩,_⟩:=hq rfl
 exact⟨bk,by rw[show r={ x.reg with bk:=bk } from e]⟩
theorem OkR.nb:NB m.kind:=by
 have:=h.srv
 have:=h.kind
 exact⟨by omega,by omega⟩
end
theorem A1t {x:Dx} {k now:Int} {m:Dz} (hk:k=1\/k=9\/k=12) (h:m.tok=[]/\m.data=[]/\m.args.length<=2000/\A0c x k now m) (hd:Fx x) (hb:BkI x.reg.bk) (hn:NB x.reg.num) (hnow:NB now) (hq:0<=x.reg.ag.rq):Ayq x.reg.num k m:=by
 obtain⟨h1,h2,_,⟨h3,h4,h5⟩ | ⟨h3,h4,h5⟩ | ⟨h3,h3',h4,f,f0,f1,h5⟩⟩:=h
 ·rw[Dz.eq4 h4 h1 h5 h2,h3]
  exact⟨Azl (by decide) hn hnow,rfl⟩
 ·rw[Dz.eq4 h4 h1 h5 h2,h3]
  have hl:(x.reqs.flatMap fun r=>[r.id,r.unt]).length=2*x.reqs.length:=by
   generalize x.reqs=l
   induction l with
   | nil=>rfl
   | cons r l ih=>rw[List.flatMap_cons,Bo,ih];simp;omega
  have h3:=hd.reqs
  refine⟨Aen (s:=⟨0,0,2,0,4,0⟩) rfl rfl (.inr rfl) (Ae _) (.inr ⟨x.reqs.length,by omega,by dsimp only;omega,by decide,by dsimp only;omega⟩) (fun a ha=>?_) (by dsimp only;omega) .nil (by simp),rfl⟩
  obtain⟨r,hr,ha⟩:=List.mem_flatMap.1 ha
  exact nb2 (hd.rk r hr).1 (hd.rk r hr).2 a ha
 have hk:k=12:=by omega
 rw[Dz.eq4 h4 h1 h5 h2,hk]
 have e1:=hd.vehs
 have e2:=hd.rl
 have e3:=hd.rq
 have e4:=hd.b.reg.toks
 have e5:=hb.lv
 have e6:=hb.le
 have e7:=hb.bu
 rw[Dw (8 - (x.reg.vehs.length:Int)),Dw (x.reg.ag.rq - (x.reqs.length:Int))]
 refine⟨Aen (s:=⟨0,4,0,0,0,0⟩) rfl rfl (.inr rfl) (Ae _) (.inl ⟨rfl,rfl⟩) (fun a ha=>?_) (by simp) .nil (by simp),rfl⟩
 simp only[List.mem_cons,A8,or_false] at ha
 rcases ha with rfl | rfl | rfl | rfl<;>exact⟨by omega,by omega⟩
structure X7 (n:Int) (x:Dx):Prop where
  bk:BkI x.reg.bk
  num:x.reg.num=n
  rq:0<=x.reg.ag.rq
def ItB (t:E7):Prop:=(0<=t.kind/\t.kind<=99)/\0<=t.code/\t.code<=99
def Aee (e:F8):Prop:=(0<=e.ag/\e.ag<=99)/\(0<=e.kind/\e.kind<=99)/\0<=e.code/\e.code<=99
variable {cfg:E6} {ses now n:Int}
theorem Zq.rep {x:Dx} {e:Dx×Dz×Int×Int} (h:Zq cfg x ses it now e) (hd:Fx x) (ha:X7 n x) (hn:0<=n/\n<=99) (hnow:NB now) (hc:ItB it):(e.1.reg.num=n/\0<=e.1.reg.ag.rq)/\(0<=e.2.2.2/\e.2.2.2<=99)/\(e.2.2.2=0->Ayq n it.kind e.2.1):=by
 have hc2:=hc.2
 have key:∀{m y sl},OkR x it now m y sl->(y.reg.num=n/\0<=y.reg.ag.rq)/\m.kind=it.kind/\NB m.kind:=fun h=>by
  obtain⟨bk,e⟩:=h.eq
  rw[e]
  exact⟨⟨ha.num,ha.rq⟩,h.kind,h.nb⟩
 cases h with
 | bad h0 h1=>exact⟨⟨ha.num,ha.rq⟩,by dsimp only;omega,fun h=>absurd h h0⟩
 | @reg m y sl R h1 hk h2 =>
  obtain⟨a1,a2,a3,a4,a5,a6,a7,rfl⟩:=h2
  have q:=Mf y m sl now a1 a2 a3 a4 a5 a6 a7
  have hy:=key h1
  generalize Ep y m sl now a1 a2 a3 a4 a5 a6 a7=R at q
  refine⟨⟨q.2.2.1.trans hy.1.1,by dsimp only;rw[q.2.2.2.1];exact hy.1.2⟩,q.2.2.2.2.2.2.2,fun h0=>?_⟩
  rw[<- hy.2.1]
  rcases (q.2.2.2.2.2.2.1 h0).1 with⟨k1,k2,k3,v,k4,k5⟩ | ⟨k0,k1,k2,v,k3,k4,k5⟩
  ·show Ayq n m.kind R.2.1
   rw[Dz.eq4 k1 k2 k5 k3]
   exact Aq2 hy.2.2 (h1.args v (Ac k4))
  refine⟨Aen (s:=⟨0,1,0,0,0,10⟩) (by show Sc R.2.1.kind=_;rw[k1];rfl) k2 (.inr (by show ((R.2.1.data.length:Nat):Int)=10;rw[k5];rfl)) (by show R.2.1.data.length<=_;omega) (.inl ⟨rfl,by show ((R.2.1.args.length:Nat):Int)=1;rw[k3];rfl⟩) (fun a ha=>?_) (by show R.2.1.args.length<=_;rw[k3];simp) (q.2.2.2.2.2.2.1 h0).2 (by show R.2.1.kind≠17/\R.2.1.kind≠18;rw[k1];decide) (fun h=>by rw[show R.2.1.kind=15 from h] at k1;cases k1) (fun h=>by rw[show R.2.1.kind=14 from h] at k1;cases k1),?_⟩
  ·have ha:a∈R.2.1.args:=ha
   rw[k3] at ha
   rw[An.1 ha]
   exact k4
  show Hz n R.2.1=_
  unfold Hz
  rw[k1,k0]
  rfl
 | @ask m y sl c l h1 hk hc h2 =>
  obtain⟨a1,a2,a3,a4,a5,a6,a7,h2⟩:=h2
  have q:=Af0 cfg y m sl now a1 a2 a3 a4 a5 a6 a7
  rw[h2] at q
  exact⟨(key h1).1,q.2.2.2.2,fun h=>absurd h hc⟩
 | @asked m y sl v l h1 hk h2 hv =>
  have hy:=key h1
  refine⟨hy.1,by simp,fun _=>?_⟩
  dsimp only
  rw[Ml,<- hy.2.1]
  exact Aq2 hy.2.2 (h1.args v (Ac hv))
 | @no m y sl h1 hk=>exact⟨(key h1).1,by simp,fun h=>absurd h (by simp)⟩
 | @aud m y sl v l h1 hk hv h2 =>
  have hy:=key h1
  refine⟨hy.1,by simp,fun _=>?_⟩
  dsimp only
  rw[Ml,<- hy.2.1]
  exact Aq2 hy.2.2 (h1.args v (Ac hv))
 | @reset m y sl v h1 hk hv =>
  have hy:=key h1
  refine⟨hy.1,by simp,fun _=>?_⟩
  dsimp only
  rw[Ml,<- hy.2.1]
  exact Aq2 hy.2.2 (h1.args v (Ac hv))
 | @tell m y sl h1 hk a1 a2 =>
  have hy:=key h1
  have hS:=(h1.bk.step ha.bk).I ha.bk
  have q:=W7 y m.kind now a1 a2
  refine⟨hy.1,by simp,fun _=>?_⟩
  dsimp only
  rw[<- hy.2.1]
  have hd':Fx y:=by
   obtain⟨bk,e⟩:=h1.eq
   rw[e]
   exact⟨⟨⟨hd.b.reg.sec,hd.b.reg.lims,hd.b.reg.toks,hd.b.reg.tsec,hd.b.reg.vehs⟩,hd.b.reqs,hd.b.legs,hd.b.draws,hd.b.draw,hd.b.aud⟩,hd.vehs,hd.reqs,hd.dr,hd.rq,hd.rl,hd.rk⟩
  have h:=A1t hk q hd' hS (by rw[hy.1.1];exact⟨hn.1,by omega⟩) hnow hy.1.2
  rwa[hy.1.1] at h
theorem Atq.rep {x:Dx} {d:Dx×Dz×F8×Int} (h:Atq cfg x ses it now d) (hd:Fx x) (ha:X7 n x) (hn:0<=n/\n<=99) (hnow:NB now) (hc:ItB it):X7 n d.1/\Agv d.2.1/\Hz n d.2.1=K4 d.2.2.1/\Aee d.2.2.1:=by
 have hB:=(h.bk ha.bk).1.I ha.bk
 obtain⟨e,hx,e1,e2,e3,e4⟩:=h
 have hR:=hx.rep hd ha hn hnow hc
 have hc1:=hc.1
 rw[e1] at hB ⊢
 rw[e2,hR.1.1]
 have hE:Aee ⟨n,it.kind,e.2.2.2⟩:=⟨hn,hc1,hR.2.1⟩
 by_cases h0:e.2.2.2=0
 ·rw[(e3 h0).1,h0]
  rw[h0] at hE
  exact⟨⟨hB,hR.1.1,hR.1.2⟩,(hR.2.2 h0).1,(hR.2.2 h0).2,hE⟩
 rw[(e4 h0).1]
 exact⟨⟨hB,hR.1.1,hR.1.2⟩,Azl (by decide) ⟨by omega,by omega⟩ ⟨by omega,by omega⟩,rfl,hE⟩
variable {e:List F8}
theorem ItR.rep {l:List E7} {r:List Dz} {s:List Int} (h:ItR cfg ses now x l y r e s) (ha:X7 n x) (hn:0<=n/\n<=99) (hnow:NB now) (hl:∀t∈l,ItB t):X7 n y/\(∀m∈r,Agv m)/\e.flatMap K4=r.flatMap (Hz n)/\∀t∈e,Aee t:=by
 induction h with
 | nil=>exact⟨ha,fun _ h=>absurd h A8,rfl,fun _ h=>absurd h A8⟩
 | @app l y z r e s t m w k h1 h2 ih =>
  have hi:=ih fun t h=>hl t (Bj _ h)
  obtain⟨hd,hp,h3⟩:=h2
  have hq:=(Lx cfg _ ses _ now hd hp).2
  rw[h3] at hq
  have hR:=hq.rep hd hi.1 hn hnow (hl _ (List.mem_append_right _ (List.mem_singleton_self _)))
  refine⟨hR.1,Kg hi.2.1 hR.2.1,?_,Kg hi.2.2.2 hR.2.2.2⟩
  rw[List.flatMap_append,List.flatMap_append,hi.2.2.1]
  show _++(K4 w++[])=_++(Hz n m++[])
  rw[<- hR.2.2.1]
variable {l:List Gj}
theorem Zs.rep {now n:Int} {r:List (List Dz)} {s:List Int} (h:Zs cfg now x l y r e s) (ha:X7 n x) (hn:0<=n/\n<=99) (hnow:NB now) (hl:∀p∈l,∀t∈p.items,ItB t):X7 n y/\(∀q∈r,∀m∈q,Agv m)/\e.flatMap K4=r.flatten.flatMap (Hz n)/\(∀t∈e,Aee t)/\r.length=l.length/\∀(j:Nat) (p:Gj),l[j]? = some p->p.op=false->r[j]? = some []:=by
 induction h with
 | nil=>exact⟨ha,fun _ h=>absurd h A8,rfl,fun _ h=>absurd h A8,rfl,fun j p h=>by cases h⟩
 | @closed l y r e s p h1 h2 ih =>
  have hi:=ih fun p h=>hl p (Bj _ h)
  refine⟨hi.1,Kg hi.2.1 fun _ h=>absurd h A8,by simpa using hi.2.2.1,hi.2.2.2.1,by simp[hi.2.2.2.2.1],fun j p hj ho=>?_⟩
  by_cases hlt:j<l.length
  ·rw[Au hlt] at hj
   rw[Au (by omega)]
   exact hi.2.2.2.2.2 j p hj ho
  have hj2:=(Ab.1 hj).1
  rw[Bo,List.length_singleton] at hj2
  have:j=r.length:=by omega
  rw[this]
  simp
 | @opened l y z r e e' s s' p q h1 h2 h3 ih =>
  have hi:=ih fun p h=>hl p (Bj _ h)
  have hR:=h3.rep hi.1 hn hnow (hl _ (List.mem_append_right _ (List.mem_singleton_self _)))
  refine⟨hR.1,Kg hi.2.1 hR.2.1,?_,fun t ht=>(A0.1 ht).elim (hi.2.2.2.1 t) (hR.2.2.2 t),by simp[hi.2.2.2.2.1],fun j p' hj ho=>?_⟩
  ·rw[List.flatMap_append,hi.2.2.1,hR.2.2.1,List.flatten_append,List.flatMap_append]
   simp
  by_cases hlt:j<l.length
  ·rw[Au hlt] at hj
   rw[Au (by omega)]
   exact hi.2.2.2.2.2 j p' hj ho
  have hj2:=(Ab.1 hj).1
  rw[Bo,List.length_singleton] at hj2
  have:j=l.length:=by omega
  rw[this,List.getElem?_concat_length] at hj
  injection hj with hj
  rw[hj,ho] at h2
  cases h2
theorem Ac9.rep {x:Dx} {now n:Int} {d:Dx×List (List Dz)×List F8×List Int} (h:Ac9 cfg x l now d) (ha:X7 n x) (hn:0<=n/\n<=99) (hnow:NB now) (hl:∀p∈l,∀t∈p.items,ItB t):X7 n d.1/\(∀q∈d.2.1,∀m∈q,Agv m)/\d.2.2.1.flatMap K4=d.2.1.flatten.flatMap (Hz n)/\(∀t∈d.2.2.1,Aee t)/\∀(j:Nat) (p:Gj),j<x.aud.length->l[j]? = some p->p.op=false->(d.2.1[j]?).getD []=[]:=by
 obtain⟨b,y,r,h1,h2,_,_,hS,e1,e2⟩:=h
 have hB:=Zs.rep hS (n:=n) ⟨ha.bk,ha.num,ha.rq⟩ hn hnow fun p hp=>hl p (Aq hp)
 rw[e1,e2]
 refine⟨⟨hB.1.bk,hB.1.num,hB.1.rq⟩,fun q hq=>(A0.1 hq).elim (hB.2.1 q) fun h=>?_,?_,hB.2.2.2.1,fun j p hj hp ho=>?_⟩
 ·rw[(List.mem_replicate.1 h).2]
  exact fun _ h=>absurd h A8
 ·rw[List.flatten_append,List.flatMap_append,show (List.replicate (x.aud.length - r.length) ([]:List Dz)).flatten=[] by simp,hB.2.2.1]
  simp
 have hjl:=(Ab.1 hp).1
 have hr:=hB.2.2.2.2.2 j p (by rw[Ag hj];exact hp) ho
 have hrl:=(Ab.1 hr).1
 rw[Au hrl,hr]
 rfl
end
section
def Aye (t:E7):Dz:=by
 classical
 exact if h:t.pay.length<=1000000 then (E9 t.kind t.pay h).1 else ⟨0,[],[],[]⟩
def Z9 (b:List Int):List Dz:=(J1 b).map fun x=>Aye x.1
theorem Aa3.all {b:List Int} {L:List Dz} (h:Aa3 b L):Z9 b=L:=by
 unfold Z9
 rw[h.eq,Aix h.srv,List.map_map]
 have e:∀m∈L,((fun x:E7×Int=>Aye x.1)∘fun m=>(itM m,((Kr m).1.length:Int)+10)) m=id m:=fun m hm=>by
  have hl:=Tz m
  show Aye (itM m)=m
  unfold Aye
  have hp:(Kr m).1.length<=1000000:=by omega
  refine (dif_pos (c:=(itM m).pay.length<=1000000) hp).trans ?_
  exact congrArg Prod.fst (Are (h.srv m hm) hp)
 rw[List.map_congr_left e,List.map_id]
def Ay2 (o:Pl) (p n:Nat):Nat:=(((o.ses.drop p).take n).map fun s=>N0 (Z9 s)).sum
structure A2q (n:Int) (o:Pl):Prop where
  len:(o.ses.length:Int)=n
  said:∀s∈o.ses,∃L,Aa3 s L/\L.length<=259
theorem Aue:∀{X:List (List Int)} {r:List (List Dz)},X.length=r.length->(∀(j:Nat) (s:List Int),X[j]? = some s->N0 (Z9 s)<=N0 ((r[j]?).getD []))->(X.map fun s=>N0 (Z9 s)).sum<=N0 r.flatten
 | [],_,_,_=>Ae _
 | s::X,[],h,_=>by simp at h
 | s::X,q::r,hl,h=>by
  have h0:N0 (Z9 s)<=N0 q:=h 0 s rfl
  have h1:=Aue (X:=X) (r:=r) (by simpa using hl) fun j s hs=>h (j+1) s hs
  rw[List.map_cons,List.sum_cons,List.flatten_cons,T1]
  omega
variable {C:E6} {b:I7} {e:Mg}
theorem Awd (hb:Ru b) (hC:b.city.cfg=C) (he:Oc e) (hk:e.kind=6) (hS:∀a∈C.ags,1<=a.se/\a.se<=2) (hD:∀(k:Nat) (d:Dx),b.city.desks[k]? = some d->BkI d.reg.bk):(Vv b e).2.2=true/\A2q (Ek C.ags C.ags.length) (Vv b e).2.1/\∀(k:Nat) (d:Dx) (a:Hy),b.city.desks[k]? = some d->C.ags[k]? = some a->∃x,(Vv b e).1.city.desks[k]? = some x/\BkS (Nj d.reg.bk) x.reg.bk (Ay2 (Vv b e).2.1 (Ek C.ags k).toNat a.se.toNat):=by
 have hq:=Jg b e hb he
 rw[<- U6 hb he] at hq
 generalize Vv b e=D at hq ⊢
 obtain⟨t1,t2,_,l,S,hl,hTk,hTic,hsl,hout⟩:=hq.tick hk
 have hcfg:D.1.city.cfg=C:=hq.cfg.trans hC
 obtain⟨rp,en,⟨ens,_,_,hA⟩,hrl,hSI⟩:=hTic
 have key:∀(k:Nat) (d:Dx) (a:Hy),b.city.desks[k]? = some d->C.ags[k]? = some a->∃(x:Dx) (r:List (List Dz)),D.1.city.desks[k]? = some x/\BkS (Nj d.reg.bk) x.reg.bk (N0 r.flatten)/\(r.length:Int)=Ed a/\∀j:Nat,(j:Int)<Ed a->∃s q,D.2.1.ses[(Ek C.ags k).toNat+j]? = some s/\Aa3 s q/\q.length<=259/\N0 q<=N0 ((r[j]?).getD []):=fun k d a hd ha=>by
  obtain⟨x,r,e',s',k1,k2,_,k4⟩:=(hA k d a hd (by show b.city.cfg.ags[k]? = _;rw[hC];exact ha)).1 (Ab.1 hd).1
  have hB:=k4.bk (hD k d hd)
  refine⟨x,r,k1,hB.1,?_,fun j hj=>?_⟩
  ·show (r.length:Int)=_
   rw[show r.length=d.aud.length from hB.2.2]
   exact hb.city.dl k d a hd (by rw[hC];exact ha)
  obtain⟨q,hq1,hq2⟩:=hSI k j a r (.inl (by show k<D.1.city.cfg.ags.length;rw[hcfg];exact (Ab.1 ha).1)) (by show D.1.city.cfg.ags[k]? = _;rw[hcfg];exact ha) hj k2
  have hq1:S.ses[(Ek D.1.city.cfg.ags k).toNat+j]? = some q:=hq1
  rw[hcfg] at hq1
  have hso:(Ek C.ags k).toNat+j<D.2.1.ses.length:=by
   have:=(Ab.1 hq1).1
   have hsl:S.ses.length=D.2.1.ses.length:=hsl
   omega
  have ho:=hout _ q _ hq1 (Aa hso)
  have h:=hq2.said hB.2.1
  rw[<- ho] at h
  exact⟨_,q,Aa hso,h⟩
 have hdl:b.city.desks.length=C.ags.length:=by rw[hb.city.desks,hC]
 refine⟨t1,⟨by rw[t2,hC],fun s hs=>?_⟩,fun k d a hd ha=>?_⟩
 ·obtain⟨n,hn,rfl⟩:=List.mem_iff_getElem.1 hs
  have t2:(D.2.1.ses.length:Int)=_:=t2
  rw[hC] at t2
  obtain⟨k,a,j,ha,hj,rfl⟩:=Uu (l:=C.ags) (s:=n) C.ags.length (by omega)
  have hkl:=(Ab.1 ha).1
  obtain⟨x,r,_,_,_,h4⟩:=key k _ a (Aa (by omega)) ha
  obtain⟨s,q,h5,h6,h7,_⟩:=h4 j hj
  rw[Aa hn] at h5
  injection h5 with h5
  rw[h5]
  exact⟨q,h6,h7⟩
 obtain⟨x,r,h1,h2,h3,h4⟩:=key k d a hd ha
 have hse:=hS a (Ac ha)
 have hcn:=(Hf a).2.2 hse
 refine⟨x,h1,h2.mono ?_⟩
 have hlen:(Ek C.ags k).toNat+a.se.toNat<=D.2.1.ses.length:=by
  obtain⟨s,q,h5,_⟩:=h4 (a.se.toNat - 1) (by omega)
  have:=(Ab.1 h5).1
  omega
 refine Aue (by rw[A5,Bc];omega) fun j s hs=>?_
 have hj:j<a.se.toNat:=by
  have:=(Ab.1 hs).1
  rw[A5] at this
  omega
 obtain⟨s',q,h5,h6,_,h7⟩:=h4 j (by omega)
 rw[Ag hj,Bd,h5] at hs
 injection hs with hs
 rw[<- hs,h6.all]
 exact h7
structure Atr (C:E6) (i:Nat) (a:Hy) (b:I7) (n:Nat) (T:Int):Prop where
  br:Ru b
  cfg:b.city.cfg=C
  all:∀(k:Nat) (d:Dx),b.city.desks[k]? = some d->BkI d.reg.bk
  dk:∃d,b.city.desks[i]? = some d/\d.reg.bk.ra=a.ra/\d.reg.bk.bu=a.bu/\n+d.reg.bk.lv<=a.bu+T
variable {a:Hy}
theorem Atr.other {i:Nat} {n:Nat} {T:Int} (h:Atr C i a b n T) (he:Oc e) (hk:e.kind≠6):Atr C i a (Vv b e).1 n T/\(Vv b e).2.2=false:=by
 have hq:=Jg b e h.br he
 rw[<- U6 h.br he] at hq
 generalize Vv b e=D at hq ⊢
 refine⟨?_,hq.none hk⟩
 by_cases h3:e.kind<=3
 ·have hf:=hq.few h3
  have hi:=hq.i
  rw[hf] at hi ⊢
  exact⟨hi,h.cfg,h.all,h.dk⟩
 have hK:=(hq.keep (by omega) hk).2
 refine⟨hq.i,hq.cfg.trans h.cfg,fun k d hd=>?_,?_⟩
 ·have hl:k<b.city.desks.length:=by
   have:=(Ab.1 hd).1
   have h1:=hq.i.city.desks
   rw[hq.cfg] at h1
   have h2:=h.br.city.desks
   omega
  obtain⟨y,hy⟩:=hK.2 k _ (Aa hl)
  rw[hy] at hd
  injection hd with hd
  rw[<- hd]
  exact h.all k b.city.desks[k] (Aa hl)
 obtain⟨d,d1,d2⟩:=h.dk
 obtain⟨y,hy⟩:=hK.2 i d d1
 exact⟨_,hy,d2⟩
theorem Atr.tick {i:Nat} {n:Nat} {T:Int} (h:Atr C i a b n T) (ha:C.ags[i]? = some a) (hS:∀a∈C.ags,1<=a.se/\a.se<=2) (he:Oc e) (hk:e.kind=6):Atr C i a (Vv b e).1 (n+Ay2 (Vv b e).2.1 (Ek C.ags i).toNat a.se.toNat) (T+a.ra)/\(Vv b e).2.2=true/\A2q (Ek C.ags C.ags.length) (Vv b e).2.1:=by
 obtain⟨h1,h2,h3⟩:=Awd h.br h.cfg he hk hS h.all
 have hq:=Jg b e h.br he
 rw[<- U6 h.br he] at hq
 generalize Vv b e=D at hq h1 h2 h3 ⊢
 refine⟨⟨hq.i,hq.cfg.trans h.cfg,fun k d hd=>?_,?_⟩,h1,h2⟩
 ·have hl1:k<C.ags.length:=by
   have:=(Ab.1 hd).1
   have h1:=hq.i.city.desks
   rw[hq.cfg,h.cfg] at h1
   omega
  have hl:k<b.city.desks.length:=by
   have h2:=h.br.city.desks
   rw[h.cfg] at h2
   omega
  obtain⟨x,hx,hB⟩:=h3 k _ _ (Aa hl) (Aa hl1)
  rw[hx] at hd
  injection hd with hd
  rw[<- hd]
  exact hB.I (Aae (h.all k _ (Aa hl))).1
 obtain⟨d,d1,d2,d3,d4⟩:=h.dk
 obtain⟨x,hx,hB⟩:=h3 i d a d1 ha
 have hr:=Aae (h.all i d d1)
 have:=hB.2.2.2
 exact⟨x,hx,hB.1.trans (hr.2.1.trans d2),hB.2.1.trans (hr.2.2.1.trans d3),by push_cast;omega⟩
theorem Avb {c:E6} (hp:Ln c=true) (ha:a∈c.ags):0<=a.ra/\a.ra<=a.bu/\a.bu<=1000:=by
 unfold Ln at hp
 simp only[Ah] at hp
 have h:=Am.1 hp.1.2 a ha
 simp only[Ad8,Et,Ah,decide_eq_true_eq] at h
 omega
end
section
theorem A2c (b:List Int):ItB (Ez b).1:=by
 unfold ItB
 match b with
 | []=>decide
 | [b0]=>rw[Ez];split<;>simp
 | [b0,b1]=>rw[Ez];(split<;>simp);(intro _ _ _ _ _ h;cases h)
 | [b0,b1,b2]=>rw[Ez];(split<;>simp);(intro _ _ _ _ _ h;cases h)
 | [b0,b1,b2,b3]=>rw[Ez];(split<;>simp);(intro _ _ _ _ _ h;cases h)
 | [b0,b1,b2,b3,b4]=>rw[Ez];(split<;>simp);(intro _ _ _ _ _ h;cases h)
 | b0::b1::b2::b3::b4::b5::r =>
  rw[Ez]
  dsimp only
  repeat' split
  all_goals first | (simp;done) | (refine⟨?_,by simp⟩;dsimp only;omega)
theorem Axx {b:List Int} {x:E7×Int} (h:x∈J1 b):ItB x.1:=by
 obtain⟨k,hk⟩:=A3.1 h
 rw[(Tu _ b k x hk).2]
 exact A2c _
theorem Aj9 {p:E7->Prop} (n:Int):∀(L:List (E7×Int)) (u:Int) (g:Bool) (l:List E7),(∀x∈L,p x.1)->(∀t∈l,p t)->∀t∈(Lk n L u g l).2.2,p t
 | [],u,g,l,_,h=>h
 | x::L,u,g,l,h1,h2=>by
  have h3:∀x∈L,p x.1:=fun y hy=>h1 y (List.mem_cons_of_mem _ hy)
  have h4:∀t∈l++[x.1],p t:=Kg h2 (h1 x (List.mem_cons_self ..))
  rw[Lk]
  split
  ·exact Aj9 n L _ _ _ h3 h2
  split
  ·exact h4
  exact Aj9 n L _ _ _ h3 h4
theorem A34 {s y:Fi} {p:Gj} (h:Ayl s (y,p)):∀t∈p.items,ItB t:=by
 cases ho:s.op with
 | false =>
  have h:=congrArg Prod.snd (h.1 ho)
  have h:p=⟨false,[]⟩:=h
  rw[h]
  exact fun _ h=>absurd h A8
 | true =>
  obtain⟨e,⟨u,h1,_⟩,h2⟩:=h.2 ho
  have h2:p=_:=congrArg Prod.snd h2
  rw[h2]
  intro t ht
  rcases A0.1 ht with ht | ht
  ·split at ht
   ·rw[An.1 ht]
    exact⟨by decide,by decide⟩
   cases ht
  have hr:=Aj9 (p:=ItB) 4 (J1 s.st.buf) 0 s.st.gar [] (fun x hx=>Axx hx) fun _ h=>absurd h A8
  rw[h1] at hr
  exact hr t ht
variable {l:List Gj}
theorem A12 {b n:Nat} (h:∀p∈l,∀t∈p.items,ItB t):∀p∈Zn l b n,∀t∈p.items,ItB t:=fun p hp=>by
 obtain⟨j,_,rfl⟩:=A4.1 hp
 cases hx:l[b+j]? with
 | none=>exact fun _ h=>absurd h A8
 | some x=>exact h x (Ac hx)
theorem Axz {b n j:Nat} (h:j<n):(Zn l b n)[j]? = some ((l[b+j]?).getD ⟨false,[]⟩):=by
 unfold Zn
 rw[Ap,List.getElem?_range h]
 rfl
theorem Aqj.rep {c:Fo} {k:Nat} {d:Dx} {a:Hy} {D:Dx×List (List Dz)×List F8×List Int} {n:Int} (h:Aqj c l k d a D) (ha:X7 n d) (hn:0<=n/\n<=99) (hnow:NB c.now) (hl:∀p∈l,∀t∈p.items,ItB t):X7 n D.1/\(∀q∈D.2.1,q.length<=257/\∀m∈q,Agv m)/\D.2.2.1.flatMap K4=D.2.1.flatten.flatMap (Hz n)/\(∀t∈D.2.2.1,Aee t)/\(∀j,j<d.aud.length->j<(Ed a).toNat->(∀p,l[(Ek c.cfg.ags k).toNat+j]? = some p->p.op=false)->(D.2.1[j]?).getD []=[])/\D.2.1.length=d.aud.length:=by
 obtain⟨hb',h1,h2,h3,h4,rfl⟩:=h
 have hq:=Sa c.cfg (Fd d c.now hb') (Zn l (Ek c.cfg.ags k).toNat (Ed a).toNat) c.now h1 h2 h3 h4
 have hB:=Ql d c.now hb'
 have hR:=Md d.reg c.now hb'.reg
 have hA:X7 n (Fd d c.now hb'):=⟨by rw[hB.2.1,hR.2.2.2.2];exact (Aae ha.bk).1,by rw[hB.2.1,hR.2.1.1];exact ha.num,by rw[hB.2.1,hR.2.1.2];exact ha.rq⟩
 have hX:=hq.2.rep hA hn hnow (A12 hl)
 refine⟨hX.1,fun q h=>⟨(hq.1.2.2.2.2.2.1 q h).1,hX.2.1 q h⟩,hX.2.2.1,hX.2.2.2.1,fun j hj hc ho=>?_,by rw[hq.1.2.2.2.2.1,hB.2.2.2.2]⟩
 refine hX.2.2.2.2 j _ (by rw[hB.2.2.2.2];exact hj) (Axz hc) ?_
 cases hx:l[(Ek c.cfg.ags k).toNat+j]? with
 | none=>rfl
 | some x=>exact ho x hx
theorem Ajp {a:Int} (h:a<=99):vnl a=1:=by
 unfold vnl
 rw[if_pos (by omega)]
theorem Atz (a b:List Int):M0 (a++b)=M0 a+M0 b:=by
 unfold M0
 rw[List.map_append,List.sum_append]
section
variable {l:List F8} (h:∀t∈l,Aee t)
include h
theorem Aty:M0 (l.flatMap K4)=3*l.length:=by
 induction l with
 | nil=>rfl
 | cons t l ih =>
  obtain⟨h1,h2,h3⟩:=h t (List.mem_cons_self ..)
  rw[List.flatMap_cons,Atz,ih fun x hx=>h x (List.mem_cons_of_mem _ hx),K4,Ta,Ta,Ta,Ajp h1.2,Ajp h2.2,Ajp h3.2,A6,show M0 []=0 from rfl]
  omega
theorem Az1:∀a∈l.flatMap K4,NB a:=fun a ha=>by
 obtain⟨t,ht,ha⟩:=List.mem_flatMap.1 ha
 obtain⟨h1,h2,h3⟩:=h t ht
 simp only[K4,List.mem_cons,A8,or_false] at ha
 rcases ha with rfl | rfl | rfl<;>exact⟨by omega,by omega⟩
end
theorem Aob.told {S:Fo} {i j:Nat} {n:Int} {r:List (List Dz)} {en:List F8} {q:List Dz} (h:Aob S l i j r en q) (hc:J4 S) (hnow:NB S.now) (hr:∀x∈r,x.length<=257/\∀m∈x,Agv m) (he:∀t∈en,Aee t) (hcl:(∀p,l[(Ek S.cfg.ags i).toNat+j]? = some p->p.op=false)->(r[j]?).getD []=[]):Aa3 (q.map Nt).flatten q/\q.length<=259/\(∀m∈q,(m.kind=15->2<=m.args.length)/\(m.kind=14->1<=m.args.length))/\q.flatMap (Hz n)=((r[j]?).getD []).flatMap (Hz n)/\∀m∈q,m.kind=18->m=⟨18,[],S.now::(en.take 16).flatMap K4,[]⟩:=by
 rcases h with⟨p,_,_,E,M,hE,m2,m3⟩ | ⟨h0,rfl⟩
 ·have m3:q=(((r[j]?).getD []++[M])++(if E.aud[j]? = some true then [(⟨18,[],S.now::(en.take 16).flatMap K4,[]⟩:Dz)] else [])).filter fun m=>!N7 m:=m3
  have hj:((r[j]?).getD []).length<=257/\∀m∈(r[j]?).getD [],Agv m:=by
   cases hj:r[j]? with
   | none=>exact⟨Ae _,fun _ h=>absurd h A8⟩
   | some x=>exact hr x (Ac hj)
  generalize (r[j]?).getD []=y at m3 hj ⊢
  obtain⟨k1,k2,k3,k4,k5⟩:=m2
  have hM:S2 M/\Hh M:=by
   have hv:=Abf fun v hv=>hc.view v hv
   have hvl:=hc.views
   have hnj:=hc.nj
   have hrq:=(hc.desk E (Ac hE)).1.rq
   have hd:M.data.length<=100:=by omega
   have hz:Hh M:=⟨by rw[k3];exact Ae _,by rw[k2];simp,by omega⟩
   have hs:Sc M.kind=some ⟨0,1,0,0,0,-1⟩:=by rw[k1];rfl
   exact⟨Ake hs (Akt hs k3 (.inl rfl) hd (.inl ⟨rfl,by rw[k2];rfl⟩) (by rw[k2];intro a ha;rw[An.1 ha];exact hnow) (by rw[k2];have:=Aqn [S.now];exact Ak this (by simp))) hz,hz⟩
  have hTr:S2 (⟨18,[],S.now::(en.take 16).flatMap K4,[]⟩:Dz)/\Hh (⟨18,[],S.now::(en.take 16).flatMap K4,[]⟩:Dz):=by
   have he':∀t∈en.take 16,Aee t:=fun t ht=>he t (Aq ht)
   have hl:(en.take 16).length<=16:=by rw[A5];omega
   generalize en.take 16=es at he' hl
   have hv:=Aty he'
   have hvn:=At0 S.now
   have hel:=Anx es
   have hz:Hh (⟨18,[],S.now::es.flatMap K4,[]⟩:Dz):=⟨Ae _,by rw[A6];omega,Ae _⟩
   have hs:Sc (⟨18,[],S.now::es.flatMap K4,[]⟩:Dz).kind=some ⟨0,1,3,0,16,0⟩:=rfl
   refine⟨Ake hs (Akt hs rfl (.inr rfl) (Ae _) (.inr ⟨es.length,by omega,by dsimp only;omega,by decide,by dsimp only;rw[A6];omega⟩) (fun a ha=>?_) (by rw[Ta];omega)) hz,hz⟩
   rcases List.mem_cons.1 ha with rfl | ha
   ·exact hnow
   exact Az1 he' a ha
  obtain⟨X,hX⟩:∃X:Dz,X=⟨18,[],S.now::(en.take 16).flatMap K4,[]⟩:=⟨_,rfl⟩
  rw[<- hX] at m3 hTr ⊢
  generalize hT:(if E.aud[j]? = some true then [X] else [])=T at m3
  have hTq:T.length<=1/\T.flatMap (Hz n)=[]/\∀m∈T,m=X:=by
   rw[<- hT]
   split
   ·exact⟨Aj _,by rw[hX];rfl,fun m h=>An.1 h⟩
   exact⟨Ae _,rfl,fun _ h=>absurd h A8⟩
  have hMk:Hz n M=[]:=if_pos k1
  have hall:∀m∈y++[M]++T,S2 m/\Hh m/\By m.data/\(m.kind=15->2<=m.args.length)/\(m.kind=14->1<=m.args.length)/\(m.kind=18->m=X):=fun m h=>by
   rcases A0.1 h with h | h
   ·rcases A0.1 h with h | h
    ·have h:=hj.2 m h
     exact⟨h.srv,h.sz,h.by',h.a15,h.a14,fun e=>absurd e h.nt.2⟩
    rw[An.1 h]
    exact⟨hM.1,hM.2,k5,fun e=>by omega,fun e=>by omega,fun e=>by omega⟩
   rw[hTq.2.2 m h]
   exact⟨hTr.1,hTr.2,by rw[hX];exact .nil,fun e=>(by rw[hX] at e;cases e),fun e=>(by rw[hX] at e;cases e),fun _=>rfl⟩
  have hq:q=y++[M]++T:=by
   rw[m3]
   exact List.filter_eq_self.2 fun m h=>Aya (hall m h).1.ok (hall m h).2.1
  have hlen:(y++[M]++T).length<=259:=by
   rw[Bo,Bo,List.length_singleton]
   omega
  rw[hq]
  have hf:=Amr (L:=y++[M]++T) fun m h=>⟨(hall m h).1,(hall m h).2.2.1⟩
  refine⟨⟨fun m hm=>(hall m hm).1,rfl,by omega,hf.1⟩,hlen,fun m hm=>⟨(hall m hm).2.2.2.1,(hall m hm).2.2.2.2.1⟩,?_,fun m hm=>(hall m hm).2.2.2.2.2⟩
  rw[List.flatMap_append,List.flatMap_append,hTq.2.1,List.append_nil]
  show _++(Hz n M++[])=_
  rw[hMk,List.append_nil,List.append_nil]
 rw[hcl h0]
 exact⟨⟨fun _ h=>absurd h A8,rfl,Ae _,.nil⟩,Ae _,fun _ h=>absurd h A8,rfl,fun _ h=>absurd h A8⟩
def Tw:List Hy->Int->Int->Int
 | [],_,_=>-1
 | a::l,k,s=>if 0<=s/\s<a.se then k else Tw l (k+1) (s - a.se)
theorem Asd {l:List Hy} {i:Nat} {e:Hy} (h:l[i]? = some e) (k s:Int):Tw (l.drop i) k s=if 0<=s/\s<e.se then k else Tw (l.drop (i+1)) (k+1) (s - e.se):=by
 obtain⟨hi,he⟩:=Ab.1 h
 rw[List.drop_eq_getElem_cons hi,he,Tw]
theorem Acx (a:Hy) (l:List Hy):∀k,Ek (a::l) (k+1)=Ed a+Ek l k
 | 0=>by simp[Ek]
 | k+1=>by
  rw[Ek,Acx a l k,Ek]
  simp only[Bb]
  omega
theorem Aq4:∀{l:List Hy} {k:Nat} {a:Hy} {j:Nat} (n:Int),(∀x∈l,1<=x.se/\x.se<=2)->l[k]? = some a->(j:Int)<Ed a->Tw l n (Ek l k+j)=n+k
 | [],k,a,j,n,_,h,_=>by cases h
 | x::l,0,a,j,n,hS,h,hj=>by
  have hx:=hS x (List.mem_cons_self ..)
  have hc:=(Hf x).2.2 hx
  have h:x=a:=by simpa using h
  subst h
  rw[Tw,Ek,if_pos (by omega)]
  simp
 | x::l,k+1,a,j,n,hS,h,hj=>by
  have hx:=hS x (List.mem_cons_self ..)
  have hc:=(Hf x).2.2 hx
  have hb:=(Iz l k).1
  have h:l[k]? = some a:=by simpa using h
  rw[Tw,Acx,if_neg (by omega),show Ed x+Ek l k+(j:Int) - x.se=Ek l k+j by omega,Aq4 (n+1) (fun y hy=>hS y (List.mem_cons_of_mem _ hy)) h hj]
  push_cast
  omega
def wnt (C:E6) (l:List (List Int)):Nat->List Int
 | 0=>[]
 | n+1=>wnt C l n++(Z9 ((l[n]?).getD [])).flatMap (Hz (Tw C.ags 0 n))
structure A0f (C:E6) (o:Pl):Prop where
  len:(o.ses.length:Int)=Ek C.ags C.ags.length
  said:∀s∈o.ses,∃L,Aa3 s L/\L.length<=259/\∀m∈L,(m.kind=15->2<=m.args.length)/\(m.kind=14->1<=m.args.length)
  tr:∃T:Int,∀s∈o.ses,∀m∈Z9 s,m.kind=18->m=⟨18,[],T::(wnt C o.ses o.ses.length).take 48,[]⟩
theorem Amp:∀(n:Nat) (l:List F8),(l.flatMap K4).take (3*n)=(l.take n).flatMap K4
 | 0,l=>by simp
 | n+1,[]=>by simp
 | n+1,e::l=>by
  rw[List.take_succ_cons,List.flatMap_cons,List.flatMap_cons,<- Amp n l,K4,show 3*(n+1)=3*n+1+1+1 by omega]
  rfl
theorem Ai7 {α:Type} {l:List (List α)} {i:Nat}:(l.take (i+1)).flatten=(l.take i).flatten++(l[i]?).getD []:=by
 rw[List.take_add_one,List.flatten_append]
 cases l[i]? <;> simp
theorem Awf {C:E6} {b:I7} {e:Mg} (hb:Ru b) (hC:b.city.cfg=C) (he:Oc e) (hk:e.kind=6) (hS:∀a∈C.ags,1<=a.se/\a.se<=2) (hD:∀(k:Nat) (d:Dx),b.city.desks[k]? = some d->X7 k d) (hnow:0<=b.city.now):(Vv b e).2.2=true/\A0f C (Vv b e).2.1/\(∀(k:Nat) (d:Dx),(Vv b e).1.city.desks[k]? = some d->X7 k d)/\0<=(Vv b e).1.city.now:=by
 have hq:=Jg b e hb he
 rw[<- U6 hb he] at hq
 generalize Vv b e=D at hq ⊢
 obtain⟨t1,t2,t3,l,S,hl,hTk,hTic,hsl,hout⟩:=hq.tick hk
 have hcfg:D.1.city.cfg=C:=hq.cfg.trans hC
 have hnb:NB D.1.city.now/\0<=D.1.city.now:=by
  have e:(if 1073741823<b.city.now then 1073741823 else b.city.now)<=1073741823/\0<=(if 1073741823<b.city.now then 1073741823 else b.city.now):=by split<;>omega
  rw[t3,Dw _]
  exact⟨⟨by omega,by omega⟩,by omega⟩
 have hit:∀p∈l,∀t∈p.items,ItB t:=fun p hp=>by
  obtain⟨k,hk⟩:=A3.1 hp
  have hkl:k<b.sess.length:=by rw[<- hl];exact (Ab.1 hk).1
  obtain⟨y,p',_,h2,h3⟩:=hTk k _ hkl (Aa hkl)
  rw[hk] at h2
  injection h2 with h2
  rw[h2]
  exact A34 h3
 obtain⟨rp,en,⟨ens,hen,henl,hA⟩,hrl,hSI⟩:=hTic
 have hdl:b.city.desks.length=C.ags.length:=by rw[hb.city.desks,hC]
 have hna:C.ags.length<=4:=by rw[<- hC];exact hb.city.na
 have rep:∀(k:Nat) (d:Dx) (a:Hy),b.city.desks[k]? = some d->C.ags[k]? = some a->∃x r e s,D.1.city.desks[k]? = some x/\rp[k]? = some r/\ens[k]? = some e/\X7 k x/\(∀q∈r,q.length<=257/\∀m∈q,Agv m)/\e.flatMap K4=r.flatten.flatMap (Hz k)/\(∀t∈e,Aee t)/\(∀j,j<d.aud.length->j<(Ed a).toNat->(∀p,l[(Ek C.ags k).toNat+j]? = some p->p.op=false)->(r[j]?).getD []=[])/\r.length=d.aud.length/\s=([]:List Int):=fun k d a hd ha=>by
  have hkd:=(Ab.1 hd).1
  obtain⟨x,r,e',s',k1,k2,k3,k4⟩:=(hA k d a hd (by show b.city.cfg.ags[k]? = _;rw[hC];exact ha)).1 hkd
  have hR:=k4.rep (n:=k) (hD k d hd) (by omega) hnb.1 hit
  have h5:=hR.2.2.2.2.1
  rw[show Ek (⟨b.city.cfg,b.city.ref,D.1.city.now,b.city.desks,b.city.sigs,b.city.svcs,b.city.stuck,b.city.views⟩:Fo).cfg.ags k=Ek C.ags k by rw[<- hC]] at h5
  exact⟨x,r,e',[],k1,k2,k3,hR.1,hR.2.1,hR.2.2.1,hR.2.2.2.1,h5,hR.2.2.2.2.2,rfl⟩
 have henb:∀t∈en,Aee t:=fun t ht=>by
  rw[hen] at ht
  obtain⟨es,hes,ht⟩:=List.mem_flatten.1 ht
  obtain⟨k,hk⟩:=A3.1 hes
  have hkl:k<b.city.desks.length:=by rw[<- henl];exact (Ab.1 hk).1
  obtain⟨x,r,e',s,_,_,h3,_,_,_,h7,_⟩:=rep k _ _ (Aa hkl) (Aa (by omega))
  rw[hk] at h3
  injection h3 with h3
  rw[h3] at ht
  exact h7 t ht
 have key:∀(k:Nat) (a:Hy),C.ags[k]? = some a->∃(e:List F8) (r:List (List Dz)),ens[k]? = some e/\e.flatMap K4=r.flatten.flatMap (Hz k)/\(r.length:Int)=Ed a/\∀j:Nat,(j:Int)<Ed a->∃s q,D.2.1.ses[(Ek C.ags k).toNat+j]? = some s/\Aa3 s q/\q.length<=259/\(∀m∈q,(m.kind=15->2<=m.args.length)/\(m.kind=14->1<=m.args.length))/\q.flatMap (Hz k)=((r[j]?).getD []).flatMap (Hz k)/\∀m∈q,m.kind=18->m=⟨18,[],D.1.city.now::(en.take 16).flatMap K4,[]⟩:=fun k a ha=>by
  have hkl:=(Ab.1 ha).1
  have hd:b.city.desks[k]? = some _:=Aa (by omega)
  obtain⟨x,r,e',_,k1,k2,k3,k4,k5,k6,k7,k8,k9,_⟩:=rep k _ a hd ha
  have hda:=hb.city.dl k _ a hd (by rw[hC];exact ha)
  refine⟨e',r,k3,k6,by omega,fun j hj=>?_⟩
  obtain⟨q,hq1,hq2⟩:=hSI k j a r (.inl (by show k<D.1.city.cfg.ags.length;rw[hcfg];exact hkl)) (by show D.1.city.cfg.ags[k]? = _;rw[hcfg];exact ha) hj k2
  have hq1:S.ses[(Ek D.1.city.cfg.ags k).toNat+j]? = some q:=hq1
  rw[hcfg] at hq1
  have hso:(Ek C.ags k).toNat+j<D.2.1.ses.length:=by
   have:=(Ab.1 hq1).1
   have hsl:S.ses.length=D.2.1.ses.length:=hsl
   omega
  have ho:=hout _ q _ hq1 (Aa hso)
  have h:=hq2.told (n:=k) hq.i.city hnb.1 k5 henb fun h0=>k8 j (by omega) (by omega) fun p hp=>h0 p (by show l[(Ek D.1.city.cfg.ags k).toNat+j]? = _;rw[hcfg];exact hp)
  rw[<- ho] at h
  exact⟨_,q,Aa hso,h⟩
 have place:∀s∈D.2.1.ses,∃(k:Nat) (a:Hy) (j:Nat),C.ags[k]? = some a/\(j:Int)<Ed a/\D.2.1.ses[(Ek C.ags k).toNat+j]? = some s:=fun s hs=>by
  obtain⟨n,hn,rfl⟩:=List.mem_iff_getElem.1 hs
  have t2:(D.2.1.ses.length:Int)=_:=t2
  rw[hC] at t2
  obtain⟨k,a,j,ha,hj,rfl⟩:=Uu (l:=C.ags) (s:=n) C.ags.length (by omega)
  exact⟨k,a,j,ha,hj,Aa hn⟩
 have inner:∀(k:Nat) (a:Hy) (e:List F8) (r:List (List Dz)),C.ags[k]? = some a->(r.length:Int)=Ed a->(∀j:Nat,(j:Int)<Ed a->∃s q,D.2.1.ses[(Ek C.ags k).toNat+j]? = some s/\Aa3 s q/\q.flatMap (Hz k)=((r[j]?).getD []).flatMap (Hz k))->∀j:Nat,(j:Int)<=Ed a->wnt C D.2.1.ses ((Ek C.ags k).toNat+j)=wnt C D.2.1.ses (Ek C.ags k).toNat++(r.take j).flatten.flatMap (Hz k):=fun k a e r ha hr h j=>by
  induction j with
  | zero=>intro _;simp
  | succ j ih =>
   intro hj
   obtain⟨s,q,h1,h2,h3⟩:=h j (by omega)
   have hb0:=(Iz C.ags k).1
   have ho:Tw C.ags 0 (((Ek C.ags k).toNat+j:Nat):Int)=k:=by
    have:=Aq4 0 hS ha (j:=j) (by omega)
    rw[show (((Ek C.ags k).toNat+j:Nat):Int)=Ek C.ags k+j by omega,this]
    omega
   rw[<- Af,wnt,ih (by omega),h1,ho,show (some s).getD []=s from rfl,h2.all,h3,Ai7,List.flatMap_append,List.append_assoc]
 have outer:∀k,k<=C.ags.length->wnt C D.2.1.ses (Ek C.ags k).toNat=(ens.take k).flatten.flatMap K4:=fun k=>by
  induction k with
  | zero=>intro _;simp[Ek,wnt]
  | succ k ih =>
   intro hk
   have ha:=Aa (show k<C.ags.length by omega)
   obtain⟨e',r,h1,h2,h3,h4⟩:=key k _ ha
   have h5:=inner k _ e' r ha h3 (fun j hj=>by obtain⟨s,q,a1,a2,_,_,a3,_⟩:=h4 j hj;exact⟨s,q,a1,a2,a3⟩) r.length (by omega)
   have hb0:=(Iz C.ags k).1
   rw[show (Ek C.ags (k+1)).toNat=(Ek C.ags k).toNat+r.length by rw[Ek,ha];dsimp only;omega,h5,ih (by omega),Bf (Aj _),Ai7,h1,List.flatMap_append,<- h2]
   rfl
 have hW:wnt C D.2.1.ses D.2.1.ses.length=en.flatMap K4:=by
  have t2:(D.2.1.ses.length:Int)=_:=t2
  rw[hC] at t2
  have h:=outer C.ags.length (Aj _)
  rw[Bf (by omega),<- hen] at h
  rw[<- h]
  congr 1
  omega
 refine⟨t1,⟨by rw[t2,hC],fun s hs=>?_,D.1.city.now,fun s hs m hm h18=>?_⟩,fun k d hd=>?_,hnb.2⟩
 ·obtain⟨k,a,j,ha,hj,h⟩:=place s hs
  obtain⟨e',r,_,_,_,h4⟩:=key k a ha
  obtain⟨s',q,h5,h6,h7,h8,_⟩:=h4 j hj
  rw[h] at h5
  injection h5 with h5
  rw[h5]
  exact⟨q,h6,h7,h8⟩
 ·obtain⟨k,a,j,ha,hj,h⟩:=place s hs
  obtain⟨e',r,_,_,_,h4⟩:=key k a ha
  obtain⟨s',q,h5,h6,_,_,_,h9⟩:=h4 j hj
  rw[h] at h5
  injection h5 with h5
  rw[h5,h6.all] at hm
  rw[hW,show 48=3*16 from rfl,Amp]
  exact h9 m hm h18
 have hl1:k<C.ags.length:=by
  have:=(Ab.1 hd).1
  have h1:=hq.i.city.desks
  rw[hcfg] at h1
  omega
 obtain⟨x,r,e',s,k1,_,_,k4,_⟩:=rep k _ _ (Aa (by omega)) (Aa hl1)
 rw[k1] at hd
 injection hd with hd
 rw[<- hd]
 exact k4
structure Ay1 (C:E6) (b:I7):Prop where
  br:Ru b
  cfg:b.city.cfg=C
  all:∀(k:Nat) (d:Dx),b.city.desks[k]? = some d->X7 k d
  now:0<=b.city.now
theorem Ay1.other {C:E6} {b:I7} {e:Mg} (h:Ay1 C b) (he:Oc e) (hk:e.kind≠6):Ay1 C (Vv b e).1/\(Vv b e).2.2=false:=by
 have hq:=Jg b e h.br he
 rw[<- U6 h.br he] at hq
 generalize Vv b e=D at hq ⊢
 refine⟨?_,hq.none hk⟩
 by_cases h3:e.kind<=3
 ·have hf:=hq.few h3
  have hi:=hq.i
  rw[hf] at hi ⊢
  exact⟨hi,h.cfg,h.all,h.now⟩
 have hK:=(hq.keep (by omega) hk).2
 refine⟨hq.i,hq.cfg.trans h.cfg,fun k d hd=>?_,by rw[hK.1];exact h.now⟩
 have hl:k<b.city.desks.length:=by
  have:=(Ab.1 hd).1
  have h1:=hq.i.city.desks
  rw[hq.cfg] at h1
  have h2:=h.br.city.desks
  omega
 obtain⟨y,hy⟩:=hK.2 k _ (Aa hl)
 rw[hy] at hd
 injection hd with hd
 have hA:=h.all k b.city.desks[k] (Aa hl)
 rw[<- hd]
 exact⟨hA.bk,hA.num,hA.rq⟩
theorem Ak3 {C:E6} (hS:∀a∈C.ags,1<=a.se/\a.se<=2):∀(l:List Mg) {b:I7},Ay1 C b->(∀e∈l,Oc e)->∀o∈Rd b l,A0f C o
 | [],b,h,hl=>by
  rw[Rd]
  exact fun _ h=>absurd h A8
 | e::l,b,h,hl=>by
  have he:=hl e (List.mem_cons_self ..)
  have hl':∀e∈l,Oc e:=fun e h=>hl e (List.mem_cons_of_mem _ h)
  rw[Rd]
  by_cases hk:e.kind=6
  ·obtain⟨h1,h2,h3,h4⟩:=Awf h.br h.cfg he hk hS h.all h.now
   have hq:=Jg b e h.br he
   rw[<- U6 h.br he] at hq
   rw[if_pos h1]
   exact fun o ho=>(List.mem_cons.1 ho).elim (fun e=>e▸h2) (Ak3 hS l ⟨hq.i,hq.cfg.trans h.cfg,h3,h4⟩ hl' o)
  obtain⟨h1,h2⟩:=h.other he hk
  rw[if_neg (by rw[h2];decide)]
  exact Ak3 hS l h1 hl'
theorem Ava {c:E6} (hp:Ln c=true) {a:Hy} (ha:a∈c.ags):0<=a.rq:=by
 unfold Ln at hp
 simp only[Ah] at hp
 have h:=Am.1 hp.1.2 a ha
 simp only[Ad8,Et,Ah,decide_eq_true_eq] at h
 omega
theorem As7 {c:E6} (hb:Acg c) (hp:Ln c=true) (hJ:∀j∈c.juns,N5 j/\j.phs.length<=8) (hA:∀a∈c.ags,a.sec.length<=1000000/\a.lims.length<=1000000/\a.rq<=3) (hl1:c.juns.length<=4) (hl2:c.ags.length<=4) (hS:∀x∈c.ags,1<=x.se/\x.se<=2) {l:List Mg} (hE:∀e∈l,Oc e):∀o∈Rd (F6 c hb hp hJ hA hl1 hl2 hS) l,A0f c o:=by
 obtain⟨q1,q2,q3,q4,q5,q6⟩:=U1 c hb hp hJ hA hl1 hl2 hS
 generalize F6 c hb hp hJ hA hl1 hl2 hS=B at q1 q2 q3 q4 q5 q6
 refine Ak3 hS l ⟨q1,q2,fun k d hd=>?_,by rw[q3];decide⟩ hE
 have hk:k<c.ags.length:=by
  have h:=q1.city.desks
  rw[q2] at h
  rw[<- h]
  exact (Ab.1 hd).1
 have ha:=Aa hk
 obtain⟨h1,h2,h3⟩:=q6 k _ ha
 rw[h3] at hd
 injection hd with hd
 have hr:=Avb hp (Ac ha)
 have hq:=Ava hp (Ac ha)
 have hN:=W6 k c.ags[k] h1 h2
 rw[<- hd]
 refine⟨?_,by rw[(Rh k _ h1 h2).1,hN.1],by rw[(Rh k _ h1 h2).1,hN.2.1];exact hq⟩
 rw[(Rh k _ h1 h2).1,hN.2.2.2.2]
 exact⟨by show 0<=c.ags[k].bu;omega,by show c.ags[k].bu<=c.ags[k].bu;omega,by show 0<=c.ags[k].ra;omega,by show c.ags[k].ra<=1000;omega,by show c.ags[k].bu<=1000;omega⟩
end
theorem Azn {st:St}:st.raw (.const (.pointer none))=.lit (.pointer none):=rfl
attribute [go_sem] Azn
theorem Te:PP 10 [] [.nil 0] [.box 84 [.nil 1,.li 0]] (.ptr 0 0):=by
 refine El Tryz.func10 ?_
 iterate 2 refine Bw ?_
 exact .ret (rW Dy [0])
theorem Uq (l:List Int):PP 10 [] [.mI l] [.box 84 ((⟨l,0⟩:Fc).a false)] (.ptr 0 0):=by
 refine El Tryz.func10 ?_
 iterate 2 refine Bw ?_
 exact .ret (rW Dy [0])
theorem Vx (l:List Int):Ct 8 [.mI l] (fun d:Bool=>.lb d) (fun d=>d=decide (l.length<=300)):=by
 refine Ev Tryz.func8 ?_
 iterate 2 refine Bq ?_
 refine Bz (Fl ?_);simp[go_sem]
 exact⟨_,rfl,(by simp;omega)⟩
theorem Vy (l:List Int):PP 8 [] [.mI l] [] (.lb (decide (l.length<=300))):=by
 obtain⟨_,h,d,rfl,hd⟩:=Vx l
 rwa[hd] at h
theorem Aux:∀(l:List Mg) (b:I7),(Rd b l).length<=l.length
 | [],b=>by simp[Rd]
 | e::l,b=>by
  have:=Aux l (Vv b e).1
  rw[Rd]
  split<;>simp<;>omega
theorem S4  : Ct 9 [] (fun d:Bool=>.lb d) (fun d=>d=true):=by
 refine Ev Tryz.func9 ?_
 obtain⟨C,hC,_,hc2,hcq⟩:=Jc ⟨[],0⟩ 63 (by simp) (Int.le_refl 0)
 have hc1:=hc2.2 rfl
 obtain⟨b,f,hR,h10⟩:=As6 hcq.b (hcq.pl (by decide)) hcq.hj hcq.ha (by have:=hcq.nj;omega) (by have:=hcq.na;omega) hcq.hs hc1.1 hc1.2
 have hL:∀e∈([⟨1,0,0,0,[]⟩,⟨6,0,0,0,[]⟩]:List Mg),Oc e:=fun e he=>by rcases List.mem_cons.1 he with rfl | he;exact Jj rfl;rw[An.1 he];exact Jj rfl
 have hv:=Z6 C.1 [⟨1,0,0,0,[]⟩,⟨6,0,0,0,[]⟩] hcq.b (hcq.pl (by decide)) hcq.hj hcq.ha (by have:=hcq.nj;omega) (by have:=hcq.na;omega) hcq.hs (by simp) hL
 rw[Aam,show ([⟨1,0,0,0,[]⟩,⟨6,0,0,0,[]⟩]:List Mg).take 400=[⟨1,0,0,0,[]⟩,⟨6,0,0,0,[]⟩] from rfl,hR] at hv
 have h10i:(10:Int)<b.length:=by omega
 refine Bq ?_
 refine Dk 5 1 (by rfl) fun K1 hK1=>?_
 simp[go_sem]
 refine .by (Te) (Qn.refl _) (by simp) ?_
 simp[go_sem]
 refine .o [0] (hC) ?_
 simp[go_sem]
 refine .l (hv) ?_
 simp[go_sem]
 refine hK1 _ ?_;clear hK1
 refine Bu Dy ?_
 exact .ret (Eu h10i true rfl)
theorem Aqr:PP 9 [] [] [] (.lb true):=by
 obtain⟨Y1,cY1,qY1⟩:=Eo (S4)
 have h:=cY1
 rwa[qY1] at h
section
variable {w:World} {v:Value}
theorem Arh {b off:Nat} (h:w.cell? ⟨b,off,none⟩=some v):∃cur ty fz,w.heap[b]? = some (.cells cur ty fz)/\cur[off]? = some v:=by
 unfold World.cell? at h
 split at h
 ·rename_i cur ty fz h1
  exact⟨cur,ty,fz,h1,by simpa using h⟩
 simp at h
theorem Aod.tree {A:Option Addr} {len cap:Nat} {zs:List Int} (h:Aod w A len cap zs) (S:Nat->Prop) (hS:∀b,b<w.heap.size->S b):∃xs:List Int,Gn w.heap S (.sl 1 (tI xs)) (.slice A len cap):=by
 by_cases h0:len=0
 ·subst h0
  exact⟨[],.nil 1 A cap⟩
 obtain⟨b,off,rfl,hb,h1⟩:=h.at_ 0 (by omega)
 obtain⟨cur,ty,fz,hc,_⟩:=Arh h1
 have hlen:len<=cap/\zs.length=cap:=by
  rcases h with⟨h,_⟩ | ⟨x,_,h2,_,h3,_⟩
  ·cases h
  exact⟨h2,h3⟩
 refine⟨zs.take len,?_⟩
 have hl:(tI (zs.take len)).length=len:=by simp[tI];omega
 have key:∀(i:Nat) (e:List T),(tI (zs.take len))[i]? = some e->i<len/\e=[.li (zs.getD i 0)]:=fun i e he=>by
  have hi:i<len:=by have:=(Ab.1 he).1;omega
  refine⟨hi,?_⟩
  simp only[tI,Ap,Ag hi] at he
  rw[Aa (show i<zs.length by omega)] at he
  simp only[Ai,Option.some.injEq] at he
  rw[<- he,Ad,Aa (show i<zs.length by omega)]
  rfl
 have:=Gn.sl (h:=w.heap) (S:=S) 1 (tI (zs.take len)) b off cap cur ty fz (fun i _=>.int .i64 (zs.getD i 0)) hc (hS b hb) (by omega) (fun i e he=>by rw[(key i e he).2];rfl) (fun i e j x he hx=>by
  obtain⟨hi,rfl⟩:=key i e he
  have hj:j=0:=by have:=(Ab.1 hx).1;simp at this;omega
  subst hj
  obtain⟨b',off',e',_,h2⟩:=h.at_ i hi
  cases e'
  obtain⟨cur',ty',fz',hc',hv⟩:=Arh h2
  rw[hc] at hc'
  cases hc'
  simpa using hv) (fun i e j x he hx=>by
  obtain⟨hi,rfl⟩:=key i e he
  have hj:j=0:=by have:=(Ab.1 hx).1;simp at this;omega
  subst hj
  simp at hx
  subst hx
  exact .lit _ rfl)
 rwa[hl] at this
def C0 (w:World):VC:=⟨w.heap,(St.mk [] []).o,fun _=>none,w.heap.size,fun _=>False,fun _=>True,fun _=>True⟩
theorem A4h {b:Nat} (h:b<w.heap.size):(C0 w).S false b:=⟨h,(fun⟨id,h,_⟩=>by cases h),.inr (.inr ⟨trivial,fun h=>by cases h⟩)⟩
theorem E4.top {P:Program} {f:FuncId} {args:List AV} (h:E4 P f [] args [] (.lit v)) (w:World) (us:Array Value) (hl:us.size=args.length) (hv:∀(t:Nat) (c:AV) (u:Value),args[t]? = some c->us[t]? = some u->Ea (C0 w) c u) :
  Calls P f us w fun e w'=>e=.returned v/\Below w.heap.size w w':=by
 let E:Gp:=⟨w,fun _=>.gone,fun _=>none,fun _=>True,fun _=>True,args.length,[],fun _=>none⟩
 have hM:E.M=fun _=>False:=by
  funext b
  exact propext ⟨fun⟨id,h,_⟩=>h rfl,fun h=>h.elim⟩
 have hC:E.C (fun _=>none) ⟨H0 0 args,[]⟩ w=C0 w:=by
  show VC.mk _ _ _ _ E.M _ _=_
  rw[hM]
  rfl
 have r0:Es E (fun _=>none) ⟨H0 0 args,[]⟩ ⟨us,[]⟩ w:=by
  refine⟨hl,fun t=>?_,rfl,fun id=>trivial,fun i j b hi=>absurd rfl hi,fun i b hi=>absurd rfl hi,Kp.refl _ _,⟨(fun id ty cs h=>by cases h),(fun id ty k fr fz es h=>by cases h)⟩,(fun b o h=>by cases h),List.nodup_nil,fun D h=>by cases h⟩
  rw[hC]
  show Ea _ (E5 (H0 0 args) t) _
  rw[Lg,Nat.sub_zero,Ad]
  cases hx:args[t]? with
  | none=>exact .any _
  | some x =>
   have ht:t<us.size:=by rw[hl];exact (Ab.1 hx).1
   rw[if_pos (Ae _),Av,Al ht]
   exact hv t x _ hx (Al ht)
 refine (h.2 E (fun _=>none) us rfl (by funext i;simp[E,St.o]) rfl r0).mono ?_
 rintro e w' ⟨u,β',rfl,r⟩
 have h0:=r.sl 0
 have h1:u=v:=by
  simp[E5] at h0
  cases h0
  rfl
 refine⟨by rw[h1],?_⟩
 obtain⟨k1,k2,k3,k4,k5⟩:=r.kp
 exact⟨k1,k2,k3,k4,fun b hb=>k5 b hb (fun⟨id,h,_⟩=>h rfl)⟩
end
section
section
variable (c:E6) (s:Int) (hl:c.ags.length<=4) (hs:0<=s/\s<=100) (hA:∀x∈c.ags,1<=x.se/\x.se<=2)
include hl hs hA
theorem J6:Ct 16 [c.g,.lit (.int .i64 s)] (fun d:Int×Int=>.tup [.lit (.int .i64 d.1),.lit (.int .i64 d.2)]) (fun d=>d.1=Tw c.ags 0 s):=by
 refine Ev Tryz.func16 ?_
 refine Bq<|.seq ?_
 refine Bq<|.block ?_
 refine Bs c.ags.length (fun i1 (y1:Int)=>⟨[(1,.lit (.int .i64 y1)),(9,.mAg c.ags),(10,.lit (.int .i64 c.ags.length)),(11,.lit (.int .i64 i1))],[]⟩) (fun i1 y1=>Tw (c.ags.drop i1) i1 y1=Tw c.ags 0 s/\s - 2*i1<=y1/\y1<=s) (s) (wk Dy []) (⟨rfl,by simp,by omega⟩) fun i1 y1 hi1 hy1=>?_
 refine Bq<|.seq ?_
 refine Br ?_ ?_<;>intro h12
 ·refine Bp<|.seq<|.block ?_
  obtain⟨e1,H1⟩:=gx c.ags i1
  refine Bu H1<|.seq ?_
  have hA1:=hA e1 (Ac H1)
  have hd1:=Asd H1 (i1:Int) y1
  refine Bu H1 ?_
  refine Br ?_ ?_<;>intro h23
  ·refine Bu H1 ?_
   exact .ret (Eu H1 (i1,y1) (by rw[hd1,if_pos (by omega)] at hy1;exact hy1.1))
  refine Bp ?_
  have hw2:=Dw (y1 - e1.se:Int)
  refine B0 (Fe H1 hw2) ?_
  refine B0 (Fe H1 hw2) ?_
  exact⟨by omega,((y1 - e1.se)),⟨by rw[hd1,if_neg (by omega)] at hy1;rw[<- hy1.1];push_cast;rfl,by omega,by omega⟩,wk (I1 (Dw ((i1:Int)+1)) H1 hw2) []⟩
 refine Bt<|.R ?_
 exact .ret (Eu Dy ((-1),(-1)) (by have h:=hy1.1;rw[List.drop_of_length_le (by omega)] at h;exact h))
def Kb:Int×Int:=(Eo (J6 c s hl hs hA)).choose
theorem Uo:PP 16 [] [c.g,.lit (.int .i64 s)] [] (.tup [.lit (.int .i64 (Kb c s hl hs hA).1),.lit (.int .i64 (Kb c s hl hs hA).2)]):=(Eo (J6 c s hl hs hA)).choose_spec.1
theorem Uz:(Kb c s hl hs hA).1=Tw c.ags 0 s:=(Eo (J6 c s hl hs hA)).choose_spec.2
theorem A4f:∃o,PP 16 [] [c.g,.lit (.int .i64 s)] [] (.tup [.lit (.int .i64 (Tw c.ags 0 s)),.lit (.int .i64 o)]):=by
 have h:=Uo c s hl hs hA
 rw[Uz] at h
 exact⟨_,h⟩
end
theorem A33 {kd a s:Int} {b:List Int} {h:b.length<=1000} {args:List Int} (hb:b.length=8) (hB:By b) (hl:args.length<=20):MkQ ⟨kd,Em a s b h,args,[]⟩:=by
 have h1:=Ll a s b h
 exact⟨by rw[h1.1,hb],h1.2 hB,hl,rfl⟩
theorem ob3:Va (.box 56 [.lit (.int .i64 0),.nil 1,.nil 1,.nil 1]) (.box 56 [.lit (.int .i64 0),.imm false 1 [],.imm false 1 [],.imm false 1 []]):=.box (.cons (.refl _) (.cons (.nil _ _ _) (.cons (.nil _ _ _) (.cons (.nil _ _ _) .nil))))
def TrI (T:Int) (W:List Int) (k:Int) (a:List Int):Prop:=k=0\/(k=18/\a=T::W.take 48)
variable {P:List Int} {L:List Dz} {i:Nat}
theorem Zv {e:Dz} {n:Int} {y z:List Int} (h:y=P++(L.take i).flatMap (Hz n)) (he:L[i]? = some e) (hw:Hz n e=z):y++z=P++(L.take (i+1)).flatMap (Hz n):=by
 rw[h,List.take_add_one,he,List.flatMap_append,List.append_assoc,<- hw]
 simp
theorem Alw {e:Dz} {n:Int} {y:List Int} (h:y=P++(L.take i).flatMap (Hz n)) (he:L[i]? = some e) (hw:Hz n e=[]):y=P++(L.take (i+1)).flatMap (Hz n):=by
 have h:=Zv h he hw
 rwa[List.append_nil] at h
theorem Aw9 {C:E6} {l:List (List Int)} {s:List Int} (hs:l[i]? = some s) (hL:Z9 s=L):wnt C l (i+1)=wnt C l i++L.flatMap (Hz (Tw C.ags 0 i)):=by
 rw[wnt,hs,<- hL]
 rfl
theorem Azw {k e:Int} (h:([1,0,0,2,0,0,9,12,0,0]:List Int)[(k - 13).toNat]? = some e) (h1:13<=k/\k<=20) (h2:¬k=17) (h3:¬k=18) (h4:¬k=15) (h5:¬k=14) (n:Int) {m:Dz} (hm:m.kind=k):Hz n m=[n,e,0]:=by
 have hw:Hz n m=[n,A2b k,0]:=by rw[Hz,hm,if_neg h2,if_neg h3,if_neg h4,if_neg h5]
 rw[hw]
 have hk:k=13\/k=16\/k=19\/k=20:=by omega
 rcases hk with rfl | rfl | rfl | rfl
 ·rw[<- Option.some.inj (show some (1:Int)=some e from h)];rfl
 ·rw[<- Option.some.inj (show some (2:Int)=some e from h)];rfl
 ·rw[<- Option.some.inj (show some (9:Int)=some e from h)];rfl
 rw[<- Option.some.inj (show some (12:Int)=some e from h)];rfl
section
variable (l:List Int)
include l
theorem I2:Ct 7 [.mI l] (fun d:Bool=>.lit (.bool d)) (fun d=>d=true):=by
 refine Ev Tryz.func7 ?_
 refine Bq<|.seq ?_
 refine B8 Dy (Vy l) ?_
 refine Br ?_ ?_<;>intro h23
 ·refine B8 Dy (Aqr) ?_
  refine Bz (Fl ?_);simp[go_sem]
  exact⟨true,by rfl,rfl⟩
 refine Bp<|.L Dy (Uq l) ?_
 obtain⟨C,hC,hcl,hc2,hcq⟩:=Jc ⟨l,0⟩ 63 h23 (Int.le_refl 0)
 refine Da Dy [0] hC ?_
 have hna:=hcq.na
 obtain⟨ag,hag⟩:=gx C.1.ags 0
 have hgq:=hcq.ag ag (Ac hag)
 have hsl1:ag.sec.length<=1000:=by have:=hgq.1;omega
 obtain⟨FR,hFR,hfl,hfB⟩:=Azu (m:=⟨10,Em 0 0 ag.sec hsl1,[1],[]⟩) (A33 hgq.1 hgq.2.2.2.2.2.2.2.2.2.2 (by simp))
 refine B3 (fun K kk=>by simp[go_sem,hag];(repeat refine aK ?_);refine .l (G0 0 0 ag.sec hsl1) ?_;simp[go_sem,hag];refine .l (hFR) ?_;simp[go_sem,hag];exact kk) ?_
 obtain⟨S,hS,_,_,hsl,hsq⟩:=M5 C.2 C.1 true (by rw[hcl];exact h23) hc2.1 hcq
 have hln6:(2+S.1.length=S.1.length+1+1)=True:=eq_true (by omega)
 refine Cw (fun K kk=>by simp[go_sem,hln6];refine .o [0] (hS) ?_;simp[go_sem,hln6];(repeat first | exact kk | refine aK ?_))<|.seq ?_
 have hsc:∀e∈(⟨1,0,0,0,[]⟩::⟨3,0,0,0,FR⟩::S.1),Oc e:=fun e he=>by rcases List.mem_cons.1 he with rfl | he;exact Jj rfl;rcases List.mem_cons.1 he with rfl | he;exact⟨by dsimp only;omega,hfB⟩;exact hsq e he
 have hv1:=Z6 C.1 (⟨1,0,0,0,[]⟩::⟨3,0,0,0,FR⟩::S.1) hcq.b (hcq.pl (by decide)) hcq.hj hcq.ha (by have:=hcq.nj;omega) (by have:=hcq.na;omega) hcq.hs (by simp;omega) hsc
 rw[Aam] at hv1
 have hLw:=As7 hcq.b (hcq.pl (by decide)) hcq.hj hcq.ha (by have:=hcq.nj;omega) (by have:=hcq.na;omega) hcq.hs (l:=(⟨1,0,0,0,[]⟩::⟨3,0,0,0,FR⟩::S.1).take 400) (fun e he=>hsc e (Aq he))
 have hAn:=Aux ((⟨1,0,0,0,[]⟩::⟨3,0,0,0,FR⟩::S.1).take 400) (F6 C.1 hcq.b (hcq.pl (by decide)) hcq.hj hcq.ha (by have:=hcq.nj;omega) (by have:=hcq.na;omega) hcq.hs)
 generalize Rd (F6 C.1 hcq.b (hcq.pl (by decide)) hcq.hj hcq.ha (by have:=hcq.nj;omega) (by have:=hcq.na;omega) hcq.hs) ((⟨1,0,0,0,[]⟩::⟨3,0,0,0,FR⟩::S.1).take 400)=A at hv1 hLw hAn
 rw[A5] at hAn
 refine Dj 4 ?_
 simp[go_sem,-Prod.exists,hln6]
 refine B8 hln6 (hv1)<|.block ?_
 refine Bs A.length (fun i1 (y1:Unit)=>⟨[(4,.ptr 0 0),(48,.mOut A),(49,.lit (.int .i64 A.length)),(50,.lit (.int .i64 i1))],[.box 30 (C.1.a false)]⟩) (fun i1 y1=>True) () (wQ [1] ?_ ?_) (trivial) fun i1 y1 hi1 hy1=>?_
 ·simp[go_sem,hln6]
 ·simp[go_sem,hln6]
 refine Bu hln6<|.seq ?_
 refine Br ?_ ?_<;>intro h51
 ·refine Bp<|.seq<|.block ?_
  obtain⟨e1,H1⟩:=gx A i1
  refine Bu (Fe hln6 H1) ?_
  refine Bu (Fe hln6 H1) ?_
  refine Bu (Fe hln6 H1)<|.seq ?_
  have hO:=hLw e1 (Ac H1)
  have hOl:=hO.len
  have hB0:=Iz C.1.ags C.1.ags.length
  obtain⟨tn,hT⟩:=hO.tr
  refine Bu (Fe hln6 H1)<|.block ?_
  refine Cf 9 3 1 (by decide) (k':=1) (by simp[go_sem]) ?_
  simp[go_sem,-Prod.exists]
  refine Bs e1.ses.length (fun i2 (y2:Int×(List Int)×(List Int)×(List Int)×(List Int))=>⟨[(4,.ptr 0 0),(9,.own 2 y2.2.2.2.2.length),(10,.ptr 1 0),(48,.mOut A),(49,.lit (.int .i64 A.length)),(50,.lit (.int .i64 i1)),(55,.mYs e1.ses),(56,.lit (.int .i64 e1.ses.length)),(57,.lit (.int .i64 i2))],[.box 30 (C.1.a false),.box 56 [.lit (.int .i64 y2.1),.mY y2.2.1,.mI y2.2.2.1,.mY y2.2.2.2.1],.row 3 1 false false (tI y2.2.2.2.2)]⟩) (fun i2 y2=>y2.2.2.2.2=wnt C.1 e1.ses i2/\y2.2.2.2.2.length<=777*i2/\TrI tn (wnt C.1 e1.ses e1.ses.length) y2.1 y2.2.2.1) (0,[],[],[],[]) (wQ [0,2,3] ?_ ?_) (⟨rfl,by simp,.inl rfl⟩) fun i2 y2 hi2 hy2=>?_
  ·simp[go_sem,hln6,H1,ob3]
  ·simp[go_sem,hln6,H1,ob3]
  refine Bu (Fe hln6 H1)<|.seq ?_
  refine Br ?_ ?_<;>intro h58
  ·refine Bp<|.seq<|.block ?_
   obtain⟨e2,H2⟩:=gx e1.ses i2
   refine Bu (I1 hln6 H1 H2) ?_
   obtain⟨L,hL,hLn,hLk⟩:=hO.said e2 (Ac H2)
   have hsd:=Un e2 L hL.srv hL.eq hL.len hL.by'
   rw[Uy] at hsd
   have hTm:=hT e2 (Ac H2)
   rw[hL.all] at hTm
   refine B8 (I1 hln6 H1 H2) (hsd)<|.seq ?_
   refine Bu (I1 hln6 H1 H2) ?_
   refine Ck ?_ ?_<;>intro h68<;>simp[go_sem] at h68
   refine Bp ?_
   obtain⟨O2,hov⟩:=A4f C.1 (i2:Int) (by omega) (by omega) hcq.hs
   refine B8 (I1 hln6 H1 H2) (hov) ?_
   refine Bu (I1 hln6 H1 H2)<|.block ?_
   refine Bs L.length (fun i3 (y3:Int×(List Int)×(List Int)×(List Int)×(List Int))=>⟨[(4,.ptr 0 0),(9,.own 2 y3.2.2.2.2.length),(10,.ptr 1 0),(15,.lit (.int .i64 (Tw C.1.ags 0 (i2:Int)))),(48,.mOut A),(49,.lit (.int .i64 A.length)),(50,.lit (.int .i64 i1)),(55,.mYs e1.ses),(56,.lit (.int .i64 e1.ses.length)),(57,.lit (.int .i64 i2)),(75,.mMsg L),(76,.lit (.int .i64 L.length)),(77,.lit (.int .i64 i3))],[.box 30 (C.1.a false),.box 56 [.lit (.int .i64 y3.1),.mY y3.2.1,.mI y3.2.2.1,.mY y3.2.2.2.1],.row 3 1 false false (tI y3.2.2.2.2)]⟩) (fun i3 y3=>y3.2.2.2.2=wnt C.1 e1.ses i2++(L.take i3).flatMap (Hz (Tw C.1.ags 0 (i2:Int)))/\y3.2.2.2.2.length<=777*i2+3*i3/\TrI tn (wnt C.1 e1.ses e1.ses.length) y3.1 y3.2.2.1) (y2.1,y2.2.1,y2.2.2.1,y2.2.2.2.1,y2.2.2.2.2) (wQ [0,1,2] ?_ ?_) (⟨by simpa using hy2.1,by have:=hy2.2.1;omega,hy2.2.2⟩) fun i3 y3 hi3 hy3=>?_
   ·simp[go_sem,hln6,H1,H2]
   ·simp[go_sem,hln6,H1,H2]
   refine Bu (I1 hln6 H1 H2)<|.seq ?_
   refine Br ?_ ?_<;>intro h78
   ·refine Bp<|.seq<|.block ?_
    obtain⟨e3,H3⟩:=gx L i3
    refine Bu (O4 hln6 H1 H2 H3) ?_
    have hr4:=(hL.srv e3 (Ac H3)).rng
    refine Bu (O4 hln6 H1 H2 H3)<|.block ?_
    refine Bu (O4 hln6 H1 H2 H3) ?_
    refine Br ?_ ?_<;>intro h101
    ·refine Bp<|.H1 (O4 hln6 H1 H2 H3) ?_
     refine⟨by omega,(y3.1,y3.2.1,y3.2.2.1,y3.2.2.2.1,y3.2.2.2.2),?_,wQ [0,1,2] ?_ ?_⟩
     ·exact⟨Alw hy3.1 H3 (if_pos h101),by have:=hy3.2.1;dsimp only;omega,hy3.2.2⟩
     all_goals simp[go_sem,Dw ((i3:Int)+1),hln6,H1,H2,H3]
    refine Bu (O4 hln6 H1 H2 H3) ?_
    refine Br ?_ ?_<;>intro h103
    ·refine B0 (O4 hln6 H1 H2 H3) ?_
     refine B0 (O4 hln6 H1 H2 H3) ?_
     refine⟨by omega,(e3.kind,e3.tok,e3.args,e3.data,y3.2.2.2.2),?_,wQ [0,1,2] ?_ ?_⟩
     ·exact⟨Alw hy3.1 H3 (by rw[Hz,if_neg h101,if_pos h103]),by have:=hy3.2.1;dsimp only;omega,.inr ⟨h103,congrArg Dz.args (hTm e3 (Ac H3) h103)⟩⟩
     all_goals simp[go_sem,Dw ((i3:Int)+1),hln6,H1,H2,H3]
    refine Bu (O4 hln6 H1 H2 H3) ?_
    refine Br ?_ ?_<;>intro h106
    ·have hl15:=(hLk e3 (Ac H3)).1 h106
     obtain⟨e4,H4⟩:=gx e3.args 0
     obtain⟨e5,H5⟩:=gx e3.args 1
     refine VX.G1 (cj6 hln6 H1 H2 H3 H4 H5) ?_
     refine B0 (cj6 hln6 H1 H2 H3 H4 H5) ?_
     refine⟨by omega,(y3.1,y3.2.1,y3.2.2.1,y3.2.2.2.1,y3.2.2.2.2++([(Tw C.1.ags 0 (i2:Int)),e4,e5])),?_,wQ [0,1,2] ?_ ?_⟩
     ·exact⟨Zv hy3.1 H3 (by rw[Hz,if_neg h101,if_neg h103,if_pos h106,Ad,Ad,H4,H5];rfl),by have:=hy3.2.1;simp;omega,hy3.2.2⟩
     all_goals simp[go_sem,Dw ((i3:Int)+1),hln6,H1,H2,H3,H4,H5]
    refine Bu (O4 hln6 H1 H2 H3) ?_
    refine Br ?_ ?_<;>intro h120
    ·have hl14:=(hLk e3 (Ac H3)).2 h120
     obtain⟨e6,H6⟩:=gx e3.args 0
     refine B0 (Yo hln6 H1 H2 H3 H6) ?_
     refine B0 (Yo hln6 H1 H2 H3 H6) ?_
     refine⟨by omega,(y3.1,y3.2.1,y3.2.2.1,y3.2.2.2.1,y3.2.2.2.2++([(Tw C.1.ags 0 (i2:Int)),e6,0])),?_,wQ [0,1,2] ?_ ?_⟩
     ·exact⟨Zv hy3.1 H3 (by rw[Hz,if_neg h101,if_neg h103,if_neg h106,if_pos h120,Ad,H6];rfl),by have:=hy3.2.1;simp;omega,hy3.2.2⟩
     all_goals simp[go_sem,Dw ((i3:Int)+1),hln6,H1,H2,H3,H6]
    refine B9<|.H (O4 hln6 H1 H2 H3) ?_
    refine Ck ?_ ?_<;>intro h90<;>simp[go_sem] at h90
    ·exfalso;omega
    refine Bp ?_
    have hw7:=Dw (e3.kind - 13:Int)
    obtain⟨e8,H8⟩:=gx ([1,0,0,2,0,0,9,12,0,0]:List Int) ((e3.kind - 13).toNat)
    have hxte8:[[T.lit (Value.int IntKind.i64 1)],[T.lit (Value.int IntKind.i64 0)],[T.lit (Value.int IntKind.i64 0)],[T.lit (Value.int IntKind.i64 2)],[T.lit (Value.int IntKind.i64 0)],[T.lit (Value.int IntKind.i64 0)],[T.lit (Value.int IntKind.i64 9)],[T.lit (Value.int IntKind.i64 12)],[T.lit (Value.int IntKind.i64 0)],[T.lit (Value.int IntKind.i64 0)]][(e3.kind - 13).toNat]? = some [T.lit (Value.int IntKind.i64 e8)]:=Akc (l:=[1,0,0,2,0,0,9,12,0,0]) H8
    refine Ci (fun K kk=>by simp[go_sem,hln6,H1,H2,H3,hw7,H8,hxte8];repeat first | exact kk | refine aK ?_) ?_
    refine Ci (fun K kk=>by simp[go_sem,hln6,H1,H2,H3,hw7,H8,hxte8];exact kk) ?_
    refine⟨by omega,(y3.1,y3.2.1,y3.2.2.1,y3.2.2.2.1,y3.2.2.2.2++([(Tw C.1.ags 0 (i2:Int)),e8,0])),?_,wQ [0,1,2] ?_ ?_⟩
    ·exact⟨Zv hy3.1 H3 (Azw H8 hr4 h101 h103 h106 h120 _ rfl),by have:=hy3.2.1;simp;omega,hy3.2.2⟩
    all_goals simp[go_sem,Dw ((i3:Int)+1),hln6,H1,H2,H3,hw7,H8,hxte8]
   refine Bt<|.H1 (I1 hln6 H1 H2) ?_
   refine⟨by omega,(y3.1,y3.2.1,y3.2.2.1,y3.2.2.2.1,y3.2.2.2.2),?_,wQ [0,1,2] ?_ ?_⟩
   ·exact⟨by rw[Aw9 H2 hL.all,hy3.1,Bf (by omega)],by have:=hy3.2.1;dsimp only;omega,hy3.2.2⟩
   all_goals simp[go_sem,Dw ((i2:Int)+1),hln6,H1,H2]
  refine Bt<|.seq<|.H (Fe hln6 H1) ?_
  refine Br ?_ ?_<;>intro h134
  ·refine Bt<|.H1 (Fe hln6 H1) ?_
   refine⟨by omega,wQ [0] ?_ ?_⟩
   all_goals simp[go_sem,Dw ((i1:Int)+1),hln6,H1]
  refine Bp ?_
  have hTr:=hy2.2.2.resolve_left h134
  have hyw:=hy2.1
  rw[show i2=e1.ses.length by omega] at hyw
  obtain⟨W2,hW2⟩:∃W2,W2=y2.2.2.2.2.take (min y2.2.2.2.2.length 48):=⟨_,rfl⟩
  have hT36:List.take (if (48:Int)<(y2.2.2.2.2.length:Int) then (48:Int) else (y2.2.2.2.2.length:Int)).toNat (tI y2.2.2.2.2)=tI W2:=by rw[hW2,tI,tI,List.map_take];congr 1;split<;>omega
  have hW3:y2.2.2.1=tn::W2:=by rw[hTr.2,<- hyw,hW2];congr 1;rw[List.take_eq_take_iff];omega
  have hW4:y2.2.2.1.length=W2.length+1:=by rw[hW3,A6]
  have hW5:W2.length<=48:=by rw[hW2,A5];omega
  refine Dj 2 ?_
  simp[go_sem,-Prod.exists,hln6,H1]
  refine Bu (I1 hln6 H1 hT36)<|.seq ?_
  have hw9:=Dw (W2.length+1:Int)
  refine Bu (I1 hln6 H1 hw9) ?_
  refine Ck ?_ ?_<;>intro h146<;>simp[go_sem] at h146
  ·exfalso;omega
  refine Bp<|.H (I1 hln6 H1 hw9)<|.block ?_
  refine Bs W2.length (fun i4 (y4:Unit)=>⟨[(4,.ptr 0 0),(10,.ptr 1 0),(48,.mOut A),(49,.lit (.int .i64 A.length)),(50,.lit (.int .i64 i1)),(147,.mI W2),(148,.lit (.int .i64 W2.length)),(149,.lit (.int .i64 i4))],[.box 30 (C.1.a false),.box 56 [.lit (.int .i64 y2.1),.mY y2.2.1,.mI y2.2.2.1,.mY y2.2.2.2.1]]⟩) (fun i4 y4=>True) () (wQ [0,1] ?_ ?_) (trivial) fun i4 y4 hi4 hy4=>?_
  ·simp[go_sem,hln6,H1,hw9]
  ·simp[go_sem,hln6,H1,hw9]
  refine Bu (I1 hln6 H1 hw9)<|.seq ?_
  refine Br ?_ ?_<;>intro h150
  ·refine Bp<|.seq<|.block ?_
   obtain⟨ew,hew⟩:∃e,W2[i4]? = some e:=⟨_,Aa (by omega)⟩
   have hea:y2.2.2.1[i4+1]? = some ew:=by rw[hW3];exact hew
   refine Bu (O4 hln6 H1 hw9 hew) ?_
   have hw10:=Dw (i4+1:Int)
   refine Bu (cj6 hln6 H1 hw9 hw10 hew hea) ?_
   refine Ck ?_ ?_<;>intro h161<;>simp[go_sem] at h161
   refine Bp<|.H1 (O4 hln6 H1 hw9 hw10) ?_
   refine⟨by omega,(),?_,wQ [0,1] ?_ ?_⟩
   ·trivial
   all_goals simp[go_sem,Dw ((i4:Int)+1),hln6,H1,hw9,hw10]
  refine Bt<|.H1 (I1 hln6 H1 hw9) ?_
  refine⟨by omega,wQ [0] ?_ ?_⟩
  all_goals simp[go_sem,Dw ((i1:Int)+1),hln6,H1,hw9]
 refine Bt<|.L hln6 (Aqr) ?_
 refine Bz (Fl ?_);simp[go_sem,hln6]
 exact⟨true,by rfl,rfl⟩
def Kz:Bool:=(Eo (I2 l)).choose
theorem Q5:PP 7 [] [.mI l] [] (.lit (.bool (Kz l))):=(Eo (I2 l)).choose_spec.1
theorem Rf:(Kz l)=true:=(Eo (I2 l)).choose_spec.2
end
theorem audit_walk (A:Option Addr) (len cap:Nat) (zs:List Int) (w:World) (hA:Aod w A len cap zs) :
 Calls Tryz.prog 7 #[.slice A len cap] w fun e w'=>e=.returned (.bool true)/\Below w.heap.size w w':=by
 obtain⟨xs,hx⟩:=hA.tree ((C0 w).S false) (fun b h=>A4h h)
 have h:=Q5 xs
 rw[Rf] at h
 refine h.top w _ rfl fun t c u hc hu=>?_
 match t,hc,hu with
 | 0,hc,hu =>
  simp at hc hu
  subst hc;subst hu
  exact .imm _ _ _ _ hx
 | t+1,hc,hu=>simp at hc
end
end Go.Proofs.YtkkimgjinbaemaaGreat
