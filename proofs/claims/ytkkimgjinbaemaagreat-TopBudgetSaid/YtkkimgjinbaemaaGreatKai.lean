/- The walk. -/
import Derived.Test.YtkkimgjinbaemaaGreatKah
noncomputable section
namespace Go.Proofs.YtkkimgjinbaemaaGreat
open Go.RowKit
set_option linter.unusedVariables false
set_option linter.unusedSimpArgs false
set_option linter.defProp false
set_option linter.unusedSectionVars false
set_option maxRecDepth 100000
set_option maxHeartbeats 4000000
theorem Aek (j:Ga) (c:No) (t:Int) (hj:Nv j) (hl:c.lights.length=j.phs.length) (hn:Sq j c.nxt) (h0:0<=t) (h1:t<j.phs.length):Cx 203 [.box 133 [.own 1 c.lights.length,.li c.grp,.own 2 c.nxt.length,.li c.wt],.row 185 2 false false (Ij c.lights),.row 3 1 false false (tI c.nxt)] [j.g,.ptr 0 0,.li t] (fun d:No×Bool×(List Int)=>(bif d.2.1 then [.box 133 [.own 1 d.1.lights.length,.li d.1.grp,.own 3 d.1.nxt.length,.li d.1.wt],.row 185 2 false false (Ij d.1.lights),.row 3 1 false false (tI d.2.2),.row 3 1 false false (tI d.1.nxt)] else [.box 133 [.own 1 d.1.lights.length,.li d.1.grp,.own 2 d.1.nxt.length,.li d.1.wt],.row 185 2 false false (Ij d.1.lights),.row 3 1 false false (tI d.1.nxt)])) (fun d=>.tup []) (fun d=>d.1.lights.length=c.lights.length/\d.1.wt=c.wt/\Sq j d.1.nxt):=by
 refine Tj Tryz.func203 ?_
 have hjl:=hj.len
 have hjc:=hj.con
 have hnl:=hn.len
 refine Bq ?_
 refine Bq<|.block ?_
 refine Bs 2 (fun i1 (y1:Int×Int×(List Fy)×(List Int)×Bool×(List Int))=>⟨[(1,.ptr 0 0),(2,.li t),(3,.ptr 3 0),(8,.li i1)],bif y1.2.2.2.2.1 then [.box 133 [.own 1 y1.2.2.1.length,.li y1.1,.own 4 y1.2.2.2.1.length,.li y1.2.1],.row 185 2 false false (Ij y1.2.2.1),.row 3 1 false false (tI y1.2.2.2.2.2),.box 88 (j.a false),.row 3 1 false false (tI y1.2.2.2.1)] else [.box 133 [.own 1 y1.2.2.1.length,.li y1.1,.own 2 y1.2.2.2.1.length,.li y1.2.1],.row 185 2 false false (Ij y1.2.2.1),.row 3 1 false false (tI y1.2.2.2.1),.box 88 (j.a false)]⟩) (fun i1 y1=>y1.2.2.1.length=j.phs.length/\y1.2.1=c.wt/\Sq j y1.2.2.2.1) (c.grp,c.wt,c.lights,c.nxt,false,[]) (wk Dy [0,1,2,3]) (⟨hl,rfl,hn⟩) fun i1 y1 hi1 hy1=>?_
 cases hb1:y1.2.2.2.2.1
 ·
  simp only[hb1,cond_false]
  refine Bq<|.seq ?_
  refine Br ?_ ?_<;>intro h9
  ·refine Bp<|.seq<|.block<|.R<|.seq ?_
   have hnl1:=hy1.2.2.len
   have hll1:=hy1.1
   obtain⟨Y1,cY1,qY1⟩:=Em (O2 j ⟨y1.2.2.1,y1.1,y1.2.2.2.1,y1.2.1⟩ i1 (by assumption) (by assumption))
   refine Dd Dy cY1 ?_
   refine Br ?_ ?_<;>intro h17
   ·refine Bt<|.R1 ?_
    refine⟨by omega,(y1.1,y1.2.1,y1.2.2.1,y1.2.2.2.1,false,[]),?_,wk (Dw ((i1:Int)+1)) [0,1,2,3]⟩
    exact hy1
   refine Bp<|.R<|.seq ?_
   obtain⟨e1,H1⟩:=gx j.phs t.toNat
   refine Bu H1 ?_
   refine Br ?_ ?_<;>intro h26
   ·have hri:0<=(i1:Int)/\(i1:Int)<2:=by omega
    obtain⟨Y2,cY2,qY2⟩:=Em (Sw j ⟨y1.2.2.1,y1.1,y1.2.2.2.1,y1.2.1⟩ i1 t hj.len hnl1 hri hj.con)
    have hvc:=cY2
    have hqc:=qY2
    generalize Y2=Q at hvc hqc
    refine Cp H1 (hvc) ?_
    refine Bu H1 ?_
    refine Br ?_ ?_<;>intro h35
    ·have hp:0<=Q/\Q<j.phs.length:=by first | exact⟨h0,h1⟩ | (rcases hqc with hqc | hqc;exact absurd hqc h35;exact hqc)
     obtain⟨⟨N,b,o⟩,hN,hqN⟩:=Iy j ⟨y1.2.2.1,y1.1,y1.2.2.2.1,y1.2.1⟩ Q hj (by exact hy1.1) (by exact hy1.2.2) hp.1 hp.2
     by_cases hc9:b=true
     ·subst hc9
      simp only[cond_true] at hN hqN
      refine C6 H1 [0,1,2] hN ?_
      refine B0 H1 ?_
      refine⟨by omega,(N.grp,N.wt,N.lights,N.nxt,true,o),?_,wk (Fa (Dw ((i1:Int)+1)) H1) [0,1,2,3,4]⟩
      first | exact hy1 | exact⟨by dsimp only;rw[hqN.1];exact hy1.1,hqN.2.1.trans hy1.2.1,hqN.2.2⟩
     have hc9:b=false:=by simpa using hc9
     subst hc9
     simp only[cond_false] at hN hqN
     refine C6 H1 [0,1,2] hN ?_
     refine B0 H1 ?_
     refine⟨by omega,(N.grp,N.wt,N.lights,N.nxt,false,[]),?_,wk (Fa (Dw ((i1:Int)+1)) H1) [0,1,2,3]⟩
     first | exact hy1 | exact⟨by dsimp only;rw[hqN.1];exact hy1.1,hqN.2.1.trans hy1.2.1,hqN.2.2⟩
    refine Bp<|.H1 H1 ?_
    refine⟨by omega,(y1.1,y1.2.1,y1.2.2.1,y1.2.2.2.1,false,[]),?_,wk (Fa (Dw ((i1:Int)+1)) H1) [0,1,2,3]⟩
    exact hy1
   refine Bp<|.H H1 ?_
   refine Br ?_ ?_<;>intro h35
   ·have hp:0<=t/\t<j.phs.length:=by exact⟨h0,h1⟩
    obtain⟨⟨N,b,o⟩,hN,hqN⟩:=Iy j ⟨y1.2.2.1,y1.1,y1.2.2.2.1,y1.2.1⟩ t hj (by exact hy1.1) (by exact hy1.2.2) hp.1 hp.2
    by_cases hc9:b=true
    ·subst hc9
     simp only[cond_true] at hN hqN
     refine C6 H1 [0,1,2] hN ?_
     refine B0 H1 ?_
     refine⟨by omega,(N.grp,N.wt,N.lights,N.nxt,true,o),?_,wk (Fa (Dw ((i1:Int)+1)) H1) [0,1,2,3,4]⟩
     first | exact hy1 | exact⟨by dsimp only;rw[hqN.1];exact hy1.1,hqN.2.1.trans hy1.2.1,hqN.2.2⟩
    have hc9:b=false:=by simpa using hc9
    subst hc9
    simp only[cond_false] at hN hqN
    refine C6 H1 [0,1,2] hN ?_
    refine B0 H1 ?_
    refine⟨by omega,(N.grp,N.wt,N.lights,N.nxt,false,[]),?_,wk (Fa (Dw ((i1:Int)+1)) H1) [0,1,2,3]⟩
    first | exact hy1 | exact⟨by dsimp only;rw[hqN.1];exact hy1.1,hqN.2.1.trans hy1.2.1,hqN.2.2⟩
   refine Bp<|.H1 H1 ?_
   refine⟨by omega,(y1.1,y1.2.1,y1.2.2.1,y1.2.2.2.1,false,[]),?_,wk (Fa (Dw ((i1:Int)+1)) H1) [0,1,2,3]⟩
   exact hy1
  refine Bt ?_
  refine⟨(⟨y1.2.2.1,y1.1,y1.2.2.2.1,y1.2.1⟩,false,[]),Aj2 [0,1,2] (by simp[go_sem]) (by decide) (Fv rfl) (by simp[go_sem]) ?_,⟨hy1.1.trans hl.symm,hy1.2⟩⟩
  repeat' (first | exact .nil | refine .cons (by simp[go_sem]) ?_)
 -- the row is a new one
 simp only[hb1,cond_true]
 refine Bq<|.seq ?_
 refine Br ?_ ?_<;>intro h9
 ·refine Bp<|.seq<|.block<|.R<|.seq ?_
  have hnl1:=hy1.2.2.len
  have hll1:=hy1.1
  obtain⟨Y3,cY3,qY3⟩:=Em (O2 j ⟨y1.2.2.1,y1.1,y1.2.2.2.1,y1.2.1⟩ i1 (by assumption) (by assumption))
  refine Dd Dy cY3 ?_
  refine Br ?_ ?_<;>intro h17
  ·refine Bt<|.R1 ?_
   refine⟨by omega,(y1.1,y1.2.1,y1.2.2.1,y1.2.2.2.1,true,y1.2.2.2.2.2),?_,wk (Dw ((i1:Int)+1)) [0,1,2,3,4]⟩
   exact hy1
  refine Bp<|.R<|.seq ?_
  obtain⟨e2,H2⟩:=gx j.phs t.toNat
  refine Bu H2 ?_
  refine Br ?_ ?_<;>intro h26
  ·have hri:0<=(i1:Int)/\(i1:Int)<2:=by omega
   obtain⟨Y4,cY4,qY4⟩:=Em (Sw j ⟨y1.2.2.1,y1.1,y1.2.2.2.1,y1.2.1⟩ i1 t hj.len hnl1 hri hj.con)
   have hvc:=cY4
   have hqc:=qY4
   generalize Y4=Q at hvc hqc
   refine Cp H2 (hvc) ?_
   refine Bu H2 ?_
   refine Br ?_ ?_<;>intro h35
   ·have hp:0<=Q/\Q<j.phs.length:=by first | exact⟨h0,h1⟩ | (rcases hqc with hqc | hqc;exact absurd hqc h35;exact hqc)
    obtain⟨⟨N,b,o⟩,hN,hqN⟩:=Iy j ⟨y1.2.2.1,y1.1,y1.2.2.2.1,y1.2.1⟩ Q hj (by exact hy1.1) (by exact hy1.2.2) hp.1 hp.2
    by_cases hc9:b=true
    ·subst hc9
     simp only[cond_true] at hN hqN
     refine C6 H2 [0,1,4] hN ?_
     refine B0 H2 ?_
     refine⟨by omega,(N.grp,N.wt,N.lights,N.nxt,true,y1.2.2.2.2.2),?_,wk (Fa (Dw ((i1:Int)+1)) H2) [0,1,2,3,5]⟩
     first | exact hy1 | exact⟨by dsimp only;rw[hqN.1];exact hy1.1,hqN.2.1.trans hy1.2.1,hqN.2.2⟩
    have hc9:b=false:=by simpa using hc9
    subst hc9
    simp only[cond_false] at hN hqN
    refine C6 H2 [0,1,4] hN ?_
    refine B0 H2 ?_
    refine⟨by omega,(N.grp,N.wt,N.lights,N.nxt,true,y1.2.2.2.2.2),?_,wk (Fa (Dw ((i1:Int)+1)) H2) [0,1,2,3,4]⟩
    first | exact hy1 | exact⟨by dsimp only;rw[hqN.1];exact hy1.1,hqN.2.1.trans hy1.2.1,hqN.2.2⟩
   refine Bp<|.H1 H2 ?_
   refine⟨by omega,(y1.1,y1.2.1,y1.2.2.1,y1.2.2.2.1,true,y1.2.2.2.2.2),?_,wk (Fa (Dw ((i1:Int)+1)) H2) [0,1,2,3,4]⟩
   exact hy1
  refine Bp<|.H H2 ?_
  refine Br ?_ ?_<;>intro h35
  ·have hp:0<=t/\t<j.phs.length:=by exact⟨h0,h1⟩
   obtain⟨⟨N,b,o⟩,hN,hqN⟩:=Iy j ⟨y1.2.2.1,y1.1,y1.2.2.2.1,y1.2.1⟩ t hj (by exact hy1.1) (by exact hy1.2.2) hp.1 hp.2
   by_cases hc9:b=true
   ·subst hc9
    simp only[cond_true] at hN hqN
    refine C6 H2 [0,1,4] hN ?_
    refine B0 H2 ?_
    refine⟨by omega,(N.grp,N.wt,N.lights,N.nxt,true,y1.2.2.2.2.2),?_,wk (Fa (Dw ((i1:Int)+1)) H2) [0,1,2,3,5]⟩
    first | exact hy1 | exact⟨by dsimp only;rw[hqN.1];exact hy1.1,hqN.2.1.trans hy1.2.1,hqN.2.2⟩
   have hc9:b=false:=by simpa using hc9
   subst hc9
   simp only[cond_false] at hN hqN
   refine C6 H2 [0,1,4] hN ?_
   refine B0 H2 ?_
   refine⟨by omega,(N.grp,N.wt,N.lights,N.nxt,true,y1.2.2.2.2.2),?_,wk (Fa (Dw ((i1:Int)+1)) H2) [0,1,2,3,4]⟩
   first | exact hy1 | exact⟨by dsimp only;rw[hqN.1];exact hy1.1,hqN.2.1.trans hy1.2.1,hqN.2.2⟩
  refine Bp<|.H1 H2 ?_
  refine⟨by omega,(y1.1,y1.2.1,y1.2.2.1,y1.2.2.2.1,true,y1.2.2.2.2.2),?_,wk (Fa (Dw ((i1:Int)+1)) H2) [0,1,2,3,4]⟩
  exact hy1
 refine Bt ?_
 refine⟨(⟨y1.2.2.1,y1.1,y1.2.2.2.1,y1.2.1⟩,true,y1.2.2.2.2.2),Aj2 [0,1,2,4] (by simp[go_sem]) (by decide) (Fv rfl) (by simp[go_sem]) ?_,⟨hy1.1.trans hl.symm,hy1.2⟩⟩
 repeat' (first | exact .nil | refine .cons (by simp[go_sem]) ?_)
theorem Vp (j:Ga) (hj:Nv j):Ct 222 [j.g] (fun d:Int=>.li d) (fun d=>1<=d/\d<=4):=by
 refine Er Tryz.func222 ?_
 have hjl:=hj.len
 refine Bq ?_
 refine Bq<|.seq ?_
 refine Bq<|.block ?_
 refine Bs j.phs.length (fun i1 (y1:Int)=>⟨[(3,.li y1),(7,.mPhase j.phs),(8,.li j.phs.length),(9,.li i1)],[]⟩) (fun i1 y1=>0<=y1/\y1<=4/\(0<i1->1<=y1)) (0) (wk Dy []) (⟨by omega,by omega,fun h=>by omega⟩) fun i1 y1 hi1 hy1=>?_
 refine Bq<|.seq ?_
 refine Br ?_ ?_<;>intro h10
 ·refine Bp<|.seq<|.block ?_
  obtain⟨e1,H1⟩:=gx j.phs i1
  refine Bu H1 ?_
  have hg:=hj.grp e1 (Ac H1)
  have hw2:=Dw (e1.grp+1:Int)
  refine B0 (Fa H1 hw2) ?_
  refine B0 (Fa H1 hw2) ?_
  refine⟨by omega,((if y1<(e1.grp+1) then (e1.grp+1) else y1)),?_,wk (Jb (Dw ((i1:Int)+1)) H1 hw2) []⟩
  (split<;>omega)
 refine Bt<|.R ?_
 exact .ret (Ep Dy y1 (by have:=hj.pos;omega))
theorem Ael (j:Ga) (c:No) (hj:Nv j) (hl:c.lights.length=j.phs.length) (hn:Sq j c.nxt):Cx 204 [.box 133 [.own 1 c.lights.length,.li c.grp,.own 2 c.nxt.length,.li c.wt],.row 185 2 false false (Ij c.lights),.row 3 1 false false (tI c.nxt)] [j.g,.ptr 0 0] (fun d:No×Bool×(List Int)=>(bif d.2.1 then [.box 133 [.own 1 d.1.lights.length,.li d.1.grp,.own 3 d.1.nxt.length,.li d.1.wt],.row 185 2 false false (Ij d.1.lights),.row 3 1 false false (tI d.2.2),.row 3 1 false false (tI d.1.nxt)] else [.box 133 [.own 1 d.1.lights.length,.li d.1.grp,.own 2 d.1.nxt.length,.li d.1.wt],.row 185 2 false false (Ij d.1.lights),.row 3 1 false false (tI d.1.nxt)])) (fun d=>.tup []) (fun d=>d.1.lights.length=c.lights.length/\d.1.wt=c.wt/\Sq j d.1.nxt):=by
 refine Tj Tryz.func204 ?_
 have hjl:=hj.len
 have hjc:=hj.con
 have hnl:=hn.len
 have hll:c.lights.length<=1000000:=by omega
 refine Bq ?_
 obtain⟨Y1,cY1,qY1⟩:=Em (Xu c hll)
 refine B8 Dy cY1<|.seq ?_
 refine Bq<|.block ?_
 refine Bs c.nxt.length (fun i1 (y1:Bool)=>⟨[(1,.ptr 0 0),(2,.ptr 3 0),(4,.lb y1),(15,.own 2 c.nxt.length),(16,.li c.nxt.length),(17,.li i1)],[.box 133 [.own 1 c.lights.length,.li c.grp,.own 2 c.nxt.length,.li c.wt],.row 185 2 false false (Ij c.lights),.row 3 1 false false (tI c.nxt),.box 88 (j.a false)]⟩) (fun i1 y1=>True) (Y1) (wk Dy [0,1,2,3]) (trivial) fun i1 y1 hi1 hy1=>?_
 refine Bq<|.seq ?_
 refine Br ?_ ?_<;>intro h18
 ·refine Bp<|.seq<|.block ?_
  obtain⟨e1,H1⟩:=gx c.nxt i1
  refine Bu H1 ?_
  refine Bu H1 ?_
  refine Br ?_ ?_<;>intro h22
  ·refine B0 H1 ?_
   refine B0 H1 ?_
   exact⟨by omega,(false),trivial,wk (Fa (Dw ((i1:Int)+1)) H1) [0,1,2,3]⟩
  refine Bp<|.H1 H1 ?_
  exact⟨by omega,(y1),trivial,wk (Fa (Dw ((i1:Int)+1)) H1) [0,1,2,3]⟩
 refine Bt<|.seq<|.R ?_
 refine Br ?_ ?_<;>intro h24
 ·obtain⟨Y2,cY2,qY2⟩:=Em (Vp j hj)
  have hvg:=cY2
  have hqg:=qY2
  generalize Y2=G at hvg hqg
  obtain⟨E,hE,hqE⟩:=Qq j ⟨c.lights,c.grp,c.nxt,c.wt⟩ (Int.tmod (IntKind.i64.wrap (c.grp+1)) G) hj
  refine Dg (fun K kk=>by simp[go_sem];refine .l (hvg) ?_;simp[go_sem];(repeat refine aK ?_);refine .o [0,1,2] (hE) ?_;simp[go_sem];exact kk) ?_
  refine Bq<|.block ?_
  refine Bs 2 (fun i2 (y2:Int×Int×(List Fy)×(List Int)×(List Int))=>⟨[(1,.ptr 0 0),(2,.ptr 3 0),(36,.li i2)],[.box 133 [.own 1 y2.2.2.1.length,.li y2.1,.own 4 y2.2.2.2.2.length,.li y2.2.1],.row 185 2 false false (Ij y2.2.2.1),.row 3 1 false false (tI y2.2.2.2.1),.box 88 (j.a false),.row 3 1 false false (tI y2.2.2.2.2)]⟩) (fun i2 y2=>y2.2.2.1.length=j.phs.length/\y2.2.1=c.wt/\Sq j y2.2.2.2.2) (E.1.grp,E.1.wt,E.1.lights,E.2,E.1.nxt) (wk Dy [0,1,2,3,4]) (⟨by rw[hqE.1];exact hl,hqE.2.2.1,hqE.2.2.2⟩) fun i2 y2 hi2 hy2=>?_
  refine Bq<|.seq ?_
  refine Br ?_ ?_<;>intro h37
  ·refine Bp<|.seq<|.block<|.R ?_
   (have hnl1:=hy2.2.2.len;have hll1:=hy2.1)
   obtain⟨e2,H2⟩:=gx y2.2.2.2.2 i2
   obtain⟨Y3,cY3,qY3⟩:=Em (O2 j ⟨y2.2.2.1,y2.1,y2.2.2.2.2,y2.2.1⟩ i2 (by assumption) (by assumption))
   refine Dd H2 cY3 ?_
   refine Br ?_ ?_<;>intro h54
   ·have hp:0<=e2/\e2<j.phs.length:=by (have hq:=Sq.ok (by first | exact hy3.2.2 | exact hy2.2.2) _ (Ac H2);rcases hq with hq | hq;exact absurd hq h54.2;exact hq)
    obtain⟨⟨N,b,o⟩,hN,hqN⟩:=Iy j ⟨y2.2.2.1,y2.1,y2.2.2.2.2,y2.2.1⟩ e2 hj (by first | exact hy3.1 | exact hy2.1) (by first | exact hy3.2.2 | exact hy2.2.2) hp.1 hp.2
    by_cases hc14:b=true
    ·subst hc14
     simp only[cond_true] at hN hqN
     refine Dg (fun K kk=>by simp[go_sem,H2];(repeat refine aK ?_);refine .o [0,1,4] (hN) ?_;simp[go_sem,H2];exact kk) ?_
     refine B0 H2 ?_
     refine⟨by omega,(N.grp,N.wt,N.lights,y2.2.2.2.1,N.nxt),?_,wk (Fa (Dw ((i2:Int)+1)) H2) [0,1,2,3,5]⟩
     first | exact hy2 | exact⟨by dsimp only;rw[hqN.1];exact hy2.1,hqN.2.1.trans hy2.2.1,hqN.2.2⟩
    have hc14:b=false:=by simpa using hc14
    subst hc14
    simp only[cond_false] at hN hqN
    refine Dg (fun K kk=>by simp[go_sem,H2];(repeat refine aK ?_);refine .o [0,1,4] (hN) ?_;simp[go_sem,H2];exact kk) ?_
    refine B0 H2 ?_
    refine⟨by omega,(N.grp,N.wt,N.lights,y2.2.2.2.1,N.nxt),?_,wk (Fa (Dw ((i2:Int)+1)) H2) [0,1,2,3,4]⟩
    first | exact hy2 | exact⟨by dsimp only;rw[hqN.1];exact hy2.1,hqN.2.1.trans hy2.2.1,hqN.2.2⟩
   refine Bp<|.H1 H2 ?_
   refine⟨by omega,(y2.1,y2.2.1,y2.2.2.1,y2.2.2.2.1,y2.2.2.2.2),?_,wk (Fa (Dw ((i2:Int)+1)) H2) [0,1,2,3,4]⟩
   exact hy2
  refine Bt ?_
  refine⟨(⟨y2.2.2.1,y2.1,y2.2.2.2.2,y2.2.1⟩,true,y2.2.2.2.1),Aj2 [0,1,2,4] (by simp[go_sem]) (by decide) (Fv rfl) (by simp[go_sem]) ?_,⟨hy2.1.trans hl.symm,hy2.2⟩⟩
  repeat' (first | exact .nil | refine .cons (by simp[go_sem]) ?_)
 refine Bp<|.R<|.block ?_
 refine Bs 2 (fun i3 (y3:Int×Int×(List Fy)×(List Int)×Bool×(List Int))=>⟨[(1,.ptr 0 0),(2,.ptr 3 0),(36,.li i3)],bif y3.2.2.2.2.1 then [.box 133 [.own 1 y3.2.2.1.length,.li y3.1,.own 4 y3.2.2.2.1.length,.li y3.2.1],.row 185 2 false false (Ij y3.2.2.1),.row 3 1 false false (tI y3.2.2.2.2.2),.box 88 (j.a false),.row 3 1 false false (tI y3.2.2.2.1)] else [.box 133 [.own 1 y3.2.2.1.length,.li y3.1,.own 2 y3.2.2.2.1.length,.li y3.2.1],.row 185 2 false false (Ij y3.2.2.1),.row 3 1 false false (tI y3.2.2.2.1),.box 88 (j.a false)]⟩) (fun i3 y3=>y3.2.2.1.length=j.phs.length/\y3.2.1=c.wt/\Sq j y3.2.2.2.1) (c.grp,c.wt,c.lights,c.nxt,false,[]) (wk Dy [0,1,2,3]) (⟨hl,rfl,hn⟩) fun i3 y3 hi3 hy3=>?_
 cases hb3:y3.2.2.2.2.1
 ·
  simp only[hb3,cond_false]
  refine Bq<|.seq ?_
  refine Br ?_ ?_<;>intro h37
  ·refine Bp<|.seq<|.block<|.R ?_
   first | (have hnl1:=hy2.2.2.len;have hll1:=hy2.1) | (have hnl1:=hy3.2.2.len;have hll1:=hy3.1)
   obtain⟨e3,H3⟩:=gx y3.2.2.2.1 i3
   obtain⟨Y4,cY4,qY4⟩:=Em (O2 j ⟨y3.2.2.1,y3.1,y3.2.2.2.1,y3.2.1⟩ i3 (by assumption) (by assumption))
   refine Dd H3 cY4 ?_
   refine Br ?_ ?_<;>intro h54
   ·have hp:0<=e3/\e3<j.phs.length:=by (have hq:=Sq.ok (by exact hy3.2.2) _ (Ac H3);rcases hq with hq | hq;exact absurd hq h54.2;exact hq)
    obtain⟨⟨N,b,o⟩,hN,hqN⟩:=Iy j ⟨y3.2.2.1,y3.1,y3.2.2.2.1,y3.2.1⟩ e3 hj (by exact hy3.1) (by exact hy3.2.2) hp.1 hp.2
    by_cases hc14:b=true
    ·subst hc14
     simp only[cond_true] at hN hqN
     refine Dg (fun K kk=>by simp[go_sem,H3];(repeat refine aK ?_);refine .o [0,1,2] (hN) ?_;simp[go_sem,H3];exact kk) ?_
     refine B0 H3 ?_
     refine⟨by omega,(N.grp,N.wt,N.lights,N.nxt,true,o),?_,wk (Fa (Dw ((i3:Int)+1)) H3) [0,1,2,3,4]⟩
     first | exact hy3 | exact⟨by dsimp only;rw[hqN.1];exact hy3.1,hqN.2.1.trans hy3.2.1,hqN.2.2⟩
    have hc14:b=false:=by simpa using hc14
    subst hc14
    simp only[cond_false] at hN hqN
    refine Dg (fun K kk=>by simp[go_sem,H3];(repeat refine aK ?_);refine .o [0,1,2] (hN) ?_;simp[go_sem,H3];exact kk) ?_
    refine B0 H3 ?_
    refine⟨by omega,(N.grp,N.wt,N.lights,N.nxt,false,[]),?_,wk (Fa (Dw ((i3:Int)+1)) H3) [0,1,2,3]⟩
    first | exact hy3 | exact⟨by dsimp only;rw[hqN.1];exact hy3.1,hqN.2.1.trans hy3.2.1,hqN.2.2⟩
   refine Bp<|.H1 H3 ?_
   refine⟨by omega,(y3.1,y3.2.1,y3.2.2.1,y3.2.2.2.1,false,[]),?_,wk (Fa (Dw ((i3:Int)+1)) H3) [0,1,2,3]⟩
   exact hy3
  refine Bt ?_
  refine⟨(⟨y3.2.2.1,y3.1,y3.2.2.2.1,y3.2.1⟩,false,[]),Aj2 [0,1,2] (by simp[go_sem]) (by decide) (Fv rfl) (by simp[go_sem]) ?_,⟨hy3.1.trans hl.symm,hy3.2⟩⟩
  repeat' (first | exact .nil | refine .cons (by simp[go_sem]) ?_)
 -- the row is a new one
 simp only[hb3,cond_true]
 refine Bq<|.seq ?_
 refine Br ?_ ?_<;>intro h37
 ·refine Bp<|.seq<|.block<|.R ?_
  first | (have hnl1:=hy2.2.2.len;have hll1:=hy2.1) | (have hnl1:=hy3.2.2.len;have hll1:=hy3.1)
  obtain⟨e4,H4⟩:=gx y3.2.2.2.1 i3
  obtain⟨Y5,cY5,qY5⟩:=Em (O2 j ⟨y3.2.2.1,y3.1,y3.2.2.2.1,y3.2.1⟩ i3 (by assumption) (by assumption))
  refine Dd H4 cY5 ?_
  refine Br ?_ ?_<;>intro h54
  ·have hp:0<=e4/\e4<j.phs.length:=by (have hq:=Sq.ok (by exact hy3.2.2) _ (Ac H4);rcases hq with hq | hq;exact absurd hq h54.2;exact hq)
   obtain⟨⟨N,b,o⟩,hN,hqN⟩:=Iy j ⟨y3.2.2.1,y3.1,y3.2.2.2.1,y3.2.1⟩ e4 hj (by exact hy3.1) (by exact hy3.2.2) hp.1 hp.2
   by_cases hc14:b=true
   ·subst hc14
    simp only[cond_true] at hN hqN
    refine Dg (fun K kk=>by simp[go_sem,H4];(repeat refine aK ?_);refine .o [0,1,4] (hN) ?_;simp[go_sem,H4];exact kk) ?_
    refine B0 H4 ?_
    refine⟨by omega,(N.grp,N.wt,N.lights,N.nxt,true,y3.2.2.2.2.2),?_,wk (Fa (Dw ((i3:Int)+1)) H4) [0,1,2,3,5]⟩
    first | exact hy3 | exact⟨by dsimp only;rw[hqN.1];exact hy3.1,hqN.2.1.trans hy3.2.1,hqN.2.2⟩
   have hc14:b=false:=by simpa using hc14
   subst hc14
   simp only[cond_false] at hN hqN
   refine Dg (fun K kk=>by simp[go_sem,H4];(repeat refine aK ?_);refine .o [0,1,4] (hN) ?_;simp[go_sem,H4];exact kk) ?_
   refine B0 H4 ?_
   refine⟨by omega,(N.grp,N.wt,N.lights,N.nxt,true,y3.2.2.2.2.2),?_,wk (Fa (Dw ((i3:Int)+1)) H4) [0,1,2,3,4]⟩
   first | exact hy3 | exact⟨by dsimp only;rw[hqN.1];exact hy3.1,hqN.2.1.trans hy3.2.1,hqN.2.2⟩
  refine Bp<|.H1 H4 ?_
  refine⟨by omega,(y3.1,y3.2.1,y3.2.2.1,y3.2.2.2.1,true,y3.2.2.2.2.2),?_,wk (Fa (Dw ((i3:Int)+1)) H4) [0,1,2,3,4]⟩
  exact hy3
 refine Bt ?_
 refine⟨(⟨y3.2.2.1,y3.1,y3.2.2.2.1,y3.2.1⟩,true,y3.2.2.2.2.2),Aj2 [0,1,2,4] (by simp[go_sem]) (by decide) (Fv rfl) (by simp[go_sem]) ?_,⟨hy3.1.trans hl.symm,hy3.2⟩⟩
 repeat' (first | exact .nil | refine .cons (by simp[go_sem]) ?_)
theorem Za (j:Ga) (r g:Int):∀(i:Nat) (x:Int),x∈J5 j r g i->0<=x/\x<i
 | 0,x,h=>by simp[J5] at h
 | i+1,x,h=>by
  unfold J5 at h
  split at h
  ·rcases A0.1 h with h | h
   ·have:=Za j r g i x h;omega
   simp at h;omega
  have:=Za j r g i x h;omega
theorem Auh {j:Ga} {r g x:Int} (h:x∈Amt j r g):0<=x/\x<j.phs.length:=Za j r g _ x h
section
variable (c:List Int) (s:Int) (hl:c.length<=1000000)
include s hl
theorem Vm:∃res,PP 220 [] [.mI c,.li s] [] res/\IsD (fun d:Int×Int=>.tup [.li d.1,.li d.2]) (fun _=>True) res:=by
 obtain⟨res,h,a,b,rfl⟩:=Aem c s hl
 exact⟨_,h,(a,b),rfl,trivial⟩
def Wj:Int×Int:=(Em (Vm c s hl)).choose
theorem Aey:PP 220 [] [.mI c,.li s] [] (.tup [.lit (.int .i64 (Wj c s hl).1),.lit (.int .i64 (Wj c s hl).2)]):=(Em (Vm c s hl)).choose_spec.1
end
theorem Alb (j:Ga) (hj:Nv j):Ct 83 [j.g] (fun d:No=>d.g) (fun d=>d.lights.length=j.phs.length/\Sq j d.nxt):=by
 refine Er Tryz.func83 ?_
 have hjl:=hj.len
 refine Bq ?_
 refine C9 Dy ?_
 obtain⟨E,hE,hqE⟩:=Qq j ⟨List.replicate j.phs.length ⟨0,0⟩,0,[],j.start⟩ 0 hj
 refine Ck 3 2 3 1 (by decide) rfl rfl ?_
 simp[go_sem,-Prod.exists]
 refine Cv 2 rfl ?_
 simp[go_sem,-Prod.exists]
 refine Cv 4 rfl ?_
 simp[go_sem,-Prod.exists]
 refine Da Dy [3,2,4] hE ?_
 refine Bq ?_
 refine B2 Dy 2 ?_
 refine B2 Dy 5 ?_
 exact .ret (Ep Dy ⟨E.1.lights,E.1.grp,E.1.nxt,E.1.wt⟩ ⟨by rw[hqE.1];simp,hqE.2.2.2⟩)
section
variable (j:Ga) (c:No) (hj:Nv j) (h1:c.lights.length<=1000000) (h2:c.nxt.length<=1000000)
include hj h1 h2
theorem Tw:Ct 201 [j.g,c.g] (fun d:Bool=>.lb d) (fun d=>d=true->c.lights.length=j.phs.length/\Sq j c.nxt):=by
 refine Er Tryz.func201 ?_
 have hjl:=hj.len
 have hjc:=hj.con
 have hpl:∀r g,(Amt j r g).length<=1000000:=fun r g=>Ak (Zb j r g _) hj.len
 refine Bq<|.seq ?_
 refine Bq ?_
 refine Br ?_ ?_<;>intro h23
 ·refine Bq ?_
  exact .ret (Ep Dy false (by exact fun h=>Bool.noConfusion h))
 obtain⟨hA,hB⟩:c.lights.length=j.phs.length/\c.nxt.length=2:=by omega
 refine Bp<|.seq<|.R<|.block ?_
 refine Bs j.phs.length (fun i1 (y1:Unit)=>⟨[(2,.ptr 0 0),(3,.ptr 1 0),(25,.mPhase j.phs),(26,.li j.phs.length),(27,.li i1)],[.box 88 (j.a false),.box 133 (c.a false)]⟩) (fun i1 y1=>True) () (wk Dy [0,1]) (trivial) fun i1 y1 hi1 hy1=>?_
 refine Bq<|.seq ?_
 refine Br ?_ ?_<;>intro h28
 ·refine Bp<|.seq<|.block ?_
  obtain⟨e1,H1⟩:=gx j.phs i1
  refine Bu H1 ?_
  obtain⟨e2,H2⟩:=gx c.lights i1
  obtain⟨Y1,cY1,qY1⟩:=Em (Ai7 e1 e2)
  refine Dd (Fa H1 H2) cY1 ?_
  refine Br ?_ ?_<;>intro h39
  ·refine Bu (Fa H1 H2) ?_
   exact .ret (Ep (Fa H1 H2) false (by exact fun h=>Bool.noConfusion h))
  refine Bp<|.H1 (Fa H1 H2) ?_
  exact⟨by omega,(),trivial,wk (Jb (Dw ((i1:Int)+1)) H1 H2) [0,1]⟩
 refine Bt<|.seq ?_
 obtain⟨Y2,cY2,qY2⟩:=Em (An6 c h1)
 refine Cw (fun K kk=>by simp[go_sem];refine .l cY2 ?_;simp[go_sem];refine .l (Aey j.con Y2 hjc) ?_;simp[go_sem];exact kk) ?_
 refine Bq ?_
 refine Br ?_ ?_<;>intro h50
 ·refine Bq ?_
  exact .ret (Ep Dy false (by exact fun h=>Bool.noConfusion h))
 refine Bp<|.seq ?_
 refine Dc (by kernel_rfl) (by rfl) (by kernel_rfl) fun K1 hK1=>?_
 simp[go_sem]
 refine Oq (by simp[go_sem]) (by simp[go_sem]) ?_
 simp[go_sem]
 obtain⟨Y3,cY3,qY3⟩:=Em (Vp j hj)
 refine .lo cY3 rfl (by simp[AV.cln,Fb]) ?_
 simp[go_sem]
 refine hK1 _ _ (by kernel_rfl) ?_;clear hK1
 refine Br ?_ ?_<;>intro h60
 ·refine Bq ?_
  exact .ret (Ep Dy false (by exact fun h=>Bool.noConfusion h))
 refine Bp<|.seq<|.R<|.block ?_
 refine Bs c.nxt.length (fun i2 (y2:Unit)=>⟨[(2,.ptr 0 0),(3,.ptr 1 0),(62,.mI c.nxt),(63,.li c.nxt.length),(64,.li i2)],[.box 88 (j.a false),.box 133 (c.a false)]⟩) (fun i2 y2=>∀k x,k<i2->c.nxt[k]? = some x->(x = -1\/(0<=x/\x<j.phs.length))) () (wk Dy [0,1]) (fun k x h=>by omega) fun i2 y2 hi2 hy2=>?_
 refine Bq<|.seq ?_
 refine Br ?_ ?_<;>intro h65
 ·refine Bp<|.seq<|.block ?_
  obtain⟨e3,H3⟩:=gx c.nxt i2
  refine Bu H3 ?_
  refine B4 (by rfl) fun K1 hK1=>?_
  simp[go_sem,H3]
  refine P3 ?_
  simp[go_sem,H3]
  refine .lo (Aq4 j i2 c.grp (by assumption)) rfl (by simp[AV.cln,Fb]) ?_
  simp[go_sem,H3]
  refine P3 ?_
  simp[go_sem,H3]
  obtain⟨Y4,cY4,qY4⟩:=Em (Ac3 (Amt j i2 c.grp) e3 (hpl _ _))
  refine .lo cY4 rfl (by simp[AV.cln,Fb]) ?_
  simp[go_sem,H3]
  refine hK1 _ ?_;clear hK1
  refine Br ?_ ?_<;>intro h80
  ·refine Bu H3 ?_
   exact .ret (Ep H3 false (by exact fun h=>Bool.noConfusion h))
  refine Bp<|.H1 H3 ?_
  exact⟨by omega,(),(Atd hy2 H3 (by by_cases he:e3 = -1;exact .inl he;exact .inr (Auh (qY4 (by simpa[he] using h80))))),wk (Fa (Dw ((i2:Int)+1)) H3) [0,1]⟩
 refine Bt<|.seq<|.R ?_
 refine Br ?_ ?_<;>intro h91
 ·refine Bq ?_
  exact .ret (Ep Dy false (by exact fun h=>Bool.noConfusion h))
 refine Bp ?_
 refine B4 (by rfl) fun K1 hK1=>?_
 simp[go_sem]
 refine P3 ?_
 simp[go_sem]
 obtain⟨Y5,cY5,qY5⟩:=Em (Xu c h1)
 refine .lo cY5 rfl (by simp[AV.cln,Fb]) ?_
 simp[go_sem]
 refine hK1 _ ?_;clear hK1
 refine Bz (Fk ?_);simp[go_sem]
 exact⟨_,by rfl,(by first | exact fun h=>Bool.noConfusion h | (refine fun _=>⟨hA,hB,fun x hx=>?_⟩;obtain⟨k,hk⟩:=A3.1 hx;have hk2:=(Ab.1 hk).1;exact hy2 k x (by omega) hk))⟩
def Z5:Bool:=(Em (Tw j c hj h1 h2)).choose
theorem Zl:PP 201 [] [j.g,c.g] [] (.lb (Z5 j c hj h1 h2)):=(Em (Tw j c hj h1 h2)).choose_spec.1
theorem Aj7:(Z5 j c hj h1 h2)=true->c.lights.length=j.phs.length/\Sq j c.nxt:=(Em (Tw j c hj h1 h2)).choose_spec.2
end
theorem Avr {n:Nat} {f:Nat->Bool} (h:Nx n f=true):∀i,i<n->f i=true:=by
 intro i hi
 exact Am.1 h i (List.mem_range.2 hi)
theorem Axc {j:Ga} (h:Q8 j=true):Nv j:=by
 simp only[Q8,Ah,decide_eq_true_eq] at h
 obtain⟨⟨⟨⟨⟨⟨⟨h1,h2⟩,h3⟩,h4⟩,h5⟩,h6⟩,h7⟩,h8⟩:=h
 have hp:∀p∈j.phs,I9 p=true:=fun p hp=>by
  obtain⟨i,hi⟩:=A3.1 hp
  have:=Avr h6 i (Ab.1 hi).1
  simpa[Ns,hi] using this
 exact⟨by omega,h1,by omega,fun p hq=>by have:=R0 (hp p hq);omega,fun p hq=>by have:=R0 (hp p hq);omega⟩
theorem Ala (j:Ga) (c:No) (t:Int) (h1:j.phs.length<=1000000) (h2:j.con.length<=1000000) (h3:c.lights.length<=1000000) (h4:c.nxt.length<=1000000):Ct 175 [j.g,c.g,.li t] (fun d:No=>d.g) (fun d=>d=⟨[],0,[],0⟩\/(d.lights.length=j.phs.length/\Sq j d.nxt/\Nv j)):=by
 refine Er Tryz.func175 ?_
 refine Bq<|.seq ?_
 by_cases hc1:Q8 j=true
 ·have hj:=Axc hc1
  have hjl:=hj.len
  have hqv:=Aj7 j c hj h3 h4
  refine B4 (by rfl) fun K1 hK1=>?_
  simp[go_sem,hc1]
  refine .l (Pr j (by assumption) (by assumption)) ?_
  simp[go_sem,hc1]
  refine P3 ?_
  simp[go_sem,hc1]
  refine .lo (Zl j c hj h3 h4) rfl (by simp[AV.cln,Fb]) ?_
  simp[go_sem,hc1]
  refine hK1 _ ?_;clear hK1
  refine Br ?_ ?_<;>intro h20
  ·refine Bu hc1 ?_
   exact .ret (Ep hc1 ⟨[],0,[],0⟩ (.inl rfl))
  obtain⟨hA,hB⟩:=hqv (by simpa using h20)
  have hBl:=hB.len
  refine Bp<|.E (fun K kk=>by simp[go_sem,hc1];refine .lo (Sk _ (by (simp;omega)) (by (simp[T.plain,Fy.t];done))) rfl (by simp[AV.cln,Fb]) ?_;simp[go_sem,hc1];refine .lo (Hh _ (by (simp;omega)) (by (simp[T.plain];done))) rfl (by simp[AV.cln,Fb]) ?_;simp[go_sem,hc1];exact kk)<|.seq ?_
  refine Bu hc1 ?_
  refine Br ?_ ?_<;>intro h35
  ·refine Bu hc1 ?_
   refine Bu hc1 ?_
   refine B2 Dy 3 ?_
   refine B2 Dy 4 ?_
   exact .ret (Ep hc1 ⟨c.lights,c.grp,c.nxt,IntKind.i64.wrap (c.wt - 1)⟩ (.inr ⟨hA,hB,hj⟩))
  refine Bp<|.H hc1<|.seq ?_
  refine Bu hc1<|.block ?_
  refine Bs j.phs.length (fun i1 (y1:(List Fy)×(List Int))=>⟨[(2,.li t),(3,.ptr 0 0),(4,.ptr 1 0),(6,.ptr 2 0),(7,.ptr 5 0),(8,.lb (decide ((0:Int)<=t)&&decide (t<(j.phs.length:Int)))),(51,.mPhase j.phs),(52,.li j.phs.length),(53,.li i1)],[.box 88 (j.a false),.box 133 (c.a false),.box 133 [.nil 2,.li 0,.nil 1,.li 0],.row 185 2 false false (Ij y1.1),.row 3 1 false false (tI y1.2),.box 133 [.own 3 y1.1.length,.li c.grp,.own 4 y1.2.length,.li c.wt]]⟩) (fun i1 y1=>y1.1.length=j.phs.length/\y1.2=c.nxt) (c.lights,c.nxt) (wk hc1 [0,1,2,3,4,5]) (⟨hA,rfl⟩) fun i1 y1 hi1 hy1=>?_
  refine Bu hc1<|.seq ?_
  refine Br ?_ ?_<;>intro h54
  ·refine Bp<|.seq<|.block ?_
   obtain⟨e1,H1⟩:=gx j.phs i1
   refine Bu (Fa hc1 H1) ?_
   obtain⟨e2,H2⟩:=gx c.lights i1
   refine C9 (Jb hc1 H1 H2)<|.seq ?_
   refine Bu (Jb hc1 H1 H2) ?_
   refine Br ?_ ?_<;>intro h68
   ·refine C4 (by rfl) fun K1 hK1=>?_
    simp +contextual[go_sem,hc1,H1,H2]
    refine P3 ?_
    simp +contextual[go_sem,hc1,H1,H2]
    refine .lo (Ia j.con i1 t (by assumption)) rfl (by simp[AV.cln,Fb]) ?_
    simp +contextual[go_sem,hc1,H1,H2]
    refine hK1 _ ?_;clear hK1
    obtain⟨e3,H3⟩:=gx y1.1 i1
    refine Dg (fun K kk=>by simp[go_sem,hc1,H1,H2,H3];(repeat refine aK ?_);refine .lo (Alr e1 e2 _) rfl (by simp[AV.cln,Fb]) ?_;simp[go_sem,hc1,H1,H2,H3];(repeat first | exact kk | refine aK ?_)) ?_
    refine Ds 3 rfl (by simp) Fy.t j.phs.length ?_ fun R hR=>?_
    ·apply Ks
     ·repeat' first | exact Mi | exact Mh | exact Mg (x:=(⟨0,0⟩:Fy)) rfl | apply Ko | apply Kr | apply Kq | apply Qi | apply (fun h=>Qh (x:=(⟨_,_⟩:Fy)) h rfl)
     first | rfl | omega
    simp[go_sem,-Prod.exists]
    refine B0 (Zd hc1 H1 H2 H3 hR) ?_
    refine⟨by omega,(R,y1.2),?_,wQ [0,1,2,3,4,5] ?_ ?_⟩
    ·exact⟨hR,hy1.2⟩
    all_goals simp[go_sem,Dw ((i1:Int)+1),hc1,H1,H2,H3,hR,hy1.1]
   refine Bp ?_
   obtain⟨e4,H4⟩:=gx y1.1 i1
   obtain⟨Y1,cY1,qY1⟩:=Em (Vr e1 e2 (decide ((e1.ma:Int)<=(IntKind.i64.wrap (e2.n+1)))))
   refine Cp (P6 hc1 H1 H2 H4) cY1 ?_
   refine Ds 3 rfl (by simp) Fy.t j.phs.length ?_ fun R hR=>?_
   ·apply Ks
    ·repeat' first | exact Mi | exact Mh | exact Mg (x:=(⟨0,0⟩:Fy)) rfl | apply Ko | apply Kr | apply Kq | apply Qi | apply (fun h=>Qh (x:=(⟨_,_⟩:Fy)) h rfl)
    first | rfl | omega
   simp[go_sem,-Prod.exists]
   refine B0 (Zd hc1 H1 H2 H4 hR) ?_
   refine⟨by omega,(R,y1.2),?_,wQ [0,1,2,3,4,5] ?_ ?_⟩
   ·exact⟨hR,hy1.2⟩
   all_goals simp[go_sem,Dw ((i1:Int)+1),hc1,H1,H2,H4,hR,hy1.1]
  refine Bt<|.seq<|.H hc1 ?_
  refine Br ?_ ?_<;>intro h95
  ·obtain⟨⟨N,b,o⟩,hN,hqN⟩:=Aek j ⟨y1.1,c.grp,y1.2,c.wt⟩ t hj hy1.1 (hy1.2.symm▸hB) (by omega) (by omega)
   by_cases hc17:b=true
   ·subst hc17
    simp only[cond_true] at hN hqN
    refine Cv 3 rfl ?_
    simp[go_sem,-Prod.exists,hc1]
    refine Cv 4 rfl ?_
    simp[go_sem,-Prod.exists,hc1]
    refine C6 hc1 [5,3,4] hN ?_
    refine Bu hc1 ?_
    refine B2 Dy 3 ?_
    refine B2 Dy 6 ?_
    exact .ret (Ep hc1 ⟨N.lights,N.grp,N.nxt,N.wt⟩ (.inr ⟨hqN.1.trans hy1.1,hqN.2.2,hj⟩))
   have hc17:b=false:=by simpa using hc17
   subst hc17
   simp only[cond_false] at hN hqN
   refine Cv 3 rfl ?_
   simp[go_sem,-Prod.exists,hc1]
   refine Cv 4 rfl ?_
   simp[go_sem,-Prod.exists,hc1]
   refine C6 hc1 [5,3,4] hN ?_
   refine Bu hc1 ?_
   refine B2 Dy 3 ?_
   refine B2 Dy 4 ?_
   exact .ret (Ep hc1 ⟨N.lights,N.grp,N.nxt,N.wt⟩ (.inr ⟨hqN.1.trans hy1.1,hqN.2.2,hj⟩))
  obtain⟨⟨N,b,o⟩,hN,hqN⟩:=Ael j ⟨y1.1,c.grp,y1.2,c.wt⟩ hj hy1.1 (hy1.2.symm▸hB)
  by_cases hc18:b=true
  ·subst hc18
   simp only[cond_true] at hN hqN
   refine Cv 3 rfl ?_
   simp[go_sem,-Prod.exists,hc1]
   refine Cv 4 rfl ?_
   simp[go_sem,-Prod.exists,hc1]
   refine C6 hc1 [5,3,4] hN ?_
   refine Bu hc1 ?_
   refine B2 Dy 3 ?_
   refine B2 Dy 6 ?_
   exact .ret (Ep hc1 ⟨N.lights,N.grp,N.nxt,N.wt⟩ (.inr ⟨hqN.1.trans hy1.1,hqN.2.2,hj⟩))
  have hc18:b=false:=by simpa using hc18
  subst hc18
  simp only[cond_false] at hN hqN
  refine Cv 3 rfl ?_
  simp[go_sem,-Prod.exists,hc1]
  refine Cv 4 rfl ?_
  simp[go_sem,-Prod.exists,hc1]
  refine C6 hc1 [5,3,4] hN ?_
  refine Bu hc1 ?_
  refine B2 Dy 3 ?_
  refine B2 Dy 4 ?_
  exact .ret (Ep hc1 ⟨N.lights,N.grp,N.nxt,N.wt⟩ (.inr ⟨hqN.1.trans hy1.1,hqN.2.2,hj⟩))
 have hcf:Q8 j=false:=by simpa using hc1
 refine B4 (by rfl) fun K1 hK1=>?_
 simp[go_sem,hc1,hcf]
 refine .l (Pr j (by assumption) (by assumption)) ?_
 simp[go_sem,hc1,hcf]
 refine P3 ?_
 simp[go_sem,hc1,hcf]
 first | refine .lo (Zl j c hj h3 h4) rfl (by simp[AV.cln,Fb]) ?_ | refine .skip ?_
 simp[go_sem,hc1,hcf]
 refine hK1 _ ?_;clear hK1
 refine Cl ?_ ?_<;>intro h20<;>simp[go_sem] at h20
 refine Bu (Fa hc1 hcf) ?_
 exact .ret (Ep (Fa hc1 hcf) ⟨[],0,[],0⟩ (.inl rfl))
theorem Azt:tok Tryz.prog 306=true/\S9 Tryz.prog 306=false/\Ge Tryz.prog 306=1/\zok Tryz.prog 306=true/\Hd Tryz.prog 306=[.lit .nilFunc]:=⟨by kernel_rfl,by kernel_rfl,by kernel_rfl,by kernel_rfl,by kernel_rfl⟩
attribute [go_sem] Azt
theorem Az5:tok Tryz.prog 169=true/\S9 Tryz.prog 169=false/\Ge Tryz.prog 169=1/\zok Tryz.prog 169=true/\Hd Tryz.prog 169=[.lit .nilFunc]:=⟨by kernel_rfl,by kernel_rfl,by kernel_rfl,by kernel_rfl,by kernel_rfl⟩
attribute [go_sem] Az5
theorem Aqc (ts:List T) (off:Nat):Aaq [.iptr false ts off]:=by
 constructor<;>intros<;>first | rfl | exact⟨trivial,trivial⟩
theorem Vs (j:Ga) (hj:Nv j):Ct 56 [j.g] (fun d:Hz=>d.g) (fun d=>d.lat=false/\d.ctl.lights.length=j.phs.length/\d.ctl.nxt.length=2):=by
 refine Er Tryz.func56 ?_
 obtain⟨Y1,cY1,qY1⟩:=Em (Alb j hj)
 have hq:=qY1
 refine Bq ?_
 refine B8 Dy cY1 ?_
 exact .ret (Ep Dy ⟨Y1,false⟩ ⟨rfl,hq.1,hq.2.len⟩)
theorem Aa1 (j:Ga) (s:Hz) (hj:Nv j) (hj8:j.phs.length<=8) (h1:s.ctl.lights.length<=8) (h2:s.ctl.nxt.length<=2):Ct 96 [j.g,s.g] (fun d:Hz×Bool=>.tup [d.1.g,.lb d.2]) (fun d=>d.1.ctl.lights.length<=8/\d.1.ctl.nxt.length<=2):=by
 refine Er Tryz.func96 ?_
 have h1M:s.ctl.lights.length<=1000000:=by omega
 have h2M:s.ctl.nxt.length<=1000000:=by omega
 obtain⟨Y1,cY1,qY1⟩:=Em (Vs j hj)
 have hq:=qY1
 refine Bq<|.seq ?_
 refine Bq ?_
 refine Br ?_ ?_<;>intro h7
 ·refine B8 Dy cY1 ?_
  exact .ret (Ep Dy (Y1,true) ⟨by rw[hq.2.1];exact hj8,by rw[hq.2.2];decide⟩)
 refine Bp<|.L Dy (S7 s h1M h2M) ?_
 exact .ret (Ep Dy (s,false) ⟨h1,h2⟩)
section
variable (j:Ga) (s:Hz) (t:Int) (k:Int) (hj8:j.phs.length<=8) (hcM:j.con.length<=1000000) (h1:s.ctl.lights.length<=8) (h2:s.ctl.nxt.length<=2)
include t k hj8 hcM h1 h2
theorem Ph:Ct 153 [j.g,s.g,.li t,.li k] (fun d:Hz=>d.g) (fun d=>d.ctl.lights.length<=8/\d.ctl.nxt.length<=2):=by
 refine Er Tryz.func153 ?_
 have h1M:s.ctl.lights.length<=1000000:=by omega
 have h2M:s.ctl.nxt.length<=1000000:=by omega
 have hjM:j.phs.length<=1000000:=by omega
 refine Bq<|.seq ?_
 refine Bq ?_
 refine Br ?_ ?_<;>intro h12
 ·refine B8 Dy (S7 s h1M h2M) ?_
  exact .ret (Ep Dy s ⟨h1,h2⟩)
 obtain⟨Y1,cY1,qY1⟩:=Em (Ala j s.ctl t hjM hcM h1M h2M)
 have hd:=qY1
 have hv:=cY1
 generalize Y1=D at hd hv
 have hd2:D.lights.length<=8/\D.nxt.length<=2:=by rcases hd with rfl | ⟨q1,q2,q3⟩;exact⟨by simp,by simp⟩;exact⟨by omega,by rw[q2.len];decide⟩
 have hdM:D.lights.length<=1000000:=by omega
 have hsM:(Ng D.lights k hdM).length<=1000000:=by rw[Afm];exact hdM
 refine Bp<|.L Dy (hv) ?_
 refine B8 Dy (Aew D.lights k hdM) ?_
 obtain⟨Y2,cY2,qY2⟩:=Em (Xm j.con (Ng D.lights k hdM) hsM hcM)
 refine Dd Dy cY2 ?_
 exact .ret (Ep Dy ⟨D,Y2⟩ hd2)
def L2:Hz:=(Em (Ph j s t k hj8 hcM h1 h2)).choose
theorem Adi:PP 153 [] [j.g,s.g,.li t,.li k] [] (.agg ((L2 j s t k hj8 hcM h1 h2).a false)):=(Em (Ph j s t k hj8 hcM h1 h2)).choose_spec.1
theorem Adv:(L2 j s t k hj8 hcM h1 h2).ctl.lights.length<=8/\(L2 j s t k hj8 hcM h1 h2).ctl.nxt.length<=2:=(Em (Ph j s t k hj8 hcM h1 h2)).choose_spec.2
end
section
variable (s:F3) (h:s.ended.length<=1000000)
include h
theorem Xn:∃d:F3,PP 90 [] [s.g] [.row 3 1 false false (tI d.ended)] (.agg [.li d.ph,.li d.gr,.own 0 d.ended.length])/\(d=s):=by
 refine Nk (D:=F3) (F:=fun d=>.agg [.li d.ph,.li d.gr,.own 0 d.ended.length]) (S:=fun d=>[.row 3 1 false false (tI d.ended)]) (Q:=fun d=>d=s) Tryz.func90 rfl rfl rfl (by simp[Tryz.ntmps90]) ?_
 refine Bq ?_
 refine B3 (fun K kk=>by simp[go_sem];refine .lo (Hh _ (by (simp;omega)) (by (simp[T.plain];done))) rfl (by simp[AV.cln,Fb]) ?_;simp[go_sem];exact kk) ?_
 refine Bq ?_
 exact .ret ⟨⟨s.ph,s.gr,s.ended⟩,rW Dy [2],rfl⟩
theorem Yr:PP 90 [] [s.g] [.row 3 1 false false (tI s.ended)] (.agg [.li s.ph,.li s.gr,.own 0 (s.ended).length]):=by
 obtain⟨Y1,cY1,qY1⟩:=Xn s h
 have:=cY1
 rwa[qY1] at this
end
section
variable (s:F3) (now:Int) (h:s.ended.length<=1000000)
include now h
theorem Ot:Ct 151 [s.g,.li now] (fun d:F3=>d.g) (fun d=>d.ended.length=s.ended.length):=by
 refine Er Tryz.func151 ?_
 refine Bq ?_
 refine B8 Dy (Yr s h)<|.seq ?_
 refine Bq ?_
 refine Br ?_ ?_<;>intro h22
 ·obtain⟨e1,H1⟩:=gx s.ended s.ph.toNat
  refine B0 H1 ?_
  refine Bu H1 ?_
  refine Bu H1 ?_
  refine B2 Dy 2 ?_
  exact .ret (Ep H1 ⟨(-1),0,(s.ended).set s.ph.toNat now⟩ (by first | rfl | (simp;done)))
 refine Bp<|.R ?_
 refine Bq ?_
 refine B2 Dy 2 ?_
 exact .ret (Ep Dy ⟨(-1),0,s.ended⟩ (by rfl))
def Ow:F3:=(Em (Ot s now h)).choose
theorem X3:PP 151 [] [s.g,.li now] [] (.agg ((Ow s now h).a false)):=(Em (Ot s now h)).choose_spec.1
theorem X8:(Ow s now h).ended.length=s.ended.length:=(Em (Ot s now h)).choose_spec.2
end
theorem S8 (s:F3) (c:E7):PP 195 [] [c.g,.iptr false [.li s.ph,.li s.gr,.sl 1 (tI s.ended)] 0] [] (.lb (c.ph == s.ph)):=by
 refine Ei Tryz.func195 ?_
 iterate 2 refine Bw ?_
 exact .ret (rL Dy)
theorem Aba (s:F3) (c:E7):PP 196 [] [c.g,.iptr false [.fn 195 [.li s.ph,.li s.gr,.sl 1 (tI s.ended)] 0] 0] [] (.lb (c.ph == s.ph&&Oi c)):=by
 refine Ei Tryz.func196 ?_
 refine Bw ?_
 refine Cc (fun K kk=>by simp[go_sem];refine .l (S8 s c) ?_;simp[go_sem];refine P3 ?_;simp[go_sem];refine .l (Ji c) ?_;simp[go_sem];exact kk) ?_
 exact .ret (rL Dy)
theorem Aen (g:Fc) (s:F3) (l:List E7) (hl:l.length<=1000000):Ct 173 [g.g,s.g,.mClaim l] (fun d:Bool=>.lb d) (fun d=>True):=by
 refine Er Tryz.func173 ?_
 refine Bq ?_
 refine VX.sel1 1 rfl rfl (by simp) ?_
 simp[go_sem,-Prod.exists]
 refine Bq ?_
 refine VX.sel1 2 rfl rfl (by simp) ?_
 simp[go_sem,-Prod.exists]
 refine Bq ?_
 refine B4 (by rfl) fun K1 hK1=>?_
 simp +contextual[go_sem]
 refine .lo (Kn l _ [.iptr false [.li s.ph,.li s.gr,.sl 1 (tI s.ended)] 0] (fun c:E7=>c.ph == s.ph) hl (Aqc _ _) (S8 s)) (by simp[go_sem]) (by simp[AV.cln,Fb]) ?_
 simp +contextual[go_sem]
 refine P3 ?_
 simp +contextual[go_sem]
 refine .lo (Kn l _ [] Oi hl Ta Ji) rfl (by simp[AV.cln,Fb]) ?_
 simp +contextual[go_sem]
 refine P3 ?_
 simp +contextual[go_sem]
 refine .lo (Kn l _ [.iptr false [.fn 195 [.li s.ph,.li s.gr,.sl 1 (tI s.ended)] 0] 0] (fun c:E7=>c.ph == s.ph&&Oi c) hl (Aqc _ _) (Aba s)) rfl (by simp[AV.cln,Fb]) ?_
 simp +contextual[go_sem]
 refine hK1 _ ?_;clear hK1
 refine Bz (Fk ?_);simp[go_sem]
 exact⟨_,by rfl,trivial⟩
section
variable (g:Fc) (s:F3) (l:List E7) (now:Int) (h:s.ended.length<=1000000) (hl:l.length<=1000000)
include g now h hl
theorem Oa:Ct 152 [g.g,s.g,.mClaim l,.li now] (fun d:F3=>d.g) (fun d=>d.ended.length=s.ended.length):=by
 refine Er Tryz.func152 ?_
 refine Bq ?_
 refine B8 Dy (K3 s h)<|.seq ?_
 refine B4 (by rfl) fun K1 hK1=>?_
 simp[go_sem]
 refine P3 ?_
 simp[go_sem]
 obtain⟨Y1,cY1,qY1⟩:=Em (Aen g s l hl)
 refine .lo cY1 rfl (by simp[AV.cln,Fb]) ?_
 simp[go_sem]
 refine hK1 _ ?_;clear hK1
 refine Br ?_ ?_<;>intro h20
 ·obtain⟨Y2,cY2,qY2⟩:=Em (Ot s now h)
  refine Dr Dy cY2<|.seq ?_
  refine Bq ?_
  refine Br ?_ ?_<;>intro h26
  ·obtain⟨B,hvb⟩:∃B:Int,PP 174 [] [g.g,.agg (F3.a false Y2),.li now,.mClaim l] [] (.li B):=⟨_,Acb g Y2 now l hl⟩
   refine B8 Dy (hvb) ?_
   refine Bq ?_
   refine Br ?_ ?_<;>intro h39
   ·obtain⟨e1,H1⟩:=gx l B.toNat
    refine B0 H1 ?_
    refine Bu H1 ?_
    exact .ret (Ep H1 ⟨e1.ph,0,Y2.ended⟩ (by first | rfl | exact qY2))
   refine Bp<|.R ?_
   exact .ret (Ep Dy Y2 (by first | rfl | exact qY2))
  refine Bp<|.R ?_
  exact .ret (Ep Dy Y2 (by first | rfl | exact qY2))
 refine Bp<|.seq<|.R ?_
 refine Br ?_ ?_<;>intro h26
 ·obtain⟨B,hvb⟩:∃B:Int,PP 174 [] [g.g,.agg (F3.a false s),.li now,.mClaim l] [] (.li B):=⟨_,Acb g s now l hl⟩
  refine B8 Dy (hvb) ?_
  refine Bq ?_
  refine Br ?_ ?_<;>intro h39
  ·obtain⟨e2,H2⟩:=gx l B.toNat
   refine B0 H2 ?_
   refine Bu H2 ?_
   exact .ret (Ep H2 ⟨e2.ph,0,s.ended⟩ (by rfl))
  refine Bp<|.R ?_
  exact .ret (Ep Dy s (by rfl))
 refine Bp<|.R ?_
 exact .ret (Ep Dy s (by rfl))
def Oj:F3:=(Em (Oa g s l now h hl)).choose
theorem Abb:PP 152 [] [g.g,s.g,.mClaim l,.li now] [] (.agg ((Oj g s l now h hl).a false)):=(Em (Oa g s l now h hl)).choose_spec.1
theorem Abk:(Oj g s l now h hl).ended.length=s.ended.length:=(Em (Oa g s l now h hl)).choose_spec.2
end
section
variable (g:Fc) (j:Ga) (s:Hz) (v:F3) (l:List E7) (k:Int) (now:Int) (hj8:j.phs.length<=8) (hcM:j.con.length<=1000000) (h1:s.ctl.lights.length<=8) (h2:s.ctl.nxt.length<=2) (h3:v.ended.length<=1000000) (hl:l.length<=1000000)
include g k now hj8 hcM h1 h2 h3 hl
theorem T0:Ct 127 [g.g,j.g,s.g,v.g,.mClaim l,.li k,.li now] (fun d:Hz×F3=>.tup [d.1.g,d.2.g]) (fun d=>d.1.ctl.lights.length<=8/\d.1.ctl.nxt.length<=2/\d.2.ended.length=v.ended.length):=by
 refine Er Tryz.func127 ?_
 have h1M:s.ctl.lights.length<=1000000:=by omega
 have h2M:s.ctl.nxt.length<=1000000:=by omega
 have hqv:=Abk g v l now h3 hl
 have hvv:=Abb g v l now h3 hl
 generalize Oj g v l now h3 hl=D at hqv hvv
 have hDM:D.ended.length<=1000000:=by omega
 refine Bq<|.seq ?_
 refine Bq ?_
 refine Br ?_ ?_<;>intro h19
 ·refine Cw (fun K kk=>by simp[go_sem];refine .l (Ps s h1M h2M) ?_;simp[go_sem];refine .l (X3 v now h3) ?_;simp[go_sem];exact kk) ?_
  refine Bz (Fk ?_);simp[go_sem]
  exact⟨(s,(Ow v now h3)),by rfl,⟨h1,h2,X8 v now h3⟩⟩
 refine Bp<|.S (fun K kk=>by simp[go_sem];refine .l (hvv) ?_;simp[go_sem];exact kk) ?_
 have hqs:=Adv j s D.ph k hj8 hcM h1 h2
 have hvs:=Adi j s D.ph k hj8 hcM h1 h2
 generalize L2 j s D.ph k hj8 hcM h1 h2=G at hqs hvs
 refine B3 (fun K kk=>by simp[go_sem];refine .l (hvs) ?_;simp[go_sem];exact kk)<|.seq ?_
 refine Bq ?_
 refine Br ?_ ?_<;>intro h37
 ·refine Cw (fun K kk=>by simp[go_sem];refine .l (X3 D now hDM) ?_;simp[go_sem];exact kk) ?_
  refine Bz (Fk ?_);simp[go_sem]
  exact⟨(G,(Ow D now hDM)),by rfl,⟨hqs.1,hqs.2,(X8 D now hDM).trans hqv⟩⟩
 refine Bp<|.R ?_
 by_cases hc8:0<=D.ph/\D.ph<G.ctl.lights.length
 ·have hg1:(0:Int)<=D.ph:=hc8.1
  have hg2:D.ph<(G.ctl.lights.length:Int):=hc8.2
  obtain⟨e1,H1⟩:=gx G.ctl.lights D.ph.toNat
  refine B3 (fun K kk=>by simp[go_sem,hg1,hg2,H1];repeat first | exact kk | refine aK ?_) ?_
  refine Cw (fun K kk=>by simp[go_sem,hg1,hg2,H1];refine .lo (Va D _ hDM) rfl (by simp[AV.cln,Fb]) ?_;simp[go_sem,hg1,hg2,H1];exact kk) ?_
  refine Bz (Fk ?_);simp[go_sem,hg1,hg2,H1]
  exact⟨(G,(L3 D _ hDM)),by rfl,⟨hqs.1,hqs.2,by rw[Ve];exact hqv⟩⟩
 have hgf:(decide ((0:Int)<=D.ph)&&decide (D.ph<(G.ctl.lights.length:Int)))=false:=by simpa using hc8
 refine B3 (fun K kk=>by simp[go_sem,hgf];repeat first | exact kk | refine aK ?_) ?_
 refine Cw (fun K kk=>by simp[go_sem,hgf];refine .lo (Va D _ hDM) rfl (by simp[AV.cln,Fb]) ?_;simp[go_sem,hgf];exact kk) ?_
 refine Bz (Fk ?_);simp[go_sem,hgf]
 exact⟨(G,(L3 D _ hDM)),by rfl,⟨hqs.1,hqs.2,by rw[Ve];exact hqv⟩⟩
def K6:Hz×F3:=(Em (T0 g j s v l k now hj8 hcM h1 h2 h3 hl)).choose
theorem Ajp:PP 127 [] [g.g,j.g,s.g,v.g,.mClaim l,.li k,.li now] [] (.tup [.agg ((K6 g j s v l k now hj8 hcM h1 h2 h3 hl).1.a false),.agg ((K6 g j s v l k now hj8 hcM h1 h2 h3 hl).2.a false)]):=(Em (T0 g j s v l k now hj8 hcM h1 h2 h3 hl)).choose_spec.1
theorem Aka:(K6 g j s v l k now hj8 hcM h1 h2 h3 hl).1.ctl.lights.length<=8/\(K6 g j s v l k now hj8 hcM h1 h2 h3 hl).1.ctl.nxt.length<=2/\(K6 g j s v l k now hj8 hcM h1 h2 h3 hl).2.ended.length=v.ended.length:=(Em (T0 g j s v l k now hj8 hcM h1 h2 h3 hl)).choose_spec.2
end
section
variable {l:List Int}
theorem By.drop (h:By l) (n:Nat):By (l.drop n):=fun x hx=>h x (Ay hx)
theorem By.take (h:By l) (n:Nat):By (l.take n):=fun x hx=>h x (Aq hx)
variable {b:List Int}
theorem Uq (hb:By b) (h:(Fg b).2.2=true):1<=(Fg b).2.1/\(Fg b).2.1<=b.length:=by
 unfold Fg at h ⊢
 split
 ·simp at h
 ·split<;>simp_all
 rename_i b0 b1 r
 split
 ·simp;omega
 rename_i h1
 simp only[h1,if_false] at h
 split
 ·rename_i b2 b3 b4 b5 r
  simp only at h ⊢
  have h4:=hb b4 (by simp)
  have h5:=hb b5 (by simp)
  by_cases hn:200<b4*256+b5
  ·simp[hn];omega
  rw[if_neg hn] at h ⊢
  by_cases hl:(r.length:Int)<b4*256+b5+4
  ·rw[if_pos hl] at h;simp at h
  rw[if_neg hl] at h ⊢
  repeat' split
  all_goals simp
  all_goals omega
 simp at h
def Un (b:List Int):List Int:=b.drop (Fg b).2.1.toNat
def Hv (b:List Int):Nat->List Int
 | 0=>b
 | k+1=>Un (Hv b k)
def Afn:Nat->List Int->List (Ff×Int)
 | 0,_=>[]
 | n+1,b=>if (Fg b).2.2 then ((Fg b).1,(Fg b).2.1)::Afn n (Un b) else []
def Kk (b:List Int):List (Ff×Int):=Afn b.length b
def Tf (b:List Int):Nat->Int
 | 0=>0
 | k+1=>Tf b k+(Fg (Hv b k)).2.1
theorem Wo (b:List Int):∀k,Hv (Un b) k=Hv b (k+1)
 | 0=>rfl
 | k+1=>by rw[Hv,Wo b k];rfl
theorem Xg {b:List Int} (h:By b):∀k,By (Hv b k)
 | 0=>h
 | k+1=>(Xg h k).drop _
theorem Wp:∀(n:Nat) (b:List Int) (k:Nat) (x:Ff×Int),(Afn n b)[k]? = some x->(Fg (Hv b k)).2.2=true/\x=((Fg (Hv b k)).1,(Fg (Hv b k)).2.1)
 | 0,b,k,x,h=>by simp[Afn] at h
 | n+1,b,k,x,h=>by
  unfold Afn at h
  split at h
  ·rename_i hp
   cases k with
   | zero=>simp at h;exact⟨hp,h.symm⟩
   | succ k =>
    simp at h
    have:=Wp n (Un b) k x h
    rwa[Wo] at this
  simp at h
theorem Y9 {b:List Int} (hb:By b):∀(k:Nat),(∀j,j<k->(Fg (Hv b j)).2.2=true)->Tf b k+(Hv b k).length=b.length/\(k:Int)<=Tf b k
 | 0,_=>by simp[Tf,Hv]
 | k+1,h=>by
  obtain⟨h1,h2⟩:=Y9 hb k fun j hj=>h j (by omega)
  have h3:=Uq (Xg hb k) (h k (by omega))
  simp only[Tf,Hv,Un,Bc]
  omega
theorem Ams:∀(n:Nat) (b:List Int),By b->b.length<=n->(Fg (Hv b (Afn n b).length)).2.2=false
 | 0,b,_,h=>by
  have:b=[]:=List.eq_nil_of_length_eq_zero (by omega)
  subst this;rfl
 | n+1,b,hb,h=>by
  unfold Afn
  split
  ·rename_i hp
   have h3:=Uq hb hp
   have:=Ams n (Un b) (hb.drop _) (by simp only[Un,Bc];omega)
   rw[Wo] at this
   simpa using this
  rename_i hp
  simpa[Hv] using hp
variable {k:Nat}
theorem Afo (h:k<(Kk b).length):(Fg (Hv b k)).2.2=true:=(Wp _ _ _ _ (Aa h)).1
theorem Arp (hb:By b):(Fg (Hv b (Kk b).length)).2.2=false:=Ams _ _ hb (Aj _)
theorem Te (hb:By b) (h:k<=(Kk b).length):0<=Tf b k/\Tf b k<=b.length/\(k:Int)<=b.length:=by
 have:=Y9 hb k fun j hj=>Afo (by omega)
 omega
theorem Abl (hb:By b) (h:k<=(Kk b).length):(Hv b k).length<=b.length:=by
 have:=Y9 hb k fun j hj=>Afo (by omega)
 omega
theorem Ace (b:List Int) (hl:b.length<=1000000) (hb:By b):Yd Tryz.prog 139 [.iptr false [.sl 1 (tY b)] 0] ((Kk b).map fun a=>[a.1.g,.li a.2]):=by
 refine Aeb Tryz.func139 rfl rfl rfl (by simp[Tryz.ntmps139]) rfl fun yl=>?_
 refine B9 (by rfl) fun K1 hK1=>?_
 simp[go_sem]
 refine hK1 _ ?_;clear hK1
 refine Cy ?_
 refine Dp (Kk b).length (fun k=>⟨[(0,.lit (.func (.yield yl) #[] #[])),(3,.mY (Hv b k))],[]⟩) (fun k=>k)
  (fun k=>True) (wQ [] ?_ ?_) ⟨rfl,rfl,trivial⟩ fun k hk _=>?_
 ·simp[go_sem,Hv]
 ·simp[go_sem]
 have hr:=Abl hb hk
 refine Cy ?_
 refine B9 (by rfl) fun K1 hK1=>?_
 simp[go_sem]
 refine .l (Ahb (Hv b k) (by omega) (Xg hb k)) ?_
 simp[go_sem]
 refine hK1 _ ?_;clear hK1
 refine C3 ?_
 refine C3 (Dt ?_)
 refine Ut.first 6 (by rfl) fun K1 hK1=>?_
 by_cases hlt:k<(Kk b).length
 ·have hok:=Afo hlt
  have hit:(Kk b)[k]? = some ((Fg (Hv b k)).1,(Fg (Hv b k)).2.1):=by
   have h1:=Aa hlt
   rw[h1,(Wp _ _ _ _ h1).2]
  have hsz:=Uq (Xg hb k) hok
  simp[go_sem,hok]
  refine hK1 _ ?_;clear hK1
  refine Ut.yield (vs:=[.agg ((Fg (Hv b k)).1.a false),.lit (.int .i64 (Fg (Hv b k)).2.1)]) (by simp[go_sem]) (by simp[go_sem]) (by decide) (by simp[go_sem]) (by simp[go_sem]) (by simp[go_sem]) (by simp[hit]) (by simp[go_sem]) rfl fun c=>?_
  refine Ut.rest (by rfl) fun K1 hK1=>?_
  cases c with
  | true =>
   simp[go_sem]
   refine hK1 _ ?_;clear hK1
   refine C5 (by simp[go_sem]) (by simp[go_sem]) (fun h17=>?_) (fun h17=>?_)<;>simp[go_sem] at h17
   exact VI.ret ⟨.inr rfl,fun h=>by cases h⟩
  | false =>
   simp[go_sem]
   refine hK1 _ ?_;clear hK1
   refine C5 (by simp[go_sem]) (by simp[go_sem]) (fun h17=>?_) (fun h17=>?_)<;>simp[go_sem] at h17
   refine De ?_
   refine Cs (by rfl) fun K1 hK1=>?_
   simp[go_sem]
   repeat' with_reducible refine Ax ?_ ?_
   all_goals try (intros;(repeat' refine Ax ?_ ?_)<;>omega)
   refine hK1 _ ?_;clear hK1
   refine⟨hlt,rfl,rfl,trivial,wQ [] ?_ ?_⟩
   ·simp[go_sem,Hv,Un]
   simp[go_sem]
 have he:k=(Kk b).length:=by omega
 have hno:=Arp hb
 rw[<- he] at hno
 simp[go_sem,hno]
 refine hK1 _ ?_;clear hK1
 refine Ut.noyield (d:=20) rfl (by simp[go_sem]) (by simp[go_sem]) (by decide) ?_
 refine Ut.rest (by rfl) fun K1 hK1=>?_
 simp[go_sem]
 refine hK1 _ ?_;clear hK1
 refine C5 (by simp[go_sem]) (by simp[go_sem]) (fun h17=>?_) (fun h17=>?_)<;>simp[go_sem] at h17
 exact VI.ret ⟨.inr rfl,fun _=>by simp[he]⟩
theorem U3 (b:List Int):PP 104 [] [.mY b] [] (.fn 139 [.iptr false [.sl 1 (tY b)] 0]):=by
 refine Ey.boxes (σr:=[.box 44 [.mY b]]) (res:=.fn 139 [.ptr 0 0]) ?_ (by simp[go_sem,St.o])
 refine Ei Tryz.func104 ?_
 iterate 2 refine Bw ?_
 exact .ret (rW Dy [0])
end
section
variable {P:Program}
theorem VX.rangeFnA {n m : Nat} {γ : Type} {sl : List (Nat × AV)} {K : Exit -> St -> Prop} {g : Tmp} {ps : List Tmp} {asg : Code} {body : Code} {gf : FuncId} {caps : List AV} {items : List (List AV)} (hit : Yd P gf caps items) (f : γ -> List Ob) (M : Nat) (hM : ∀ x, (f x).length = M) (hg : Ez sl g = .fn gf caps)
    (hlive:∀x id,(St.mk sl (f x)).o id≠.gone->((St.mk sl (f x)).o id).live) (hps:∀p∈ps,p<n) (hcl:∀vs∈items,vs.length=ps.length/\Nr (fun _=>none) vs=vs)
    (Inv:Nat->γ->Prop) (x0:γ) (hI0:Inv 0 x0) (hround:∀i vs x,items[i]? = some vs->Inv i x->VX P n M asg ⟨Sn ps vs sl,f x⟩ (fun e s=>e=.normal/\VX P n M body s (Av2 M sl f (Inv (i+1)) K))) (hdone:∀x,Inv items.length x->K .normal ⟨sl,f x⟩) :
    VX P n m (.rangeFunc (.tmp g) ps.toArray (asg) body) ⟨sl,f x0⟩ K:=by
  have key : ∀ (k i : Nat) (x : γ), i + k = items.length -> Inv i x -> ∃ e s, K e s /\ ∃ (xs : Nat -> γ) (stop : Nat), xs i = x /\ i <= stop /\ stop <= items.length /\
      (∀j vs,i<=j->j<stop->items[j]? = some vs->∃sA,VW P n M asg ⟨Sn ps vs sl,f (xs j)⟩ (fun e s=>e=.normal/\s=sA)/\VW P n M body sA (Jp M sl (f (xs (j+1))) True fun _ _=>False)) /\
      (stop=items.length->e=.normal/\s=⟨sl,f (xs stop)⟩)/\(∀vs,items[stop]? = some vs->∃sA,VW P n M asg ⟨Sn ps vs sl,f (xs stop)⟩ (fun e s=>e=.normal/\s=sA)/\VW P n M body sA (Jp M sl [] False fun e' s'=>e'=e/\s'=s)):=by
    intro k
    induction k with
    | zero =>
      intro i x hi hI
      refine ⟨.normal, ⟨sl, f x⟩, hdone x (by have : i = items.length := by omega
                                              rw[<- this];exact hI),fun _=>x,i,rfl,Aj _,by omega,fun j vs h1 h2=>by omega,fun _=>⟨rfl,rfl⟩,fun vs h=>?_⟩
      have:=(Ab.1 h).1
      omega
    | succ k ih =>
      intro i x hi hI
      obtain⟨vs,hvs⟩:∃vs,items[i]? = some vs:=⟨_,Aa (by omega)⟩
      obtain⟨e0,sA,hA,rfl,e1,s1,h1,h2⟩:=hround i vs x hvs hI
      have hA:VW P n M asg ⟨Sn ps vs sl,f x⟩ (fun e s=>e=.normal/\s=sA):=hA
      have other : ∀ (e : Exit) (s : St), K e s -> Jp M sl [] False (fun e' s' => e' = e /\ s' = s) e1 s1 -> ∃ e s, K e s /\ ∃ (xs : Nat -> γ) (stop : Nat), xs i = x /\ i <= stop /\ stop <= items.length /\
          (∀j vs,i<=j->j<stop->items[j]? = some vs->∃sA,VW P n M asg ⟨Sn ps vs sl,f (xs j)⟩ (fun e s=>e=.normal/\s=sA)/\VW P n M body sA (Jp M sl (f (xs (j+1))) True fun _ _=>False)) /\
          (stop=items.length->e=.normal/\s=⟨sl,f (xs stop)⟩)/\(∀vs,items[stop]? = some vs->∃sA,VW P n M asg ⟨Sn ps vs sl,f (xs stop)⟩ (fun e s=>e=.normal/\s=sA)/\VW P n M body sA (Jp M sl [] False fun e' s'=>e'=e/\s'=s)):=by
        intro e s hK hR
        refine⟨e,s,hK,fun _=>x,i,rfl,Aj _,by omega,fun j vs h1 h2=>by omega,fun h=>by omega,fun vs' h=>?_⟩
        rw[hvs] at h
        injection h with h
        subst h
        refine⟨sA,hA,h1.mono ?_⟩
        rintro e' s' ⟨rfl,rfl⟩
        exact hR
      cases e1 with
      | normal =>
        obtain⟨x',h3,h4⟩:=h2
        obtain⟨e,s,hK,xs,stop,q1,q2,q3,q4,q5,q6⟩:=ih (i+1) x' (by omega) h3
        refine⟨e,s,hK,fun j=>if j=i then x else xs j,stop,if_pos rfl,by omega,q3,fun j vs' hj1 hj2 hjv=>?_,fun h=>?_,fun vs' h=>?_⟩
        · by_cases e0:j=i
          · subst e0
            rw[hvs] at hjv
            injection hjv with hjv
            subst hjv
            simp only[if_true]
            rw[if_neg (by omega),q1]
            refine⟨sA,hA,h1.mono ?_⟩
            rintro e' s' ⟨rfl,rfl⟩
            exact⟨h4,trivial⟩
          · simp only
            rw[if_neg e0,if_neg (by omega)]
            exact q4 j vs' (by omega) hj2 hjv
        · obtain⟨g1,g2⟩:=q5 h
          exact⟨g1,by simp only;rw[if_neg (by omega)];exact g2⟩
        · simp only
          rw[if_neg (by omega)]
          exact q6 vs' h
      | ret=>obtain⟨ob,h3,h4⟩:=h2;exact other _ _ h4 ⟨ob,h3,rfl,rfl⟩
      | exit id=>obtain⟨ob,h3,h4⟩:=h2;exact other _ _ h4 ⟨ob,h3,rfl,rfl⟩
      | goto t=>obtain⟨ob,h3,h4⟩:=h2;exact other _ _ h4 ⟨ob,h3,rfl,rfl⟩
      | panic ch=>exact h2.elim
      | outgrown=>exact h2.elim
  obtain⟨e,s,hK,xs,stop,q1,q2,q3,q4,q5,q6⟩:=key items.length 0 x0 (by omega) hI0
  refine⟨e,s,?_,hK⟩
  have hex:∀j vs,∃sA,items[j]? = some vs->j<=stop->VW P n M asg ⟨Sn ps vs sl,f (xs j)⟩ (fun e s=>e=.normal/\s=sA)/\VW P n M body sA (Jp M sl (f (xs (j+1))) (j+1<=stop) fun e' s'=>e'=e/\s'=s):=fun j vs=>by
    by_cases hc:items[j]? = some vs/\j<=stop
    · by_cases e0:j=stop
      · subst e0
        obtain⟨sA,g1,g2⟩:=q6 vs hc.1
        exact⟨sA,fun _ _=>⟨g1,g2.mono fun e' s' h=>h.jump⟩⟩
      · obtain⟨sA,g1,g2⟩:=q4 j vs (Ae _) (by omega) hc.1
        exact⟨sA,fun _ _=>⟨g1,g2.mono fun e' s' h=>h.mono (fun _=>by omega) fun _ _ h=>h.elim⟩⟩
    · exact⟨⟨[],[]⟩,fun h1 h2=>absurd ⟨h1,h2⟩ hc⟩
  have:=VW.rangeFnA (m:=m) (K:=fun e' s'=>e'=e/\s'=s) (body:=body) (asg:=asg) (ps:=ps) (n:=n) (sl:=sl) (g:=g) hit (fun j=>f (xs j)) hg (fun j id=>hlive (xs j) id) hps (fun j vs=>(hex j vs).choose) hcl (fun j=>j<=stop) (Ae _) (fun j vs hj hI=>?_) (fun j vs hj hI=>?_) (fun hI=>?_)
  · simp only[q1] at this
    exact this
  · rw[hM]
    exact ((hex j vs).choose_spec hj hI).1
  · rw[hM]
    exact ((hex j vs).choose_spec hj hI).2
  · have hs:stop=items.length:=by omega
    obtain⟨g1,g2⟩:=q5 hs
    rw[hs] at g2
    exact⟨g1.symm,g2.symm⟩
abbrev Dh:=@VX.rangeFnA
end
section
theorem Acu (b:List Int):(Fg b).1.pay.length<=b.length:=by
 unfold Fg
 split
 ·simp
 ·split<;>simp
 split
 ·simp
 split
 ·simp only
  repeat' split
  all_goals simp
  all_goals omega
 simp
variable {l:List Ff}
theorem Rc {a:Ff} (h:∀x∈l,x.pay.length<=256) (ha:a.pay.length<=256):∀x∈l++[a],x.pay.length<=256:=fun x hx=>by
 rcases A0.1 hx with h1 | h1
 ·exact h x h1
 rw[An.1 h1];exact ha
def Md (n:Int):List (Ff×Int)->Int->Bool->List Ff->Int×Bool×List Ff
 | [],u,g,l=>(u,g,l)
 | p::ps,u,g,l=>if p.1.code=2/\g=true then Md n ps (u+p.2) g l else if n<=((l++[p.1]).length:Int) then (u+p.2,(p.1.code == 2||p.1.code == 7||p.1.code == 4),l++[p.1]) else Md n ps (u+p.2) (p.1.code == 2||p.1.code == 7||p.1.code == 4) (l++[p.1])
variable {L:List (Ff×Int)} {j:Nat} {a:Ff×Int} {n u:Int}
theorem Ru {g:Bool} (ha:L[j]? = some a) (h1:a.1.code=2) (h2:g=true):Md n (L.drop j) u g l=Md n (L.drop (j+1)) (u+a.2) g l:=by
 obtain⟨hj,rfl⟩:=Ab.1 ha
 rw[List.drop_eq_getElem_cons hj,Md,if_pos ⟨h1,h2⟩]
variable {g g':Bool}
theorem Xb (ha:L[j]? = some a) (h1:¬(a.1.code=2/\g=true)) (h2:g'=(a.1.code == 2||a.1.code == 7||a.1.code == 4)) (hn:¬n<=((l++[a.1]).length:Int)):Md n (L.drop j) u g l=Md n (L.drop (j+1)) (u+a.2) g' (l++[a.1]):=by
 obtain⟨hj,rfl⟩:=Ab.1 ha
 rw[List.drop_eq_getElem_cons hj,Md,if_neg h1,if_neg hn,h2]
theorem Ad6 (ha:L[j]? = some a) (h1:¬(a.1.code=2/\g=true)) (h2:g'=(a.1.code == 2||a.1.code == 7||a.1.code == 4)) (hn:n<=((l++[a.1]).length:Int)):Md n (L.drop j) u g l=(u+a.2,g',l++[a.1]):=by
 obtain⟨hj,rfl⟩:=Ab.1 ha
 rw[List.drop_eq_getElem_cons hj,Md,if_neg h1,if_pos hn,h2]
def TkR (n:Int) (s:Tn) (d:Tn×List Ff):Prop:=∃u,Md n (Kk s.buf) 0 s.gar []=(u,d.1.gar,d.2)/\d.1.buf=s.buf.drop u.toNat
def Aza (s:Fj) (d:Fj×Gv):Prop:=(s.op=false->d=(s,⟨false,[]⟩))/\(s.op=true->∃e,TkR 4 s.st e/\d=(⟨true,false,e.1⟩,⟨true,(if s.dr then [⟨15,0,[]⟩] else [])++e.2⟩))
theorem Pp (n k:Int):PP 122 [] [.li k,.iptr false [.li n] 0] [] (.lb (decide (n<=k))):=by
 refine Ei Tryz.func122 ?_
 iterate 2 refine Bw ?_
 exact .ret (rL Dy)
theorem Agq (s:Tn) (n:Int) (hl:s.buf.length<=256) (hb:By s.buf):Ct 72 [s.g,.fn 122 [.iptr false [.li n] 0]] (fun d:Tn×List Ff=>.tup [d.1.g,.mItem d.2]) (fun d=>By d.1.buf/\d.1.buf.length<=256/\d.2.length<=256/\(∀x∈d.2,x.pay.length<=256)/\TkR n s d):=by
 refine Er Tryz.func72 ?_
 refine Bq ?_
 refine VX.scope ?_
 refine Bq ?_
 refine VX.D<|.seq ?_
 refine VX.label ?_
 refine Ca<|.L Dy (U3 s.buf)<|.block ?_
 refine Ck 3 0 116 3 (by decide) rfl rfl ?_
 simp[go_sem,-Prod.exists]
 refine Cz (s':=⟨[(2,.ptr 0 0),(3,.ptr 1 0),(4,.ptr 2 0),(6,.ptr 3 0),(7,.ptr 4 0),(8,.ptr 5 0),(15,.fn 139 [.iptr false [.sl 1 (tY s.buf)] 0])],(fun (y1:Int×Bool×(List Ff))=>[.box 98 [.mY s.buf,.lb s.gar],.box 169 [.fn 122 [.iptr false [.li n] 0]],.box 98 [.nil 1,.lb false],.box 113 [.own 6 y1.2.2.length],.box 3 [.li y1.1],.box 4 [.lb y1.2.1],.row 116 3 false false (X4 y1.2.2)]) (0,s.gar,[])⟩) (wQ [0,1,2,3,4,5,6] ?_ ?_) ?_
 ·simp[go_sem]
 ·simp[go_sem]
 refine Dh (Ace s.buf (by omega) hb) (fun (y1:Int×Bool×(List Ff))=>[.box 98 [.mY s.buf,.lb s.gar],.box 169 [.fn 122 [.iptr false [.li n] 0]],.box 98 [.nil 1,.lb false],.box 113 [.own 6 y1.2.2.length],.box 3 [.li y1.1],.box 4 [.lb y1.2.1],.row 116 3 false false (X4 y1.2.2)]) 7 (fun _=>rfl) (by rfl) (fun _=>Qf rfl) (by decide) ?_ (fun j1 y1=>y1.1=Tf s.buf j1/\y1.2.2.length<=j1/\(∀x∈y1.2.2,x.pay.length<=256)/\Md n ((Kk s.buf).drop j1) y1.1 y1.2.1 y1.2.2=Md n (Kk s.buf) 0 s.gar []) (0,s.gar,[]) (⟨rfl,by simp,(fun x h=>by cases h),rfl⟩) (fun j1 vs y1 hj1 hy1=>?_) (fun y1 hy1=>?_)
 ·intro vs hvs
  obtain⟨a,_,rfl⟩:=A4.1 hvs
  simp[go_sem]
 ·
  obtain⟨a1,ha1,rfl⟩:=Ee hj1
  have hjl:j1<(Kk s.buf).length:=(Ab.1 ha1).1
  have hg:=Wp _ _ _ _ ha1
  have ho:=Te hb (k:=j1+1) (by omega)
  have ho0:=Te hb (k:=j1) (by omega)
  have hrl:=Abl hb (k:=j1) (by omega)
  have hsz:Tf s.buf (j1+1)=y1.1+a1.2:=by rw[Tf,hy1.1,hg.2]
  have hpy:a1.1.pay.length<=256:=by rw[hg.2];exact Ak (Acu _) (by omega)
  refine Bq ?_
  refine Ci ?_
  refine⟨rfl,?_⟩
  refine Db ?_
  have hw1:=Dw (y1.1+a1.2:Int)
  refine Bu hw1<|.seq ?_
  refine Bu hw1<|.block ?_
  refine Bu hw1 ?_
  refine Br ?_ ?_<;>intro h23
  ·refine Ca<|.H hw1 ?_
   refine Br ?_ ?_<;>intro h25
   ·refine Bt ?_
    refine⟨((y1.1+a1.2),y1.2.1,y1.2.2),?_,⟨[0,1,2,3,4,5,6],El (by decide) ?_ ?_,Fv rfl⟩⟩
    ·exact⟨hsz.symm,by dsimp only;omega,hy1.2.2.1,(Ru ha1 h23 h25).symm.trans hy1.2.2.2⟩
    ·simp[go_sem]
    simp[go_sem,hw1]
   refine Bp<|.H1 hw1 ?_
   refine Bu hw1 ?_
   refine B3 (fun K kk=>by simp[go_sem,hw1];refine .lo (Pp n _) rfl (by simp[AV.cln,Fb]) ?_;simp[go_sem,hw1];exact kk) ?_
   refine Br ?_ ?_<;>intro h36
   ·refine Bt ⟨[.box 98 [.mY s.buf,.lb s.gar],.box 169 [.fn 122 [.iptr false [.li n] 0]],.box 98 [.nil 1,.lb false],.box 113 [.own 6 ((y1.2.2++([a1.1])).length)],.box 3 [.li (y1.1+a1.2)],.box 4 [.lb true],.row 116 3 false false (X4 (y1.2.2++([a1.1])))],⟨[0,1,2,3,4,5,6],El (by decide) ?_ ?_,Fv rfl⟩,?_⟩
    ·simp[go_sem]
    ·simp[go_sem,hw1]
    refine Cw (fun K kk=>by simp[go_sem,hw1];(repeat refine aK ?_);refine .lo cB rfl (by simp[AV.cln,Fb]) ?_;simp[go_sem,hw1];exact kk) ?_
    refine B2 Dy 6 ?_
    exact .ret (Ep hw1 (⟨s.buf.drop ((y1.1+a1.2).toNat),true⟩,y1.2.2++([a1.1])) (by exact⟨hb.drop _,by simp;omega,by simp;omega,Rc hy1.2.2.1 hpy,_,hy1.2.2.2.symm.trans (Ad6 ha1 (by (simp[h23,h25];done)) (by (simp[h23];done)) (by simp;omega)),rfl⟩))
   refine Bp ?_
   refine⟨((y1.1+a1.2),true,y1.2.2++([a1.1])),?_,⟨[0,1,2,3,4,5,6],El (by decide) ?_ ?_,Fv rfl⟩⟩
   ·first | exact⟨hsz.symm,by dsimp only;omega,hy1.2.2.1,(Ru ha1 h23 h25).symm.trans hy1.2.2.2⟩ | exact⟨hsz.symm,by simp;omega,Rc hy1.2.2.1 hpy,(Xb ha1 (by (simp[h23,h25];done)) (by (simp[h23];done)) (by simp;omega)).symm.trans hy1.2.2.2⟩
   ·simp[go_sem]
   simp[go_sem,hw1]
  refine Ce (by rfl) fun K1 hK1=>?_
  simp[go_sem]
  refine hK1 _ ⟨_,_,_,_,_,_,_,_,rfl,.one (by decide) rfl rfl,by decide,rfl,by simp[go_sem];rfl,by simp[go_sem];rfl,by simp[go_sem],?_⟩;clear hK1
  refine Br ?_ ?_<;>intro h26
  ·refine B0 hw1 ?_
   refine Bu hw1 ?_
   refine B3 (fun K kk=>by simp[go_sem,hw1];refine .lo (Pp n _) rfl (by simp[AV.cln,Fb]) ?_;simp[go_sem,hw1];exact kk) ?_
   refine Br ?_ ?_<;>intro h36
   ·refine Bt ⟨[.box 98 [.mY s.buf,.lb s.gar],.box 169 [.fn 122 [.iptr false [.li n] 0]],.box 98 [.nil 1,.lb false],.box 113 [.own 6 ((y1.2.2++([a1.1])).length)],.box 3 [.li (y1.1+a1.2)],.box 4 [.lb true],.row 116 3 false false (X4 (y1.2.2++([a1.1])))],⟨[0,1,2,3,4,5,6],El (by decide) ?_ ?_,Fv rfl⟩,?_⟩
    ·simp[go_sem]
    ·simp[go_sem,hw1]
    refine Cw (fun K kk=>by simp[go_sem,hw1];(repeat refine aK ?_);refine .lo cB rfl (by simp[AV.cln,Fb]) ?_;simp[go_sem,hw1];exact kk) ?_
    refine B2 Dy 6 ?_
    exact .ret (Ep hw1 (⟨s.buf.drop ((y1.1+a1.2).toNat),true⟩,y1.2.2++([a1.1])) (by exact⟨hb.drop _,by simp;omega,by simp;omega,Rc hy1.2.2.1 hpy,_,hy1.2.2.2.symm.trans (Ad6 ha1 (by first | (simp[h23,h25];done) | (simp[h23];done)) (by first | (simp[h23];done) | (rcases h26 with h | h<;>(simp[h];done))) (by simp;omega)),rfl⟩))
   refine Bp ?_
   refine⟨((y1.1+a1.2),true,y1.2.2++([a1.1])),?_,⟨[0,1,2,3,4,5,6],El (by decide) ?_ ?_,Fv rfl⟩⟩
   ·first | exact⟨hsz.symm,by dsimp only;omega,hy1.2.2.1,(Ru ha1 h23 h25).symm.trans hy1.2.2.2⟩ | exact⟨hsz.symm,by simp;omega,Rc hy1.2.2.1 hpy,(Xb ha1 (by first | (simp[h23,h25];done) | (simp[h23];done)) (by first | (simp[h23];done) | (rcases h26 with h | h<;>(simp[h];done))) (by simp;omega)).symm.trans hy1.2.2.2⟩
   ·simp[go_sem]
   simp[go_sem,hw1]
  refine B0 hw1 ?_
  refine Bu hw1 ?_
  refine B3 (fun K kk=>by simp[go_sem,hw1];refine .lo (Pp n _) rfl (by simp[AV.cln,Fb]) ?_;simp[go_sem,hw1];exact kk) ?_
  refine Br ?_ ?_<;>intro h36
  ·refine Bt ⟨[.box 98 [.mY s.buf,.lb s.gar],.box 169 [.fn 122 [.iptr false [.li n] 0]],.box 98 [.nil 1,.lb false],.box 113 [.own 6 ((y1.2.2++([a1.1])).length)],.box 3 [.li (y1.1+a1.2)],.box 4 [.lb false],.row 116 3 false false (X4 (y1.2.2++([a1.1])))],⟨[0,1,2,3,4,5,6],El (by decide) ?_ ?_,Fv rfl⟩,?_⟩
   ·simp[go_sem]
   ·simp[go_sem,hw1]
   refine Cw (fun K kk=>by simp[go_sem,hw1];(repeat refine aK ?_);refine .lo cB rfl (by simp[AV.cln,Fb]) ?_;simp[go_sem,hw1];exact kk) ?_
   refine B2 Dy 6 ?_
   exact .ret (Ep hw1 (⟨s.buf.drop ((y1.1+a1.2).toNat),false⟩,y1.2.2++([a1.1])) (by exact⟨hb.drop _,by simp;omega,by simp;omega,Rc hy1.2.2.1 hpy,_,hy1.2.2.2.symm.trans (Ad6 ha1 (by first | (simp[h23,h25];done) | (simp[h23];done)) (by first | (simp[h23];done) | (rcases h26 with h | h<;>(simp[h];done)) | (simp[h23,h26];done)) (by simp;omega)),rfl⟩))
  refine Bp ?_
  refine⟨((y1.1+a1.2),false,y1.2.2++([a1.1])),?_,⟨[0,1,2,3,4,5,6],El (by decide) ?_ ?_,Fv rfl⟩⟩
  ·first | exact⟨hsz.symm,by dsimp only;omega,hy1.2.2.1,(Ru ha1 h23 h25).symm.trans hy1.2.2.2⟩ | exact⟨hsz.symm,by simp;omega,Rc hy1.2.2.1 hpy,(Xb ha1 (by first | (simp[h23,h25];done) | (simp[h23];done)) (by first | (simp[h23];done) | (rcases h26 with h | h<;>(simp[h];done)) | (simp[h23,h26];done)) (by simp;omega)).symm.trans hy1.2.2.2⟩
  ·simp[go_sem]
  simp[go_sem,hw1]
 -- done
 simp only[A2] at hy1
 have ho:=Te hb (k:=(Kk s.buf).length) (Aj _)
 refine Cw (fun K kk=>by simp[go_sem];(repeat refine aK ?_);refine .lo cB rfl (by simp[AV.cln,Fb]) ?_;simp[go_sem];exact kk) ?_
 refine B2 Dy 6 ?_
 exact .ret (Ep Dy (⟨s.buf.drop y1.1.toNat,y1.2.1⟩,y1.2.2) (by first | exact⟨hb.drop _,by simp;omega,by simp;omega,Rc hy1.2.2.1 hpy,_,hy1.2.2.2.symm.trans (Ad6 ha1 (by first | (simp[h23,h25];done) | (simp[h23];done)) (by first | (simp[h23];done) | (rcases h26 with h | h<;>(simp[h];done)) | (simp[h23,h26];done)) (by simp;omega)),rfl⟩ | exact⟨hb.drop _,by simp;omega,by dsimp only;omega,hy1.2.2.1,_,hy1.2.2.2.symm.trans (by rw[List.drop_eq_nil_of_le (by simp)];rfl),rfl⟩))
theorem Ags (s:Tn) (n:Int) (hl:s.buf.length<=256) (hb:By s.buf):Ct 93 [s.g,.li n] (fun d:Tn×List Ff=>.tup [d.1.g,.mItem d.2]) (fun d=>By d.1.buf/\d.1.buf.length<=256/\d.2.length<=256/\(∀x∈d.2,x.pay.length<=256)/\(0<n->TkR n s d)):=by
 refine Er Tryz.func93 ?_
 refine Bq<|.seq ?_
 refine Bq ?_
 refine Br ?_ ?_<;>intro h7
 ·refine Cw (fun K kk=>by simp[go_sem];refine .lo cB rfl (by simp[AV.cln,Fb]) ?_;simp[go_sem];exact kk) ?_
  exact .ret (Ep Dy (s,[]) (by exact⟨hb,hl,Ae _,(fun x h=>by cases h),fun h=>by omega⟩))
 refine Bp ?_
 refine VX.sel1 1 rfl rfl (by simp) ?_
 simp[go_sem,-Prod.exists]
 obtain⟨Y1,cY1,qY1⟩:=Em (Agq s n hl hb)
 refine B8 Dy cY1 ?_
 exact .ret (Ep Dy (Y1.1,Y1.2) (by first | exact⟨hb,hl,Ae _,(fun x h=>by cases h),fun h=>by omega⟩ | exact (have h:=qY1;⟨h.1,h.2.1,h.2.2.1,h.2.2.2.1,fun _=>h.2.2.2.2⟩)))
theorem Ai8 (s:Fj) (hl:s.st.buf.length<=256) (hb:By s.st.buf):Ct 64 [s.g] (fun d:Fj×Gv=>.tup [d.1.g,d.2.g]) (fun d=>By d.1.st.buf/\d.1.st.buf.length<=256/\(d.2.items.length<=257/\d.2.op=s.op)/\(∀x∈d.2.items,x.pay.length<=256)/\Aza s d):=by
 refine Er Tryz.func64 ?_
 obtain⟨Y1,cY1,qY1⟩:=Em (Ags s.st 4 hl hb)
 have hQ:=qY1
 refine Bq<|.seq ?_
 refine Bq ?_
 refine Br ?_ ?_<;>intro h9
 ·refine B8 Dy (K0 s (by first | assumption | omega)) ?_
  refine Bz (Fk ?_);simp[go_sem,Ba 1]
  exact⟨(s,⟨false,[]⟩),by rfl,(by exact⟨hb,hl,⟨Ae _,by dsimp only;rw[h9]⟩,(fun x h=>by cases h),fun _=>rfl,fun h=>by rw[h9] at h;cases h⟩)⟩
 refine Bp<|.R<|.seq ?_
 refine Bq ?_
 refine Br ?_ ?_<;>intro h15
 ·refine B0 Dy ?_
  refine B8 Dy cY1 ?_
  iterate 2 refine Bq ?_
  refine Bu Dy ?_
  refine VX.D ?_
  refine B2 Dy 5 ?_
  refine Bz (Fk ?_);simp[go_sem,Ba 1]
  exact⟨(⟨s.op,false,Y1.1⟩,⟨true,([⟨15,0,[]⟩])++(Y1.2)⟩),by rfl,(by first | exact⟨hb,hl,⟨Ae _,by dsimp only;rw[h9]⟩,(fun x h=>by cases h),fun _=>rfl,fun h=>by rw[h9] at h;cases h⟩ | exact⟨hQ.1,hQ.2.1,⟨by have:=hQ.2.2.1;simp;omega,by dsimp only;rw[h9]⟩,(fun x h=>by rcases A0.1 h with h | h;(rw[An.1 h];simp);exact hQ.2.2.2.1 x h),(fun h=>by rw[h9] at h;cases h),fun _=>⟨_,hQ.2.2.2.2 (by decide),by rw[h9,h15];rfl⟩⟩)⟩
 refine Bp<|.L Dy cY1 ?_
 iterate 2 refine Bq ?_
 refine Bu Dy ?_
 refine VX.D ?_
 refine B2 Dy 5 ?_
 refine Bz (Fk ?_);simp[go_sem,Ba 1]
 exact⟨(⟨s.op,false,Y1.1⟩,⟨true,Y1.2⟩),by rfl,(by first | exact⟨hb,hl,⟨Ae _,by dsimp only;rw[h9]⟩,(fun x h=>by cases h),fun _=>rfl,fun h=>by rw[h9] at h;cases h⟩ | exact⟨hQ.1,hQ.2.1,⟨by have:=hQ.2.2.1;simp;omega,by dsimp only;rw[h9]⟩,(fun x h=>by rcases A0.1 h with h | h;(rw[An.1 h];simp);exact hQ.2.2.2.1 x h),(fun h=>by rw[h9] at h;cases h),fun _=>⟨_,hQ.2.2.2.2 (by decide),by rw[h9,h15];rfl⟩⟩ | exact⟨hQ.1,hQ.2.1,⟨by have:=hQ.2.2.1;first | omega | (simp;omega),by dsimp only;rw[h9]⟩,hQ.2.2.2.1,(fun h=>by rw[h9] at h;cases h),fun _=>⟨_,hQ.2.2.2.2 (by decide),by rw[h9,h15];rfl⟩⟩)⟩
end
theorem Awl (x:Int):0<=IntKind.u32.wrap x/\IntKind.u32.wrap x<4294967296:=by
 simp[IntKind.wrap,IntKind.signed,IntKind.bits]
 omega
theorem Asg (l:List Int):0<=Ww l/\Ww l<4294967296:=Awl _
theorem An7 {x:Int} (h:0<=x/\x<4294967296):IntKind.u32.wrap x=x:=by
 simp[IntKind.wrap,IntKind.signed,IntKind.bits]
 omega
theorem Ayq {a b:Int} (ha:0<=a) (ha2:a<16777216) (hb:0<=b) (hb2:b<256):Ex .or .u32 (a*256) b=a*256+b:=by
 obtain⟨m,rfl⟩:=Int.eq_ofNat_of_zero_le ha
 obtain⟨q,rfl⟩:=Int.eq_ofNat_of_zero_le hb
 have hq:q<2 ^ 8:=by omega
 have h:=Nat.two_pow_add_eq_or_of_lt hq m
 have e:(BitVec.ofInt 32 ((m:Int)*256) ||| BitVec.ofInt 32 (q:Int)).toNat=m*256+q:=by
  rw[show ((m:Int)*256)=((m*256:Nat):Int) by push_cast;rfl,BitVec.ofInt_natCast,BitVec.ofInt_natCast,BitVec.toNat_or,BitVec.toNat_ofNat,BitVec.toNat_ofNat,Nat.mod_eq_of_lt (by omega),Nat.mod_eq_of_lt (by omega),Nat.mul_comm m,show (256:Nat)=2 ^ 8 from rfl,<- h]
 show IntKind.u32.wrap (((BitVec.ofInt 32 ((m:Int)*256) ||| BitVec.ofInt 32 (q:Int)).toNat:Nat):Int)=_
 rw[e,An7 (by omega)]
 omega
theorem Asc {s:Int} (h:0<=s/\s<4294967296):Arr (Kg s)=s/\(Kg s).length=4:=by
 refine⟨?_,rfl⟩
 have e1:IntKind.u8.wrap (s.fdiv (2 ^ min 24 32))=s / 16777216:=by
  rw[Int.fdiv_eq_ediv_of_nonneg _ (by decide)];show IntKind.u8.wrap (s / 16777216)=_;exact Ale (by omega)
 have w8:∀x:Int,IntKind.u8.wrap x=x % 256:=fun x=>by simp[IntKind.wrap,IntKind.signed,IntKind.bits]
 have e2:IntKind.u8.wrap (s.fdiv (2 ^ min 16 32))=s / 65536 % 256:=by
  rw[Int.fdiv_eq_ediv_of_nonneg _ (by decide),w8];rfl
 have e3:IntKind.u8.wrap (s.fdiv (2 ^ min 8 32))=s / 256 % 256:=by
  rw[Int.fdiv_eq_ediv_of_nonneg _ (by decide),w8];rfl
 have e4:IntKind.u8.wrap (s.fdiv (2 ^ min 0 32))=s % 256:=by
  rw[Int.fdiv_eq_ediv_of_nonneg _ (by decide),w8]
  show s / 1 % 256=_
  rw[Int.ediv_one]
 unfold Kg
 rw[e1,e2,e3,e4]
 have st:∀(l:List Int) (i:Nat),0<=Rl l i->Rl l i<16777216->0<=Tk l i->Tk l i<256->Rl l (i+1)=Rl l i*256+Tk l i:=fun l i h1 h2 h3 h4=>by
  rw[Rl,show (2:Int) ^ min 8 32=256 from rfl,An7 (x:=Rl l i*256) (by omega),An7 (x:=Tk l i) (by omega),Ayq h1 h2 h3 h4]
 generalize hL:[s / 16777216,s / 65536 % 256,s / 256 % 256,s % 256]=L
 have b0:Tk L 0=s / 16777216:=by rw[<- hL];rfl
 have b1:Tk L 1=s / 65536 % 256:=by rw[<- hL];rfl
 have b2:Tk L 2=s / 256 % 256:=by rw[<- hL];rfl
 have b3:Tk L 3=s % 256:=by rw[<- hL];rfl
 have n0:Rl L 0=0:=rfl
 have n1:Rl L 1=Rl L 0*256+Tk L 0:=st L 0 (by omega) (by omega) (by omega) (by omega)
 have n2:Rl L 2=Rl L 1*256+Tk L 1:=st L 1 (by omega) (by omega) (by omega) (by omega)
 have n3:Rl L 3=Rl L 2*256+Tk L 2:=st L 2 (by omega) (by omega) (by omega) (by omega)
 have n4:Rl L 4=Rl L 3*256+Tk L 3:=st L 3 (by omega) (by omega) (by omega) (by omega)
 have hl:L.length=4:=by rw[<- hL];rfl
 unfold Arr
 rw[hl]
 omega
theorem Asd (b0 b1 b2 b3 b4 b5:Int) (r:List Int):Fg (b0::b1::b2::b3::b4::b5::r)=if b0≠90\/b1≠165 then (⟨2,0,[]⟩,1,true) else if 200<b4*256+b5 then (⟨7,0,[]⟩,1,true) else if (r.length:Int)<b4*256+b5+4 then (⟨0,0,[]⟩,0,false) else if Ww (b2::b3::b4::b5::r.take (b4*256+b5).toNat)≠Arr ((r.drop (b4*256+b5).toNat).take 4) then (⟨4,0,[]⟩,1,true) else if b2≠1 then (⟨3,0,[]⟩,b4*256+b5+10,true) else if b3<1\/22<b3 then (⟨5,0,[]⟩,b4*256+b5+10,true) else (⟨0,b3,r.take (b4*256+b5).toNat⟩,b4*256+b5+10,true):=rfl
theorem Apa {k:Int} {p:List Int} (r:List Int) (hk:1<=k/\k<=22) (hp:p.length<=200):Fg (Ig k p++r)=(⟨0,k,p⟩,(p.length:Int)+10,true):=by
 have e1:IntKind.u8.wrap k=k:=Ale (by omega)
 have e2:IntKind.u8.wrap ((p.length:Int).fdiv (2 ^ min 8 64))=0:=by
  rw[Int.fdiv_eq_ediv_of_nonneg _ (by decide),show ((p.length:Int) / 2 ^ min 8 64)=0 by show (p.length:Int) / 256=0;omega];rfl
 have e3:IntKind.u8.wrap (p.length:Int)=p.length:=Ale (by omega)
 obtain⟨hn,hl⟩:=Asc (Asg ([1,k,0,(p.length:Int)]++p))
 unfold Ig I0
 rw[e1,e2,e3,show ([90,165,1,k,0,(p.length:Int)]:List Int).drop 2=[1,k,0,(p.length:Int)] from rfl]
 generalize hT:Kg (Ww ([1,k,0,(p.length:Int)]++p))=T at hn hl
 rw[show [90,165,1,k,0,(p.length:Int)]++p++T++r=90::165::1::k::0::(p.length:Int)::(p++(T++r)) by simp]
 have h0:(0:Int)*256+(p.length:Int)=p.length:=by omega
 rw[Asd,if_neg (by decide),h0,if_neg (by omega),if_neg (by simp;omega),Int.toNat_natCast,List.take_left,List.drop_left,show (T++r).take 4=T by rw[<- hl,List.take_left],hn,if_neg (by simp),if_neg (by decide),if_neg (by omega)]
theorem Acv (k:Int) (p:List Int):(Ig k p).length=p.length+10:=by simp[Ig,I0,Kg]
theorem Amr:∀(L:List (Int×List Int)) (n:Nat),(∀x∈L,(1<=x.1/\x.1<=22)/\x.2.length<=200)->L.length<=n->Afn n (L.map fun x=>Ig x.1 x.2).flatten=L.map fun x=>(⟨0,x.1,x.2⟩,(x.2.length:Int)+10)
 | [],0,_,_=>rfl
 | [],n+1,_,_=>rfl
 | x::L,0,_,h=>by simp at h
 | x::L,n+1,hx,h=>by
  have h1:=hx x (List.mem_cons_self ..)
  have e:=Apa (L.map fun x=>Ig x.1 x.2).flatten h1.1 h1.2
  rw[List.map_cons,List.flatten_cons,Afn,Un,e,if_pos rfl,List.map_cons]
  have hd:(Ig x.1 x.2++(L.map fun x=>Ig x.1 x.2).flatten).drop ((x.2.length:Int)+10).toNat=(L.map fun x=>Ig x.1 x.2).flatten:=by
   rw[show ((x.2.length:Int)+10).toNat=(Ig x.1 x.2).length by rw[Acv];omega,List.drop_left]
  simp only[]
  rw[hd,Amr L n (fun y hy=>hx y (List.mem_cons_of_mem _ hy)) (by simpa using h)]
theorem Aqm:∀(L:List (Int×List Int)),L.length<=(L.map fun x=>Ig x.1 x.2).flatten.length
 | []=>Ae _
 | x::L=>by
  have h:=Aqm L
  rw[List.map_cons,List.flatten_cons,Bo,Acv,A6]
  omega
theorem Aro {L:List (Int×List Int)} (h:∀x∈L,(1<=x.1/\x.1<=22)/\x.2.length<=200):Kk (L.map fun x=>Ig x.1 x.2).flatten=L.map fun x=>(⟨0,x.1,x.2⟩,(x.2.length:Int)+10):=Amr L _ h (Aqm L)
theorem Amq:∀(n:Nat) (b:List Int),(Afn n b).length<=n
 | 0,_=>Aj _
 | n+1,b=>by
  rw[Afn]
  split
  ·simp[Amq n]
  simp
theorem Abm (b:List Int):(Kk b).length<=b.length:=Amq _ _
theorem Afz {l:List Ff} {a:Ff} {n:Nat} (h:∀x∈l,x.pay.length<=n) (ha:a.pay.length<=n):∀x∈l++[a],x.pay.length<=n:=fun x hx=>by
 rcases A0.1 hx with h1 | h1
 ·exact h x h1
 rw[An.1 h1];exact ha
section
variable (k:Int)
include k
theorem Tv:Ct 73 [.lit (.int .i64 k)] (fun d:Bool=>.lit (.bool d)) (fun d=>d=false):=by
 refine Er Tryz.func73 ?_
 iterate 2 refine Bq ?_
 exact .ret (Ep Dy false rfl)
def Z4:Bool:=(Em (Tv k)).choose
theorem Aji:PP 73 [] [.lit (.int .i64 k)] [] (.lit (.bool (Z4 k))):=(Em (Tv k)).choose_spec.1
theorem Aj6:(Z4 k)=false:=(Em (Tv k)).choose_spec.2
theorem T6:PP 73 [] [.lit (.int .i64 k)] [] (.lit (.bool false)):=by
 have h:=Aji k
 rwa[Aj6] at h
end
theorem Agr (s:Tn) (u:Unit) (hl:s.buf.length<=1000000) (hb:By s.buf):Ct 72 [s.g,.fn 73 []] (fun d:Tn×List Ff=>.tup [d.1.g,.mItem d.2]) (fun d=>d.2.length<=s.buf.length/\(∀x∈d.2,x.pay.length<=s.buf.length)/\TkR (s.buf.length+1) s d):=by
 refine Er Tryz.func72 ?_
 refine Bq ?_
 refine VX.scope ?_
 refine Bq ?_
 refine VX.D<|.seq ?_
 refine VX.label ?_
 refine Ca<|.L Dy (U3 s.buf)<|.block ?_
 refine Ck 3 0 116 3 (by decide) rfl rfl ?_
 simp[go_sem,-Prod.exists]
 refine Cz (s':=⟨[(2,.ptr 0 0),(3,.ptr 1 0),(4,.ptr 2 0),(6,.ptr 3 0),(7,.ptr 4 0),(8,.ptr 5 0),(15,.fn 139 [.iptr false [.sl 1 (tY s.buf)] 0])],(fun (y1:Int×Bool×(List Ff))=>[.box 98 [.mY s.buf,.lit (.bool s.gar)],.box 169 [.fn 73 []],.box 98 [.nil 1,.lit (.bool false)],.box 113 [.own 6 y1.2.2.length],.box 3 [.lit (.int .i64 y1.1)],.box 4 [.lit (.bool y1.2.1)],.row 116 3 false false (X4 y1.2.2)]) (0,s.gar,[])⟩) (wQ [0,1,2,3,4,5,6] ?_ ?_) ?_
 ·simp[go_sem]
 ·simp[go_sem]
 refine Dh (Ace s.buf (by omega) hb) (fun (y1:Int×Bool×(List Ff))=>[.box 98 [.mY s.buf,.lit (.bool s.gar)],.box 169 [.fn 73 []],.box 98 [.nil 1,.lit (.bool false)],.box 113 [.own 6 y1.2.2.length],.box 3 [.lit (.int .i64 y1.1)],.box 4 [.lit (.bool y1.2.1)],.row 116 3 false false (X4 y1.2.2)]) 7 (fun _=>rfl) (by rfl) (fun _=>Qf rfl) (by decide) ?_ (fun j1 y1=>y1.1=Tf s.buf j1/\y1.2.2.length<=j1/\(∀x∈y1.2.2,x.pay.length<=s.buf.length)/\Md (s.buf.length+1) ((Kk s.buf).drop j1) y1.1 y1.2.1 y1.2.2=Md (s.buf.length+1) (Kk s.buf) 0 s.gar []) (0,s.gar,[]) (⟨rfl,by simp,(fun x h=>by cases h),rfl⟩) (fun j1 vs y1 hj1 hy1=>?_) (fun y1 hy1=>?_)
 ·intro vs hvs
  obtain⟨a,_,rfl⟩:=A4.1 hvs
  simp[go_sem]
 ·
  obtain⟨a1,ha1,rfl⟩:=Ee hj1
  have hjl:j1<(Kk s.buf).length:=(Ab.1 ha1).1
  have hjb:=Abm s.buf
  have hg:=Wp _ _ _ _ ha1
  have ho:=Te hb (k:=j1+1) (by omega)
  have ho0:=Te hb (k:=j1) (by omega)
  have hrl:=Abl hb (k:=j1) (by omega)
  have hsz:Tf s.buf (j1+1)=y1.1+a1.2:=by rw[Tf,hy1.1,hg.2]
  have hpy:a1.1.pay.length<=s.buf.length:=by rw[hg.2];exact Ak (Acu _) (by omega)
  refine Bq ?_
  refine Ci ?_
  refine⟨rfl,?_⟩
  refine Db ?_
  have hw1:=Dw (y1.1+a1.2:Int)
  refine Bu hw1<|.seq ?_
  refine Bu hw1<|.block ?_
  refine Bu hw1 ?_
  refine Br ?_ ?_<;>intro h23
  ·refine Ca<|.H hw1 ?_
   refine Br ?_ ?_<;>intro h25
   ·refine Bt ?_
    refine⟨((y1.1+a1.2),y1.2.1,y1.2.2),?_,⟨[0,1,2,3,4,5,6],El (by decide) ?_ ?_,Fv rfl⟩⟩
    ·exact⟨hsz.symm,by dsimp only;omega,hy1.2.2.1,(Ru ha1 h23 h25).symm.trans hy1.2.2.2⟩
    ·simp[go_sem]
    simp[go_sem,hw1]
   refine Bp<|.H1 hw1 ?_
   refine Bu hw1 ?_
   refine B3 (fun K kk=>by simp[go_sem,hw1];refine .lo (T6 _) rfl (by simp[AV.cln,Fb]) ?_;simp[go_sem,hw1];exact kk) ?_
   refine Cl ?_ ?_<;>intro h36<;>simp[go_sem] at h36
   refine Bp ?_
   refine⟨((y1.1+a1.2),true,y1.2.2++([a1.1])),?_,⟨[0,1,2,3,4,5,6],El (by decide) ?_ ?_,Fv rfl⟩⟩
   ·first | exact⟨hsz.symm,by dsimp only;omega,hy1.2.2.1,(Ru ha1 h23 h25).symm.trans hy1.2.2.2⟩ | exact⟨hsz.symm,by simp;omega,Afz hy1.2.2.1 hpy,(Xb ha1 (by (simp[h23,h25];done)) (by (simp[h23];done)) (by simp;omega)).symm.trans hy1.2.2.2⟩
   ·simp[go_sem]
   simp[go_sem,hw1]
  refine Ce (by rfl) fun K1 hK1=>?_
  simp[go_sem]
  refine hK1 _ ⟨_,_,_,_,_,_,_,_,rfl,.one (by decide) rfl rfl,by decide,rfl,by simp[go_sem];rfl,by simp[go_sem];rfl,by simp[go_sem],?_⟩;clear hK1
  refine Br ?_ ?_<;>intro h26
  ·refine B0 hw1 ?_
   refine Bu hw1 ?_
   refine B3 (fun K kk=>by simp[go_sem,hw1];refine .lo (T6 _) rfl (by simp[AV.cln,Fb]) ?_;simp[go_sem,hw1];exact kk) ?_
   refine Cl ?_ ?_<;>intro h36<;>simp[go_sem] at h36
   refine Bp ?_
   refine⟨((y1.1+a1.2),true,y1.2.2++([a1.1])),?_,⟨[0,1,2,3,4,5,6],El (by decide) ?_ ?_,Fv rfl⟩⟩
   ·first | exact⟨hsz.symm,by dsimp only;omega,hy1.2.2.1,(Ru ha1 h23 h25).symm.trans hy1.2.2.2⟩ | exact⟨hsz.symm,by simp;omega,Afz hy1.2.2.1 hpy,(Xb ha1 (by first | (simp[h23,h25];done) | (simp[h23];done)) (by first | (simp[h23];done) | (rcases h26 with h | h<;>(simp[h];done))) (by simp;omega)).symm.trans hy1.2.2.2⟩
   ·simp[go_sem]
   simp[go_sem,hw1]
  refine B0 hw1 ?_
  refine Bu hw1 ?_
  refine B3 (fun K kk=>by simp[go_sem,hw1];refine .lo (T6 _) rfl (by simp[AV.cln,Fb]) ?_;simp[go_sem,hw1];exact kk) ?_
  refine Cl ?_ ?_<;>intro h36<;>simp[go_sem] at h36
  refine Bp ?_
  refine⟨((y1.1+a1.2),false,y1.2.2++([a1.1])),?_,⟨[0,1,2,3,4,5,6],El (by decide) ?_ ?_,Fv rfl⟩⟩
  ·first | exact⟨hsz.symm,by dsimp only;omega,hy1.2.2.1,(Ru ha1 h23 h25).symm.trans hy1.2.2.2⟩ | exact⟨hsz.symm,by simp;omega,Afz hy1.2.2.1 hpy,(Xb ha1 (by first | (simp[h23,h25];done) | (simp[h23];done)) (by first | (simp[h23];done) | (rcases h26 with h | h<;>(simp[h];done)) | (simp[h23,h26];done)) (by simp;omega)).symm.trans hy1.2.2.2⟩
  ·simp[go_sem]
  simp[go_sem,hw1]
 -- done
 simp only[A2] at hy1
 have hjb:=Abm s.buf
 have ho:=Te hb (k:=(Kk s.buf).length) (Aj _)
 refine Cw (fun K kk=>by simp[go_sem];(repeat refine aK ?_);refine .lo cB rfl (by simp[AV.cln,Fb]) ?_;simp[go_sem];exact kk) ?_
 refine B2 Dy 6 ?_
 exact .ret (Ep Dy (⟨s.buf.drop y1.1.toNat,y1.2.1⟩,y1.2.2) ⟨by have:=hy1.2.1;dsimp only;omega,hy1.2.2.1,_,hy1.2.2.2.symm.trans (by rw[List.drop_eq_nil_of_le (by simp)];rfl),rfl⟩)
section
variable (b:List Int) (hl:b.length<=1000000) (hb:By b)
include hl hb
theorem Tu:Ct 49 [.mY b] (fun d:List Ff=>.mItem d) (fun d=>d.length<=b.length/\(∀x∈d,x.pay.length<=b.length)/\d=(Md ((b.length:Int)+1) (Kk b) 0 false []).2.2):=by
 refine Er Tryz.func49 ?_
 obtain⟨Y1,cY1,qY1⟩:=Em (Agr ⟨b,false⟩ () hl hb)
 have hQ:=qY1
 refine Bq ?_
 refine B8 Dy cY1 ?_
 refine Bq ?_
 exact .ret (Ep Dy Y1.2 ⟨hQ.1,hQ.2.1,by obtain⟨u,h,_⟩:=hQ.2.2;exact (congrArg (fun x=>x.2.2) h).symm⟩)
def Nc:List Ff:=(Em (Tu b hl hb)).choose
theorem Ajh:PP 49 [] [.mY b] [] (.mItem (Nc b hl hb)):=(Em (Tu b hl hb)).choose_spec.1
theorem Z7:(Nc b hl hb).length<=b.length/\(∀x∈(Nc b hl hb),x.pay.length<=b.length)/\(Nc b hl hb)=(Md ((b.length:Int)+1) (Kk b) 0 false []).2.2:=(Em (Tu b hl hb)).choose_spec.2
end
section
variable (m:D0) (h1:m.tok.length<=10000) (h2:m.args.length<=10000) (h3:m.data.length<=10000)
include h1 h2 h3
theorem Rh:Ct 51 [m.g] (fun d:Bool=>.lb d) (fun d=>d=true->(Fz m h1 h2 h3).length<=200):=by
 refine Er Tryz.func51 ?_
 have hv:=J1 m.kind
 have hq0:=J4 m.kind
 generalize Ed m.kind=S at hv hq0
 refine Bq<|.seq ?_
 refine Bq ?_
 refine Br ?_ ?_<;>intro h14
 ·refine Bq ?_
  refine Bz (Fk ?_);simp[go_sem]
  exact⟨false,by rfl,(by exact fun h=>Bool.noConfusion h)⟩
 refine Bp<|.L Dy (hv) ?_
 refine Bq<|.seq<|.block ?_
 refine Do (fun s=>∃(w24:Bool),s=⟨[(1,.ptr 0 0),(3,.ptr 1 0),(4,.li (IntKind.i64.wrap (m.args.length - S.fix))),(24,.lb w24)],[.box 56 (m.a false),.box 177 [.li S.fix,.li S.grp,.li S.lea,.li S.mos,.li S.dat]]⟩) ?_ ?_
 ·refine B8 Dy (Jt m.kind) ?_
  refine Br ?_ ?_<;>intro h24
  ·refine Bp ?_
   refine⟨[0,1],_,El (by decide) ?_ ?_,by simp,((Hu m.kind)&&((m.tok.length:Int) != 10)),rfl⟩
   all_goals simp[go_sem]
  refine Dr Dy (Jt m.kind) ?_
  refine⟨[0,1],_,El (by decide) ?_ ?_,by simp,(!(Hu m.kind)&&((m.tok.length:Int) != 0)),rfl⟩
  all_goals simp[go_sem]
 rintro _ ⟨w24,rfl⟩
 refine Br ?_ ?_<;>intro h24
 ·refine Bq ?_
  refine Bz (Fk ?_);simp[go_sem]
  exact⟨false,by rfl,(by exact fun h=>Bool.noConfusion h)⟩
 refine Do (fun s=>∃(w44:Bool),s=⟨[(1,.ptr 0 0),(3,.ptr 1 0),(44,.lb w44)],[.box 56 (m.a false),.box 177 [.li S.fix,.li S.grp,.li S.lea,.li S.mos,.li S.dat]]⟩) ?_ ?_
 ·refine Bq ?_
  refine Br ?_ ?_<;>intro h44
  ·refine Bp ?_
   refine⟨[0,1],_,El (by decide) ?_ ?_,by simp,(((S.grp:Int) == 0)&&(((IntKind.i64.wrap (m.args.length - S.fix)):Int) != 0)),rfl⟩
   all_goals simp[go_sem]
  refine B0 Dy ?_
  refine⟨[0,1],_,El (by decide) ?_ ?_,by simp,(decide ((0:Int)<S.grp)&&((decide (((IntKind.i64.wrap (m.args.length - S.fix)):Int)<(IntKind.i64.wrap (S.grp*S.lea)))||decide (((IntKind.i64.wrap (S.grp*S.mos)):Int)<(IntKind.i64.wrap (m.args.length - S.fix))))||(((Int.tmod (IntKind.i64.wrap (m.args.length - S.fix)) S.grp):Int) != 0))),rfl⟩
  all_goals simp[go_sem]
 rintro _ ⟨w44,rfl⟩
 refine Br ?_ ?_<;>intro h44
 ·refine Bq ?_
  refine Bz (Fk ?_);simp[go_sem]
  exact⟨false,by rfl,(by exact fun h=>Bool.noConfusion h)⟩
 refine Do (fun s=>∃(w80:Bool),s=⟨[(1,.ptr 0 0),(80,.lb w80)],[.box 56 (m.a false),.box 177 [.li S.fix,.li S.grp,.li S.lea,.li S.mos,.li S.dat]]⟩) ?_ ?_
 ·refine Bq ?_
  refine Br ?_ ?_<;>intro h80
  ·refine Bp ?_
   refine⟨[0,1],_,El (by decide) ?_ ?_,by simp,(decide ((0:Int)<=S.dat)&&((m.data.length:Int) != S.dat)),rfl⟩
   all_goals simp[go_sem]
  refine Ci ?_
  refine⟨[0,1],_,El (by decide) ?_ ?_,by simp,decide ((200:Int)<m.data.length),rfl⟩
  all_goals simp[go_sem]
 rintro _ ⟨w80,rfl⟩
 refine Br ?_ ?_<;>intro h80
 ·refine Bq ?_
  refine Bz (Fk ?_);simp[go_sem]
  exact⟨false,by rfl,(by exact fun h=>Bool.noConfusion h)⟩
 refine Bp<|.seq<|.R<|.block ?_
 refine Bs m.args.length (fun i1 (y1:Unit)=>⟨[(1,.ptr 0 0),(97,.mI m.args),(98,.li m.args.length),(99,.li i1)],[.box 56 (m.a false)]⟩) (fun i1 y1=>True) () (wQ [0] ?_ ?_) (trivial) fun i1 y1 hi1 hy1=>?_
 ·simp[go_sem]
 ·simp[go_sem]
 refine Bq<|.seq ?_
 refine Br ?_ ?_<;>intro h100
 ·refine Bp<|.seq<|.block ?_
  obtain⟨e1,H1⟩:=gx m.args i1
  refine Bu H1 ?_
  refine Bu H1 ?_
  refine Br ?_ ?_<;>intro h108
  ·refine Bu H1 ?_
   refine Bz (Fk ?_);simp[go_sem,H1]
   exact⟨false,by rfl,(by exact fun h=>Bool.noConfusion h)⟩
  refine Bp<|.H1 H1 ?_
  refine⟨by omega,(),?_,wQ [0] ?_ ?_⟩
  ·trivial
  all_goals simp[go_sem,Dw ((i1:Int)+1),H1]
 refine Bt<|.L Dy (Kh m h1 h2 h3) ?_
 refine Bz (Fk ?_);simp[go_sem]
 exact⟨decide ((((Fz m h1 h2 h3).length):Int)<=200),by rfl,(by first | exact fun h=>Bool.noConfusion h | exact fun h=>by (have:=of_decide_eq_true h;omega))⟩
theorem Qo:Ct 67 [m.g] (fun d:List Int×Int=>.tup [.mY d.1,.li d.2]) (fun d=>d.1.length<=200/\(By m.tok->By m.data->By d.1)):=by
 refine Er Tryz.func67 ?_
 refine Bq<|.seq ?_
 obtain⟨Y1,cY1,qY1⟩:=Em (Rh m h1 h2 h3)
 refine B8 Dy cY1 ?_
 refine Br ?_ ?_<;>intro h6
 ·refine Bq ?_
  exact .ret (Ep Dy ([],6) (by exact⟨Ae _,fun _ _=>Nq⟩))
 refine Bp<|.L Dy (Kh m h1 h2 h3) ?_
 exact .ret (Ep Dy ((Fz m h1 h2 h3),0) (by first | exact⟨Ae _,fun _ _=>Nq⟩ | exact⟨qY1 (by simpa using h6),(Qe m h1 h2 h3).1⟩))
end
theorem J0 (n:Int):Ct 77 [.lit (.int .i64 n)] (fun d:Bool=>.lit (.bool d)) (fun d=>d=(decide (1<=n)&&decide (n<=12))):=by
 refine Er Tryz.func77 ?_
 iterate 2 refine Bq ?_
 exact .ret (Ep Dy (decide ((1:Int)<=n)&&decide ((n:Int)<=12)) rfl)
def Nf (n:Int):Bool:=(Em (J0 n)).choose
theorem T9 (n:Int):PP 77 [] [.lit (.int .i64 n)] [] (.lit (.bool (Nf n))):=(Em (J0 n)).choose_spec.1
theorem Uj (n:Int):(Nf n)=(decide (1<=n)&&decide (n<=12)):=(Em (J0 n)).choose_spec.2
theorem Aev {n:Int} (h:13<=n):PP 77 [] [.lit (.int .i64 n)] [] (.lit (.bool false)):=by
 have e:=T9 n
 rwa[Uj,show (decide (1<=n)&&decide (n<=12))=false by simp;omega] at e
theorem Aun {k:Int} {s:Gt} (h:Vf k=some s):13<=k/\k<=20/\s.tok=0/\0<=s.fix/\s.fix<=4/\0<=s.grp/\s.grp<=3/\s.lea=0/\0<=s.mos/\s.mos<=16 /\ -1<=s.dat:=by
 unfold Vf at h
 repeat' split at h
 all_goals first | (cases h;done) | (cases h;refine⟨by omega,by omega,rfl,?_⟩;decide)
structure A25 (m:D0) (s:Gt):Prop where
  tok:m.tok.length=0
  dat:s.dat = -1\/(m.data.length:Int)=s.dat
  dl:m.data.length<=200
  g0:s.grp=0->(m.args.length:Int)=s.fix
  g1:0<s.grp->0<=(m.args.length:Int) - s.fix/\(m.args.length:Int) - s.fix<=s.grp*s.mos/\((m.args.length:Int) - s.fix).tmod s.grp=0
  rng:viR m.args
  gm:0<=s.grp*s.mos/\s.grp*s.mos<=48
  len:m.tok.length+Yk m.args+(if 0<s.grp then 1 else 0)+m.data.length<=200
theorem A0t {m:D0} {s:Gt} (hs:Vf m.kind=some s) (ho:Np m):A25 m s:=by
 have hb:=Aun hs
 have hsh:=(Ic m.kind).1.2 s hs
 obtain⟨h1,h2,h3,h4,h5,h6,h7⟩:=ho
 rw[hsh] at h2 h3 h4 h7
 dsimp only at h2 h3 h4 h7
 have hgm:0<=s.grp*s.mos/\s.grp*s.mos<=48:=⟨Int.mul_nonneg (by omega) (by omega),by show s.grp*s.mos<=3*16;exact Int.mul_le_mul (by omega) (by omega) (by omega) (by decide)⟩
 have hal:(msArgs s m.args).length=Yk m.args+(if 0<s.grp then 1 else 0)/\(0<s.grp->0<=(m.args.length:Int) - s.fix/\(m.args.length:Int) - s.fix<=s.grp*s.mos/\((m.args.length:Int) - s.fix).tmod s.grp=0):=by
  by_cases hg:0<s.grp
  ·unfold msArgs
   unfold Q9 at h4 ⊢
   rw[if_neg (by omega)] at h4
   rw[if_pos hg,if_pos hg,if_neg (by omega)]
   split at h4
   ·cases h4
   rename_i hn
   rw[if_neg hn]
   have h4:s.lea<=((m.args.length:Int) - s.fix).tdiv s.grp/\((m.args.length:Int) - s.fix).tdiv s.grp<=s.mos:=by simpa using h4
   have hmod:((m.args.length:Int) - s.fix).tmod s.grp=0:=by
    by_cases hz:((m.args.length:Int) - s.fix).tmod s.grp=0
    ·exact hz
    exact absurd (.inr hz) hn
   have hdv:=Int.mul_tdiv_add_tmod ((m.args.length:Int) - s.fix) s.grp
   rw[hmod,Int.add_zero] at hdv
   have hnn:0<=((m.args.length:Int) - s.fix).tdiv s.grp:=Int.tdiv_nonneg (by omega) (by omega)
   have hle:=Int.mul_le_mul_of_nonneg_left h4.2 (show 0<=s.grp by omega)
   refine⟨?_,fun _=>⟨by omega,by omega,hmod⟩⟩
   have hv:(Gj (((m.args.length:Int) - s.fix).tdiv s.grp)).2=0:=by unfold Gj;rw[if_neg (by omega)]
   have hl:=(Yl hv).1
   rw[show vnl (((m.args.length:Int) - s.fix).tdiv s.grp)=1 by unfold vnl;rw[if_pos (by omega)]] at hl
   simp only[Bo,hl,R3 (Ym h6 _),R3 (Qx h6 _)]
   have:Yk (m.args.take s.fix.toNat)+Yk (m.args.drop s.fix.toNat)=Yk m.args:=by
    unfold Yk
    rw[<- List.sum_append,<- List.map_append,List.take_append_drop]
   omega
  unfold msArgs
  rw[if_neg hg,if_neg hg,R3 h6]
  exact⟨rfl,fun h=>absurd h hg⟩
 refine⟨by omega,h3,h5,fun hg=>?_,hal.2,fun a ha=>(Yl (h6 a ha)).2,hgm,?_⟩
 ·unfold Q9 at h4
  rw[if_pos hg] at h4
  simpa using h4
 simp only[Bo,hal.1] at h7
 omega
section
variable (m:D0) (h1:m.tok.length<=10000) (h2:m.args.length<=10000) (h3:m.data.length<=10000) (s:Gt) (hs:Vf m.kind=some s) (ho:Np m)
include h1 h2 h3 hs ho
theorem Yg:Ct 51 [m.g] (fun d:Bool=>.lit (.bool d)) (fun d=>d=true):=by
 refine Er Tryz.func51 ?_
 have hP:=A0t hs ho
 have hb:=Aun hs
 obtain⟨p1,p2,p3,p4,p5,p6,p7,p8⟩:=hP
 have hv:=J1 m.kind
 have hof:=(J4 m.kind).2.2.2.2.2.2.2.2.2.2 s hs
 obtain⟨Y1,cY1,qY1⟩:=Em (Hb m h1 h2 h3)
 have hpl:=qY1.2 p6 (by rw[hof];intro hg;have:=p5 hg;show s.fix<=(m.args.length:Int);omega)
 rw[hof] at hv hpl
 have hz:Y1.length<=200:=by rw[hpl];exact p8
 have hlz:s.grp*s.lea=0:=by rw[hb.2.2.2.2.2.2.2.1,Int.mul_zero]
 have hwl:IntKind.i64.wrap (s.grp*s.lea)=0:=by rw[hlz];rfl
 have hwm:=Dw (s.grp*s.mos)
 have hge:0<=(m.args.length:Int) - s.fix:=by by_cases hg:0<s.grp;exact (p5 hg).1;have:=p4 (by omega);omega
 have hwf:=Dw ((m.args.length:Int) - s.fix)
 refine B3 (fun K kk=>by simp[go_sem,hwl,hwm,hwf,p1];exact kk)<|.seq ?_
 refine B3 (fun K kk=>by simp[go_sem,hwl,hwm,hwf,p1];exact kk) ?_
 refine Cl ?_ ?_<;>intro h14<;>simp[go_sem] at h14
 ·exfalso;omega
 refine Bp<|.S (fun K kk=>by simp[go_sem,hwl,hwm,hwf,p1];refine .l (hv) ?_;simp[go_sem,hwl,hwm,hwf,p1];exact kk) ?_
 refine B3 (fun K kk=>by simp[go_sem,hwl,hwm,hwf,p1];exact kk)<|.seq<|.block<|.seq ?_
 refine B3 (fun K kk=>by simp[go_sem,hwl,hwm,hwf,p1];refine .l (Aev hb.1) ?_;simp[go_sem,hwl,hwm,hwf,p1];exact kk) ?_
 refine Cl ?_ ?_<;>intro h24<;>simp[go_sem,p1] at h24
 refine Cg (fun K kk=>by simp[go_sem,hwl,hwm,hwf,p1];refine .l (Aev hb.1) ?_;simp[go_sem,hwl,hwm,hwf,p1];exact kk) ?_
 refine Cl ?_ ?_<;>intro h24_2<;>simp[go_sem,p1] at h24_2
 refine Ca<|.S (fun K kk=>by simp[go_sem,hwl,hwm,hwf,p1];exact kk) ?_
 refine Cl ?_ ?_<;>intro h44<;>simp[go_sem] at h44
 ·exfalso;omega
 refine Cg (fun K kk=>by simp[go_sem,hwl,hwm,hwf,p1];repeat first | exact kk | refine aK ?_) ?_
 refine Cl ?_ ?_<;>intro h44_2<;>simp[go_sem] at h44_2
 ·exfalso;omega
 refine Ca<|.S (fun K kk=>by simp[go_sem,hwl,hwm,hwf,p1];exact kk) ?_
 refine Cl ?_ ?_<;>intro h80<;>simp[go_sem] at h80
 ·exfalso;omega
 refine Cg (fun K kk=>by simp[go_sem,hwl,hwm,hwf,p1];exact kk) ?_
 refine Cl ?_ ?_<;>intro h80_2<;>simp[go_sem] at h80_2
 ·exfalso;omega
 refine Bp<|.seq<|.S (fun K kk=>by simp[go_sem,hwl,hwm,hwf,p1];exact kk)<|.block ?_
 refine Bs m.args.length (fun i1 (y1:Unit)=>⟨[(1,.ptr 0 0),(97,.mI m.args),(98,.lit (.int .i64 m.args.length)),(99,.lit (.int .i64 i1))],[.box 56 (m.a false)]⟩) (fun i1 y1=>True) () (wk Dy [0]) (trivial) fun i1 y1 hi1 hy1=>?_
 refine B3 (fun K kk=>by simp[go_sem,hwl,hwm,hwf,p1];exact kk)<|.seq ?_
 refine Br ?_ ?_<;>intro h100
 ·refine Bp<|.seq<|.block ?_
  obtain⟨e1,H1⟩:=gx m.args i1
  refine B3 (fun K kk=>by simp[go_sem,hwl,hwm,hwf,p1,H1];repeat first | exact kk | refine aK ?_) ?_
  refine B3 (fun K kk=>by simp[go_sem,hwl,hwm,hwf,p1,H1];exact kk) ?_
  refine Br ?_ ?_<;>intro h108
  ·refine B3 (fun K kk=>by simp[go_sem,hwl,hwm,hwf,p1,H1];exact kk) ?_
   refine Bz (Fk ?_);simp[go_sem,hwl,hwm,hwf,p1,H1]
   exact⟨false,by rfl,(absurd (p6 _ (Ac H1)) (by omega))⟩
  refine Bp<|.S1 (fun K kk=>by simp[go_sem,hwl,hwm,hwf,p1,H1];exact kk) ?_
  exact⟨by omega,(),trivial,wk (Fa (Dw ((i1:Int)+1)) H1) [0]⟩
 refine Bt<|.S (fun K kk=>by simp[go_sem,hwl,hwm,hwf,p1];refine .l cY1 ?_;simp[go_sem,hwl,hwm,hwf,p1];exact kk) ?_
 refine Bz (Fk ?_);simp[go_sem,hwl,hwm,hwf,p1]
 exact⟨decide (((Y1.length):Int)<=200),by rfl,(by show decide _=true;exact decide_eq_true (by omega))⟩
def Afk:Bool:=(Em (Yg m h1 h2 h3 s hs ho)).choose
theorem Aoe:PP 51 [] [m.g] [] (.lit (.bool (Afk m h1 h2 h3 s hs ho))):=(Em (Yg m h1 h2 h3 s hs ho)).choose_spec.1
theorem Aox:(Afk m h1 h2 h3 s hs ho)=true:=(Em (Yg m h1 h2 h3 s hs ho)).choose_spec.2
end
section
structure Xt (m:D0):Prop where
  sh:∃s,Vf m.kind=some s
  ok:Np m
  h1:m.tok.length<=10000
  h2:m.args.length<=10000
  h3:m.data.length<=10000
variable {m:D0}
theorem Xt.rng (h:Xt m):13<=m.kind/\m.kind<=20:=by
 obtain⟨s,hs⟩:=h.sh
 have:=Aun hs
 omega
theorem Anb (h:Xt m):Nt m=Ig m.kind (Kl m).1:=by
 have hr:=h.rng
 have hq:=(L4 m h.h1 h.h2 h.h3).2.2.1 h.ok
 have hl:=Ti m
 have he:P5 m.kind (Kl m).1=(Ig m.kind (Kl m).1,0):=by
  unfold P5
  rw[if_neg (by omega),if_neg (by omega)]
 rw[he] at hq
 rw[Aed h.h1 h.h2 h.h3 (by rw[hq]),hq]
def itM (m:D0):Ff:=⟨0,m.kind,(Kl m).1⟩
theorem Ah4:∀(L:List D0) (n u:Int) (l:List Ff),(l.length+L.length:Int)<n->(Md n (L.map fun m=>(itM m,((Kl m).1.length:Int)+10)) u false l).2.2=l++L.map itM
 | [],n,u,l,_=>by simp[Md]
 | m::L,n,u,l,h=>by
  rw[List.map_cons,Md]
  rw[A6] at h
  have e1:¬((itM m).code=2/\false=true):=by simp
  have e2:((itM m).code == 2||(itM m).code == 7||(itM m).code == 4)=false:=rfl
  simp only[]
  rw[if_neg e1,if_neg (by rw[Bo,List.length_singleton];omega),e2,Ah4 L n _ _ (by rw[Bo,List.length_singleton];omega)]
  simp
variable {L:List D0}
theorem Aik (h:∀m∈L,Xt m):Kk (L.map Nt).flatten=L.map fun m=>(itM m,((Kl m).1.length:Int)+10):=by
 have e:L.map Nt=(L.map fun m=>(m.kind,(Kl m).1)).map fun x=>Ig x.1 x.2:=by
  rw[List.map_map]
  exact List.map_congr_left fun m hm=>Anb (h m hm)
 rw[e,Aro (fun x hx=>by
  obtain⟨m,hm,rfl⟩:=A4.1 hx
  have:=(h m hm).rng
  exact⟨⟨by dsimp only;omega,by dsimp only;omega⟩,Ti m⟩),List.map_map]
 rfl
theorem Aqw {b:List Int} (h:∀m∈L,Xt m) (hb:b=(L.map Nt).flatten) (hl:b.length<=1000000) (hB:By b):Nc b hl hB=L.map itM:=by
 have hn:=Abm b
 rw[(Z7 b hl hB).2.2]
 rw[hb,Aik h] at hn ⊢
 rw[A2] at hn
 rw[Ah4 L _ _ _ (by rw[List.length_nil];omega)]
 rfl
theorem Aqq (h:Xt m) (hp:(Kl m).1.length<=1000000):E6 m.kind (Kl m).1 hp=(m,0):=by
 refine (Td m.kind (Kl m).1 hp).2 m rfl h.ok ?_
 rw[<- List.append_assoc]
 exact congrArg Prod.fst (if_pos h.ok)
section
variable (b:List Int) (L:List D0) (hL:∀m∈L,Xt m) (hb:b=(L.map Nt).flatten) (hl:b.length<=1000000) (hB:By b)
include hL hb hl hB
theorem Jx:Ct 24 [.mY b] (fun d:List D0×Bool=>.tup [.mMsg d.1,.lit (.bool d.2)]) (fun d=>d=(L,true)):=by
 refine Er Tryz.func24 ?_
 have hAv:=Ajh b hl hB
 obtain⟨A,hA⟩:∃A,A=L.map itM:=⟨_,rfl⟩
 have hAL:A.length=L.length:=by rw[hA,A2]
 rw[Aqw hL hb hl hB,<- hA] at hAv
 have hLn:L.length<=1000000:=by have h:=(Z7 b hl hB).1;rw[Aqw hL hb hl hB,A2] at h;omega
 refine Bq ?_
 refine Bq<|.seq ?_
 refine B8 Dy (hAv)<|.block ?_
 refine Cf 4 56 4 (by decide) (k':=4) (by simp[go_sem]) ?_
 simp[go_sem,-Prod.exists]
 refine Bs A.length (fun i1 (y1:(List D0))=>⟨[(4,.own 0 y1.length),(10,.mItem A),(11,.lit (.int .i64 A.length)),(12,.lit (.int .i64 i1))],[.row 56 4 false false (Q4 y1)]⟩) (fun i1 y1=>y1=L.take i1/\y1.length<=i1) ([]) (wk Dy [0]) (⟨rfl,by simp⟩) fun i1 y1 hi1 hy1=>?_
 refine Bq<|.seq ?_
 refine Br ?_ ?_<;>intro h13
 ·refine Bp<|.seq<|.block ?_
  obtain⟨e1,H1⟩:=gx A i1
  refine Bu H1 ?_
  obtain⟨m1,hm1,hme⟩:∃m1,L[i1]? = some m1/\itM m1=e1:=by rw[hA,Ap] at H1;exact Option.map_eq_some_iff.1 H1
  have hS:=hL m1 (Ac hm1)
  obtain⟨s1,hs1⟩:=hS.sh
  have hec:e1.code=0:=by rw[<- hme];rfl
  have hpl:e1.pay.length<=1000000:=by rw[<- hme];exact Ak (Ti m1) (by decide)
  have hdv:=S6 e1.kind e1.pay hpl
  have hde:E6 e1.kind e1.pay hpl=(m1,0):=by subst hme;exact Aqq hS _
  rw[hde] at hdv
  have hvv:=Aoe m1 hS.h1 hS.h2 hS.h3 s1 hs1 hS.ok
  rw[Aox] at hvv
  refine B8 H1 (hdv)<|.seq ?_
  refine B4 (by rfl) fun K1 hK1=>?_
  simp[go_sem,H1,hec]
  refine P3 ?_
  simp[go_sem,H1,hec]
  refine .lo (hvv) rfl (by simp[AV.cln,Fb]) ?_
  simp[go_sem,H1,hec]
  refine hK1 _ ?_;clear hK1
  refine Cl ?_ ?_<;>intro h35<;>simp[go_sem] at h35
  refine Bp<|.H1 H1 ?_
  refine B0 H1 ?_
  exact⟨by omega,(y1++[m1]),⟨by rw[hy1.1,List.take_add_one,hm1];rfl,by simp;omega⟩,wk (Fa (Dw ((i1:Int)+1)) H1) [0]⟩
 refine Bt<|.R ?_
 refine B2 Dy 0 ?_
 exact .ret (Ep Dy (y1,true) (by rw[hy1.1,Bf (by omega)]))
def J2:List D0×Bool:=(Em (Jx b L hL hb hl hB)).choose
theorem T7:PP 24 [] [.mY b] [] (.tup [.imm false 4 (Q4 (J2 b L hL hb hl hB).1),.lit (.bool (J2 b L hL hb hl hB).2)]):=(Em (Jx b L hL hb hl hB)).choose_spec.1
theorem Uh:(J2 b L hL hb hl hB)=(L,true):=(Em (Jx b L hL hb hl hB)).choose_spec.2
end
end
theorem Adj (l:List D0) (fid:FuncId) (caps:List AV) (p:D0->Bool) (hl:l.length<=1000000) (hc:Aaq caps) (hp:∀t,t∈l->PP fid [] (t.g::caps) [] (.lb (p t))):PP 158 [] [.mMsg l,.fn fid caps] [] (.li (Hx p l)):=by
 refine Ei Tryz.func158 ?_
 refine Bw<|.seq ?_
 refine Bw<|.block ?_
 refine Df l.length (fun i1=>⟨[(0,.mMsg l),(1,.fn fid caps),(7,.li l.length),(8,.li i1)],[]⟩) (fun i1=>Hx p l=Gs p (l.drop i1) i1) (wQ [] ?_ ?_) rfl fun i1 hi1 hI=>?_
 ·simp[go_sem,hc.ren]
 ·simp[go_sem,hc.ren]
 refine Bw<|.seq ?_
 refine B7 ?_ ?_<;>intro h9
 ·have hx:l[i1]? = some l[i1]:=Aa h9
  generalize l[i1]=t at hx
  rw[K9 p hx] at hI
  refine Bv<|.seq<|.block<|.R ?_
  refine Cc (fun K kk=>by simp[go_sem,hx,hc.pass,hc.passC,hc.bor,hc.low];(repeat refine aK ?_);refine .lo (hp t (Ac hx)) (by simp[go_sem,hc.low]) (by simp) ?_;simp[go_sem,hx,hc.pass,hc.passC,hc.bor,hc.low];exact kk) ?_
  refine B7 ?_ ?_<;>intro h16
  ·rw[if_pos h16] at hI
   refine Bw ?_
   exact .ret (rL hI)
  rw[h16] at hI
  simp only[Bl,if_false] at hI
  refine Bv<|.R1 ?_
  refine⟨by omega,hI,wQ [] ?_ ?_⟩
  ·simp[go_sem,Dw ((i1:Int)+1),hc.ren,h9,h16]
  simp[go_sem]
 have he:i1=l.length:=by omega
 subst he
 rw[Mp] at hI
 refine B5<|.R ?_
 exact .ret (rL hI)
section
theorem X9 {α:Type} (p:α->Bool):∀(l:List α) (i:Nat),(Gs p l i = -1/\∀t∈l,p t=false)\/∃(k:Nat) (t:α),Gs p l i=(i+k:Nat)/\l[k]? = some t/\p t=true/\∀u∈l.take k,p u=false
 | [],i=>.inl ⟨rfl,fun t h=>by cases h⟩
 | a::l,i=>by
  by_cases ha:p a=true
  ·exact .inr ⟨0,a,by simp[Gs,ha],rfl,ha,fun u h=>by cases h⟩
  have ha:p a=false:=by simpa using ha
  rcases X9 p l (i+1) with⟨h1,h2⟩ | ⟨k,t,h1,h2,h3,h4⟩
  ·refine .inl ⟨by simp[Gs,ha,h1],fun t h=>?_⟩
   rcases List.mem_cons.1 h with rfl | h
   ·exact ha
   exact h2 t h
  refine .inr ⟨k+1,t,by simp[Gs,ha,h1];omega,h2,h3,fun u h=>?_⟩
  rw[List.take_succ_cons] at h
  rcases List.mem_cons.1 h with rfl | h
  ·exact ha
  exact h4 u h
variable {α:Type}
theorem Acw {p:α->Bool} {l:List α} (h:∀t∈l,p t=false):l.filter (fun t=>!p t)=l:=List.filter_eq_self.2 fun t ht=>by simp[h t ht]
theorem Abr {p:α->Bool} {l:List α} {j:Nat} {t:α} (h:l[j]? = some t):(l.take (j+1)).filter (fun t=>!p t)=(l.take j).filter (fun t=>!p t)++if p t then [] else [t]:=by
 rw[List.take_add_one,h,List.filter_append]
 cases hp:p t<;>simp[hp]
end
section
variable {es:List (List T)}
theorem A0w (h:∀e∈es,e.length=4) {i:Nat} (hi:i<es.length):∃a b c d,es[i]? = some [a,b,c,d]:=by
 have h1:=Aa hi
 have h2:=h _ (Ac h1)
 match hx:es[i],h2 with
 | [a,b,c,d],_=>exact⟨a,b,c,d,by rw[h1,hx]⟩
variable {l:List D0} {t:D0}
theorem Asf {j:Nat} (h:es.drop j=Q4 (l.drop j)) (ht:l[j]? = some t):es[j]? = some t.t:=by
 have h1:(es.drop j)[0]? = some t.t:=by
  rw[h,Ap,Bd]
  simp[ht]
 rw[Bd] at h1
 simpa using h1
theorem Arc {α:Type} (es vs:List α) (i:Nat):(Kf es i vs).take i=es.take i:=by
 refine List.ext_getElem? fun j=>?_
 by_cases h:j<i
 ·rw[Ag h,Ag h,Jk,if_neg (by omega)]
 rw[List.getElem?_take_eq_none (by omega),List.getElem?_take_eq_none (by omega)]
structure Anv (p:D0->Bool) (l:List D0) (es:List (List T)) (i j:Nat):Prop where
  len:es.length=l.length
  ij:i<j
  jl:j<=l.length
  four:∀e∈es,e.length=4
  kept:es.take i=Q4 ((l.take j).filter fun t=>!p t)
  rest:es.drop j=Q4 (l.drop j)
variable {p:D0->Bool} {i j:Nat}
theorem Anv.skip (h:Anv p l es i j) (ht:l[j]? = some t) (hp:p t=true):Anv p l es i (j+1):=by
 have hj:=(Ab.1 ht).1
 refine⟨h.len,by have:=h.ij;omega,hj,h.four,by rw[Abr ht,if_pos hp,List.append_nil];exact h.kept,?_⟩
 have:=congrArg (List.drop 1) h.rest
 rw[List.drop_drop,<- List.map_drop,List.drop_drop] at this
 simpa[Ba] using this
theorem Anv.keep (h:Anv p l es i j) (ht:l[j]? = some t) (hp:p t=false):Anv p l (es.set i t.t) (i+1) (j+1):=by
 have hj:=(Ab.1 ht).1
 have hij:=h.ij
 have hl:=h.len
 refine⟨by rw[List.length_set];exact h.len,by omega,hj,fun e he=>?_,?_,?_⟩
 ·rcases Bi he with h1 | h1
  ·exact h.four e h1
  rw[h1];rfl
 ·rw[Abr ht,hp]
  simp only[Bl,if_false,List.map_append,List.map_cons,List.map_nil]
  rw[show List.map D0.t (List.filter (fun t=>!p t) (List.take j l))=es.take i from h.kept.symm,List.take_add_one,List.take_set_of_le (Aj _),Bg (by omega)]
  rfl
 rw[List.drop_set_of_lt (by omega)]
 have:=congrArg (List.drop 1) h.rest
 rw[List.drop_drop,<- List.map_drop,List.drop_drop] at this
 simpa[Ba] using this
theorem V4 (l:List D0) (fid:FuncId) (caps:List AV) (p:D0->Bool) (hl:l.length<=1000000) (hc:Aaq caps) (hp:∀t,t∈l->PP fid [] (t.g::caps) [] (.lb (p t))) :
 ∃R:List (List T),PP 132 [.row 56 4 false false (Q4 l)] [.own 0 l.length,.fn fid caps] [.row 56 4 false true R] (.mMsg (l.filter fun t=>!p t))/\True:=by
 refine Aec (D:=List (List T)) (F:=fun d=>.mMsg (l.filter fun t=>!p t)) (S:=fun d=>[.row 56 4 false true d]) (Q:=fun d=>True) Tryz.func132 rfl rfl rfl (by simp[Tryz.ntmps132]) ?_
 refine Bq ?_
 refine B3 (fun K kk=>by simp[go_sem,hc.pass,hc.passC,hc.bor,hc.low];refine .lo (Adj l fid caps p hl hc hp) (by simp[go_sem,hc.low]) (by simp[AV.cln,Fb]) ?_;simp[go_sem,hc.pass,hc.passC,hc.bor,hc.low];exact kk)<|.seq ?_
 refine Bq ?_
 rcases X9 p l 0 with⟨h1,h2⟩ | ⟨k,t0,h1,h2,h3,h4⟩
 ·have hi:Hx p l = -1:=h1
  have hf:=Acw h2
  simp only[hi]
  refine Cl ?_ ?_<;>intro h12<;>simp[go_sem] at h12
  refine Bq ?_
  refine B2 Dy 0 ?_
  refine Bz ⟨Q4 l,Tb [0] (by simp[go_sem]) (by decide) (by simp) (by simp[go_sem,hf]) ?_,trivial⟩
  repeat' (first | exact .nil | refine .cons (by simp[go_sem]) ?_)
 have hi:Hx p l=(k:Int):=by unfold Hx;rw[h1];simp
 have hkl:=(Ab.1 h2).1
 simp only[hi]
 refine Cl ?_ ?_<;>intro h12<;>simp[go_sem] at h12
 refine Bp ?_
 have hw:=Dw ((k:Int)+1)
 refine Ca<|.H hw<|.block ?_
 have hI0:Anv p l (Q4 l) k (k+1):=⟨by simp,by omega,by omega,fun e he=>by obtain⟨m,_,rfl⟩:=A4.1 he;rfl,by rw[Abr h2,if_pos h3,List.append_nil,Acw h4];exact List.map_take.symm,List.map_drop.symm⟩
 refine Cj (fun (y:List (List T)×Nat×Nat)=>⟨[(0,.own 0 y.1.length),(1,.fn fid caps),(5,.li (y.2.1:Int)),(6,.li (y.2.2:Int))],[.row 56 4 false false y.1]⟩) (fun y=>Anv p l y.1 y.2.1 y.2.2) (fun y=>l.length - y.2.2) (Q4 l,k,k+1) (wQ [0] ?_ ?_) hI0 fun y hy=>?_
 ·simp[go_sem,hc.ren]
 ·simp[go_sem]
 have hy1:=hy.len
 have hy2:=hy.ij
 have hy3:=hy.jl
 refine Ca<|.R ?_
 refine Br ?_ ?_<;>intro h19
 ·refine Bp<|.seq<|.block ?_
  obtain⟨t,ht⟩:∃t,l[y.2.2]? = some t:=⟨_,Aa (by omega)⟩
  have hxj:=Asf hy.rest ht
  obtain⟨a,b,c,d,hxi⟩:=A0w hy.four (i:=y.2.1) (by omega)
  refine Bu hxj ?_
  refine B3 (fun K kk=>by simp[go_sem,hc.pass,hc.passC,hc.bor,hc.low];refine .lo (hp t (Ac ht)) (by simp[go_sem,hc.low]) (by simp) ?_;simp[go_sem,hc.pass,hc.passC,hc.bor,hc.low];exact kk) ?_
  have hwj:=Dw ((y.2.2:Int)+1)
  have hwi:=Dw ((y.2.1:Int)+1)
  refine Br ?_ ?_<;>intro h29
  ·refine B3 (fun K kk=>by simp[go_sem,hxi,Kf];repeat first | exact kk | refine aK ?_) ?_
   refine B0 hwi ?_
   refine B0 hwj ?_
   refine⟨(y.1.set y.2.1 t.t,y.2.1+1,y.2.2+1),by dsimp only;omega,hy.keep ht h29,wQ [0] ?_ ?_⟩
   ·simp[go_sem,hc.ren]
   simp[go_sem]
  refine Bp<|.H1 hwj ?_
  refine⟨(y.1,y.2.1,y.2.2+1),by dsimp only;omega,hy.skip ht h29,wQ [0] ?_ ?_⟩
  ·simp[go_sem,hc.ren]
  simp[go_sem]
 refine Bt ?_
 have hj:y.2.2=l.length:=by omega
 have hk:=hy.kept
 rw[hj,List.take_length] at hk
 refine B3 (fun K kk=>by simp[go_sem,Fr];repeat first | exact kk | refine aK ?_) ?_
 refine B3 (fun K kk=>by simp[go_sem,Fr];repeat first | exact kk | refine aK ?_) ?_
 refine Dm 0 ?_
 simp[go_sem,-Prod.exists,Fr]
 refine Bz ⟨Kf y.1 y.2.1 (List.replicate (y.1.length - y.2.1) [.li 0,.sl 1 [],.sl 1 [],.sl 1 []]),Tb [0] (by simp[go_sem]) (by decide) (by simp) (by simp[go_sem,hk,Fr,Arc]) ?_,trivial⟩
 repeat' (first | exact .nil | refine .cons (by simp[go_sem,Fr]) ?_)
end
end Go.Proofs.YtkkimgjinbaemaaGreat
