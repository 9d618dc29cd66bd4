/- The walk. -/
import Derived.Test.YtkkimgjinbaemaaGreatKaf
noncomputable section
namespace Go.Proofs.YtkkimgjinbaemaaGreat
open Go.RowKit
set_option linter.unusedVariables false
set_option linter.unusedSimpArgs false
set_option linter.defProp false
set_option linter.unusedSectionVars false
set_option maxRecDepth 100000
set_option maxHeartbeats 4000000
section
def Et (n lo hi:Int):Bool:=decide (lo<=n)&&decide (n<=hi)
def Jh (p:F5):Bool:=(Et p.ring 0 1&&Et p.grp 0 3)&&(Et p.mi 1 60&&Et p.ma 1 60&&Et p.ye 1 60)&&(Et p.re 0 60&&Et p.wa 0 60&&Et p.cl 0 60) &&
 (decide (p.mi<=p.ma)&&decide (IntKind.i64.wrap (p.wa+p.cl)<=p.ma)&&((p.wa == 0) == (p.cl == 0)))
variable {α:Type}
theorem At7 {l:List α} {p:α->Prop} {i:Nat} {y:α} (h:∀k x,k<i->l[k]? = some x->p x) (hy:l[i]? = some y) (hi:p y):∀k x,k<i+1->l[k]? = some x->p x:=fun k x hk hx=>by
 by_cases e:k=i
 ·subst e;rw[hy] at hx;injection hx with hx;subst hx;exact hi
 exact h k x (by omega) hx
def Nz (j:Gc) (p:Nat):F5:=(j.phs[p]?).getD ⟨0,0,0,0,0,0,0,0⟩
def Aap (j:Gc) (p q:Nat):Bool:=(p != q)&&((Nz j p).ring == (Nz j q).ring||(Nz j p).grp != (Nz j q).grp) && !Ab2 j.con p q
def Xv (j:Gc):Bool:=N9 j.phs.length fun p=>N9 j.phs.length fun q=>!Aap j p q
theorem Ew (n lo hi:Int):PP 79 [] [.li n,.li lo,.li hi] [] (.lb (Et n lo hi)):=by
 refine El Tryz.func79 ?_
 iterate 2 refine Bw ?_
 refine B6 ?_
 simp[go_sem,Et]
theorem Ajx (p:F5):PP 108 [] [p.g] [] (.lb (Jh p)):=by
 refine El Tryz.func108 ?_
 refine Bw<|.seq ?_
 refine Bx (by rfl) fun K1 hK1=>?_
 simp[go_sem]
 refine .lo (Ew _ _ _) rfl (by simp) ?_
 simp[go_sem]
 refine Qc ?_
 simp[go_sem]
 refine .lo (Ew _ _ _) rfl (by simp) ?_
 simp[go_sem]
 refine hK1 _ ?_;clear hK1
 refine B7 ?_ ?_<;>intro h12
 ·refine Bw ?_
  refine B6 ?_
  simp[go_sem]
  unfold Jh
  revert h12
  cases Et p.ring 0 1<;>cases Et p.grp 0 3<;>simp[Jh]
 refine Bv<|.seq ?_
 refine Bx (by rfl) fun K1 hK1=>?_
 simp[go_sem]
 refine .lo (Ew _ _ _) rfl (by simp) ?_
 simp[go_sem]
 refine Qc ?_
 simp[go_sem]
 refine .lo (Ew _ _ _) rfl (by simp) ?_
 simp[go_sem]
 refine Qc ?_
 simp[go_sem]
 refine .lo (Ew _ _ _) rfl (by simp) ?_
 simp[go_sem]
 refine hK1 _ ?_;clear hK1
 refine B7 ?_ ?_<;>intro h28
 ·refine Bw ?_
  refine B6 ?_
  simp[go_sem]
  unfold Jh
  revert h28
  cases Et p.mi 1 60<;>cases Et p.ma 1 60<;>cases Et p.ye 1 60<;>simp[Jh]
 refine Bv<|.seq ?_
 refine Bx (by rfl) fun K1 hK1=>?_
 simp[go_sem]
 refine .lo (Ew _ _ _) rfl (by simp) ?_
 simp[go_sem]
 refine Qc ?_
 simp[go_sem]
 refine .lo (Ew _ _ _) rfl (by simp) ?_
 simp[go_sem]
 refine Qc ?_
 simp[go_sem]
 refine .lo (Ew _ _ _) rfl (by simp) ?_
 simp[go_sem]
 refine hK1 _ ?_;clear hK1
 refine B7 ?_ ?_<;>intro h44
 ·refine Bw ?_
  refine B6 ?_
  simp[go_sem]
  unfold Jh
  revert h44
  cases Et p.re 0 60<;>cases Et p.wa 0 60<;>cases Et p.cl 0 60<;>simp[Jh]
 refine Bv<|.R ?_
 refine B6 ?_
 simp[go_sem]
 simp_all[Jh]
theorem Ajy (j:Gc) (h1:j.phs.length<=1000000) (h2:j.con.length<=1000000):PP 109 [] [j.g] [] (.lb (Xv j)):=by
 refine El Tryz.func109 ?_
 refine Bw ?_
 refine VW.scope ?_
 refine Bw<|.seq ?_
 refine VW.label ?_
 refine Du<|.R<|.block ?_
 refine Cu j.phs.length (fun i1 (y1:Unit)=>⟨[(1,.ptr 0 0),(3,.lb true),(9,.mPhase j.phs),(10,.li j.phs.length),(11,.li i1)],[.box 88 (j.a false)]⟩) (fun i1 y1=>∀k,k<i1->(N9 j.phs.length fun q=>!Aap j k q)=true) (()) (wQ [0] ?_ ?_) (by intro k h;omega) fun i1 y1 hi1 hy1=>?_
 ·simp[go_sem]
 ·simp[go_sem]
 refine Bw<|.seq ?_
 refine B7 ?_ ?_<;>intro h12
 ·have hxa:j.phs[i1]? = some j.phs[i1]:=Aa (by omega)
  generalize j.phs[i1]=a at hxa
  have haa:Nz j i1=a:=by simp only[Nz,hxa,Bh]
  refine Bv<|.seq<|.block<|.H hxa ?_
  refine Bw<|.block ?_
  refine Cu j.phs.length (fun i2 (y2:Unit)=>⟨[(1,.ptr 0 0),(3,.lb true),(4,.li i1),(5,.ptr 1 0),(9,.mPhase j.phs),(10,.li j.phs.length),(11,.li i1),(17,.mPhase j.phs),(18,.li j.phs.length),(19,.li i2)],[.box 88 (j.a false),.box 124 (a.a false)]⟩) (fun i2 y2=>∀k,k<i2->(!Aap j i1 k)=true) (()) (wQ [0,1] ?_ ?_) (by intro k h;omega) fun i2 y2 hi2 hy2=>?_
  ·simp[go_sem]
  ·simp[go_sem]
  refine Bw<|.seq ?_
  refine B7 ?_ ?_<;>intro h20
  ·have hxb:j.phs[i2]? = some j.phs[i2]:=Aa (by omega)
   generalize j.phs[i2]=b at hxb
   have hab:Nz j i2=b:=by simp only[Nz,hxb,Bh]
   refine Bv<|.seq<|.block<|.H hxb ?_
   refine Bx (by rfl) fun K1 hK1=>?_
   simp +contextual[go_sem]
   refine Qc ?_
   simp +contextual[go_sem]
   refine .lo (Ik j.con i1 i2 h2) rfl (by simp) ?_
   simp +contextual[go_sem]
   refine hK1 _ ?_;clear hK1
   refine B7 ?_ ?_<;>intro h48
   ·refine Bw<|.exit ?_
    refine Bw ?_
    refine B6 ?_
    simp[go_sem]
    have e:i1≠i2:=by omega
    have hb:Aap j i1 i2=true:=by simp[Aap,haa,hab,e,h48.2];exact h48.1.2
    exact Aa0 h12 (Aa0 h20 (by simp[hb]))
   refine Bv<|.R1 ?_
   refine⟨by omega,(),?_,wQ [0,1] ?_ ?_⟩
   ·refine Art hy2 ?_;by_cases e:i1=i2;simp[Aap,e];have h:=h48 (by omega);by_cases c1:a.ring=b.ring\/¬a.grp=b.grp;simp[Aap,h c1];rw[not_or,Classical.not_not] at c1;simp[Aap,haa,hab,c1.1,c1.2]
   ·simp[go_sem,Dw ((i2:Int)+1)]
   simp[go_sem]
  refine B5<|.R1 ?_
  refine⟨by omega,(),?_,wQ [0] ?_ ?_⟩
  ·refine Art hy1 (Mz (by intro k hk;exact hy2 k (by omega)))
  ·simp[go_sem,Dw ((i1:Int)+1)]
  simp[go_sem]
 refine B5<|.R ?_
 refine B6 ?_
 simp[go_sem]
 exact Mz fun k hk=>hy1 k (by omega)
def Aao (j:Gc):Nat->Int
 | 0=>0
 | i+1=>Ey .or .i64 (Aao j i) (IntKind.i64.wrap (1*2 ^ min (Nz j i).grp.toNat 64))
def Ri (j:Gc):Bool:=decide (1<=j.phs.length)&&decide (j.phs.length<=8)&&decide (j.con.length=j.phs.length)&&U3 j.con&&Et j.start 0 60&&N9 j.phs.length (fun p=>Jh (Nz j p)) &&
 (Ey .and .i64 (Aao j j.phs.length) (IntKind.i64.wrap (Aao j j.phs.length+1)) == 0)&&Xv j
theorem Sb {p:F5} (h:Jh p=true):0<=p.ring/\p.ring<=1/\0<=p.grp/\p.grp<=3:=by
 simp only[Jh,Et,Ah,decide_eq_true_eq] at h
 omega
theorem P0 (j:Gc) (h1:j.phs.length<=1000000) (h2:j.con.length<=1000000):PP 80 [] [j.g] [] (.lb (Ri j)):=by
 refine El Tryz.func80 ?_
 refine Bw ?_
 refine Bw<|.seq ?_
 refine Bx (by rfl) fun K1 hK1=>?_
 simp[go_sem]
 refine Qc ?_
 simp[go_sem]
 refine .lo (Afb j.con h2) rfl (by simp) ?_
 simp[go_sem]
 refine hK1 _ ?_;clear hK1
 refine B7 ?_ ?_<;>intro h28
 ·refine Bw ?_
  refine B6 ?_
  simp[go_sem]
  rw[Bool.eq_false_iff];intro h;simp only[Ri,Ah,decide_eq_true_eq] at h;rcases h28 with ((h28 | h28) | h28) | h28<;>first | omega | simp_all
 refine Bv<|.seq<|.S (fun K kk=>by simp[go_sem];refine .lo (Ew _ _ _) rfl (by simp) ?_;simp[go_sem];exact kk) ?_
 refine B7 ?_ ?_<;>intro h32
 ·refine Bw ?_
  refine B6 ?_
  simp[go_sem]
  simp[Ri,h32]
 refine Bv<|.R<|.seq ?_
 refine Bw<|.block ?_
 refine Cu j.phs.length (fun i1 (y1:Unit)=>⟨[(1,.ptr 0 0),(4,.li (Aao j i1)),(34,.mPhase j.phs),(35,.li j.phs.length),(36,.li i1)],[.box 88 (j.a false)]⟩) (fun i1 y1=>∀k,k<i1->Jh (Nz j k)=true) (()) (wQ [0] ?_ ?_) (by intro k h;omega) fun i1 y1 hi1 hy1=>?_
 ·simp[go_sem,Aao]
 ·simp[go_sem,Aao]
 refine Bw<|.seq ?_
 refine B7 ?_ ?_<;>intro h37
 ·have hxa:j.phs[i1]? = some j.phs[i1]:=Aa (by omega)
  generalize j.phs[i1]=a at hxa
  have haa:Nz j i1=a:=by simp only[Nz,hxa,Bh]
  refine Bv<|.seq<|.block<|.H hxa<|.seq ?_
  refine Di Dy (Ajx a) ?_
  refine B7 ?_ ?_<;>intro h42
  ·refine Bw ?_
   refine B6 ?_
   simp[go_sem]
   have ha:N9 j.phs.length (fun p=>Jh (Nz j p))=false:=Aa0 h37 (by simp[haa,h42])
   simp[Ri,ha]
  have hg:=Sb h42
  refine Bv<|.H1 Dy ?_
  refine Cm ?_
  refine⟨by omega,(),?_,wQ [0] ?_ ?_⟩
  ·refine Art hy1 ?_;rw[haa];exact h42
  ·simp[go_sem,Dw ((i1:Int)+1),Aao,haa]
  simp[go_sem,Aao,haa]
 refine B5 ?_
 refine Bx (by rfl) fun K1 hK1=>?_
 simp[go_sem]
 refine Qc ?_
 simp[go_sem]
 refine .lo (Ajy j h1 h2) rfl (by simp) ?_
 simp[go_sem]
 refine hK1 _ ?_;clear hK1
 refine B6 ?_
 simp[go_sem]
 have he:i1=j.phs.length:=by omega
 subst he
 have ha:N9 j.phs.length (fun p=>Jh (Nz j p))=true:=Mz hy1
 have h3:=h28.1.1.1;have h4:=h28.1.1.2;have h5:=h28.1.2;have h6:1<=j.phs.length:=(by omega);have h7:j.phs.length<=8:=(by omega);have h8:j.con.length=j.phs.length:=(by omega)
 simp[Ri,ha,h32,h28.2,h6,h7,h8]
def Ad8 (a:Hy):Bool:=decide (a.sec.length=8)&&decide (a.lims.length=4)&&N9 a.lims.length (fun i=>Et (Sz a.lims i) 0 8)&&(Et a.ri 0 63&&Et a.cls 0 3&&Et a.rq 0 4&&Et a.se 1 2&&Et a.bu 0 1000&&Et a.ra 0 a.bu)
theorem Yd (a:Hy) (h1:a.sec.length<=1000000) (h2:a.lims.length<=1000000):PP 81 [] [a.g] [] (.lb (Ad8 a)):=by
 refine El Tryz.func81 ?_
 refine Bw<|.seq ?_
 refine Bw ?_
 refine B7 ?_ ?_<;>intro h14
 ·refine Bw ?_
  refine B6 ?_
  simp[go_sem]
  have hh:¬(a.sec.length=8/\a.lims.length=4):=by omega
  rw[Bool.eq_false_iff];intro h;simp only[Ad8,Ah,decide_eq_true_eq] at h;exact hh h.1.1
 refine Bv<|.seq<|.R<|.block ?_
 refine Cu a.lims.length (fun i1 (y1:Unit)=>⟨[(1,.ptr 0 0),(16,.mI a.lims),(17,.li a.lims.length),(18,.li i1)],[.box 60 (a.a false)]⟩) (fun i1 y1=>∀k,k<i1->Et (Sz a.lims k) 0 8=true) (()) (wQ [0] ?_ ?_) (by intro k h;omega) fun i1 y1 hi1 hy1=>?_
 ·simp[go_sem]
 ·simp[go_sem]
 refine Bw<|.seq ?_
 refine B7 ?_ ?_<;>intro h19
 ·have hxx:a.lims[i1]? = some a.lims[i1]:=Aa (by omega)
  generalize a.lims[i1]=x at hxx
  have hax:Sz a.lims i1=x:=by simp only[Sz,hxx,Bh]
  refine Bv<|.seq<|.block<|.H hxx ?_
  refine Cc (fun K kk=>by simp[go_sem];refine .lo (Ew _ _ _) rfl (by simp) ?_;simp[go_sem];exact kk) ?_
  refine B7 ?_ ?_<;>intro h24
  ·refine Bw ?_
   refine B6 ?_
   simp[go_sem]
   have ha:N9 a.lims.length (fun i=>Et (Sz a.lims i) 0 8)=false:=Aa0 h19 (by simp[hax,h24])
   simp[Ad8,ha]
  refine Bv<|.R1 ?_
  refine⟨by omega,(),?_,wQ [0] ?_ ?_⟩
  ·refine Art hy1 ?_;rw[hax];exact h24
  ·simp[go_sem,Dw ((i1:Int)+1)]
  simp[go_sem]
 refine B5 ?_
 refine Bx (by rfl) fun K1 hK1=>?_
 simp[go_sem]
 refine .lo (Ew _ _ _) rfl (by simp) ?_
 simp[go_sem]
 refine Qc ?_
 simp[go_sem]
 refine .lo (Ew _ _ _) rfl (by simp) ?_
 simp[go_sem]
 refine Qc ?_
 simp[go_sem]
 refine .lo (Ew _ _ _) rfl (by simp) ?_
 simp[go_sem]
 refine Qc ?_
 simp[go_sem]
 refine .lo (Ew _ _ _) rfl (by simp) ?_
 simp[go_sem]
 refine Qc ?_
 simp[go_sem]
 refine .lo (Ew _ _ _) rfl (by simp) ?_
 simp[go_sem]
 refine Qc ?_
 simp[go_sem]
 refine .lo (Ew _ _ _) rfl (by simp) ?_
 simp[go_sem]
 refine hK1 _ ?_;clear hK1
 refine B6 ?_
 simp[go_sem]
 have he:i1=a.lims.length:=by omega
 subst he
 have ha:N9 a.lims.length (fun i=>Et (Sz a.lims i) 0 8)=true:=Mz hy1
 have h6:a.sec.length=8:=(by omega);have h7:a.lims.length=4:=(by omega)
 simp only[Ad8,ha,h6,decide_true,Bool.true_and]
 rw[decide_eq_true h7,Bool.true_and,Bool.true_and]
structure Acg (c:E6):Prop where
  juns:c.juns.length<=1000000
  ags:c.ags.length<=1000000
  jun:∀j∈c.juns,j.phs.length<=1000000/\j.con.length<=1000000
  ag:∀a∈c.ags,a.sec.length<=1000000/\a.lims.length<=1000000
def Ln (c:E6):Bool:=Et c.juns.length 1 4&&Et c.ags.length 1 4&&c.juns.all Ri&&c.ags.all Ad8&&(Et c.per 1 600&&Et c.cap 0 100&&Et c.hold 1 60&&Et c.lock 0 600)
theorem Awj {l:List α} {f:α->Bool} {i:Nat} {x:α} (hx:l[i]? = some x) (h:f x=false):l.all f=false:=by
 rw[List.all_eq_false]
 exact⟨x,Ac hx,by simp[h]⟩
theorem Arj {l:List α} {f:α->Bool} (h:∀i x,i<l.length->l[i]? = some x->f x=true):l.all f=true:=by
 rw[Am]
 intro x hx
 obtain⟨i,hi⟩:=A3.1 hx
 exact h i x (Ab.1 hi).1 hi
theorem Ahj (c:E6) (hb:Acg c):PP 53 [] [c.g] [] (.lb (Ln c)):=by
 refine El Tryz.func53 ?_
 have hb1:=hb.juns
 have hb2:=hb.ags
 refine Bw<|.seq ?_
 refine Bx (by rfl) fun K1 hK1=>?_
 simp[go_sem]
 refine .lo (Ew _ _ _) rfl (by simp) ?_
 simp[go_sem]
 refine Qc ?_
 simp[go_sem]
 refine .lo (Ew _ _ _) rfl (by simp) ?_
 simp[go_sem]
 refine hK1 _ ?_;clear hK1
 refine B7 ?_ ?_<;>intro h18
 ·refine Bw ?_
  refine B6 ?_
  simp[go_sem]
  rcases h18 with h | h<;>simp[Ln,h]
 refine Bv<|.seq<|.R<|.block ?_
 refine Cu c.juns.length (fun i1 (y1:Unit)=>⟨[(1,.ptr 0 0),(20,.mJun c.juns),(21,.li c.juns.length),(22,.li i1)],[.box 30 (c.a false)]⟩) (fun i1 y1=>∀k x,k<i1->c.juns[k]? = some x->Ri x=true) (()) (wQ [0] ?_ ?_) (by intro k x h;omega) fun i1 y1 hi1 hy1=>?_
 ·simp[go_sem]
 ·simp[go_sem]
 refine Bw<|.seq ?_
 refine B7 ?_ ?_<;>intro h23
 ·have hxa:c.juns[i1]? = some c.juns[i1]:=Aa (by omega)
  generalize c.juns[i1]=a at hxa
  refine Bv<|.seq<|.block<|.H hxa ?_
  refine Di Dy (P0 a (hb.jun a (Ac hxa)).1 (hb.jun a (Ac hxa)).2) ?_
  refine B7 ?_ ?_<;>intro h28
  ·refine Bw ?_
   refine B6 ?_
   simp[go_sem]
   have ha:c.juns.all Ri=false:=Awj hxa h28
   simp[Ln,ha]
  refine Bv<|.R1 ?_
  refine⟨by omega,(),?_,wQ [0] ?_ ?_⟩
  ·exact At7 hy1 hxa (by first | exact h27 | exact h26 | exact h28)
  ·simp[go_sem,Dw ((i1:Int)+1)]
  simp[go_sem]
 refine B5<|.seq<|.R<|.block ?_
 refine Cu c.ags.length (fun i2 (y2:Unit)=>⟨[(1,.ptr 0 0),(31,.mAg c.ags),(32,.li c.ags.length),(33,.li i2)],[.box 30 (c.a false)]⟩) (fun i2 y2=>∀k x,k<i2->c.ags[k]? = some x->Ad8 x=true) (()) (wQ [0] ?_ ?_) (by intro k x h;omega) fun i2 y2 hi2 hy2=>?_
 ·simp[go_sem]
 ·simp[go_sem]
 refine Bw<|.seq ?_
 refine B7 ?_ ?_<;>intro h34
 ·have hxa:c.ags[i2]? = some c.ags[i2]:=Aa (by omega)
  generalize c.ags[i2]=a at hxa
  refine Bv<|.seq<|.block<|.H hxa ?_
  refine Di Dy (Yd a (hb.ag a (Ac hxa)).1 (hb.ag a (Ac hxa)).2) ?_
  refine B7 ?_ ?_<;>intro h39
  ·refine Bw ?_
   refine B6 ?_
   simp[go_sem]
   have ha:c.ags.all Ad8=false:=Awj hxa h39
   simp[Ln,ha]
  refine Bv<|.R1 ?_
  refine⟨by omega,(),?_,wQ [0] ?_ ?_⟩
  ·exact At7 hy2 hxa (by first | exact h37 | exact h38 | exact h39)
  ·simp[go_sem,Dw ((i2:Int)+1)]
  simp[go_sem]
 refine B5 ?_
 refine Bx (by rfl) fun K1 hK1=>?_
 simp[go_sem]
 refine .lo (Ew _ _ _) rfl (by simp) ?_
 simp[go_sem]
 refine Qc ?_
 simp[go_sem]
 refine .lo (Ew _ _ _) rfl (by simp) ?_
 simp[go_sem]
 refine Qc ?_
 simp[go_sem]
 refine .lo (Ew _ _ _) rfl (by simp) ?_
 simp[go_sem]
 refine Qc ?_
 simp[go_sem]
 refine .lo (Ew _ _ _) rfl (by simp) ?_
 simp[go_sem]
 refine hK1 _ ?_;clear hK1
 refine B6 ?_
 simp[go_sem]
 have e1:i1=c.juns.length:=by omega
 have e2:i2=c.ags.length:=by omega
 subst e1 e2
 have h5:c.juns.all Ri=true:=Arj hy1
 have h6:c.ags.all Ad8=true:=Arj hy2
 simp only[Ln,h18.1,h18.2,h5,h6,Bool.true_and]
def Ke (j:Gc) (r g:Int):Nat->List Int
 | 0=>[]
 | i+1=>if (Nz j i).ring=r/\(Nz j i).grp=g then Ke j r g i++[(i:Int)] else Ke j r g i
theorem Zm (j:Gc) (r g:Int):∀i,(Ke j r g i).length<=i
 | 0=>by simp[Ke]
 | i+1=>by
  have:=Zm j r g i
  simp only[Ke]
  split
  ·simp;omega
  omega
def Anc (j:Gc) (r g:Int):List Int:=Ke j r g j.phs.length
section
variable (j:Gc) (r g:Int) (h1:j.phs.length<=1000000)
include r g h1
theorem Al8:PP 224 [] [j.g,.li r,.li g] [.row 3 1 true false (tI (Anc j r g))] (.own 0 (Anc j r g).length):=by
 refine El Tryz.func224 ?_
 refine Bw ?_
 refine Bw<|.seq ?_
 refine Bw<|.block ?_
 refine Cn 7 3 1 (by decide) (k':=1) (by simp[go_sem]) ?_
 simp[go_sem]
 refine Cb j.phs.length (fun i1=>⟨[(1,.li r),(2,.li g),(7,.own 0 (Ke j r g i1).length),(11,.mPhase j.phs),(12,.li j.phs.length),(13,.li i1)],[.row 3 1 true false (tI (Ke j r g i1))]⟩) (wQ [1] ?_ ?_) fun i1 hi1=>?_
 ·simp[go_sem,Ke]
 ·simp[go_sem,Ke]
 refine Bw<|.seq ?_
 refine B7 ?_ ?_<;>intro h14
 ·have hxa:j.phs[i1]? = some j.phs[i1]:=Aa (by omega)
  generalize j.phs[i1]=a at hxa
  have haa:Nz j i1=a:=by simp only[Nz,hxa,Bh]
  have hln:=Zm j r g i1
  refine Bv<|.seq<|.block<|.H hxa ?_
  refine Bw ?_
  refine B7 ?_ ?_<;>intro h27
  ·have hOf:Ke j r g (i1+1)=Ke j r g i1++[(i1:Int)]:=by simp only[Ke];rw[haa,if_pos h27]
   refine VW.H1 Dy ?_
   refine Cm ?_
   refine⟨by omega,wQ [0] ?_ ?_⟩
   ·simp[go_sem,Dw ((i1:Int)+1),hOf,h14,h27]
   simp[go_sem,hOf,h14,h27]
  have hOf:Ke j r g (i1+1)=Ke j r g i1:=by simp only[Ke];rw[haa,if_neg (fun h=>h27 h.1 h.2)]
  refine Bv<|.R1 ?_
  refine⟨by omega,wQ [0] ?_ ?_⟩
  ·simp[go_sem,Dw ((i1:Int)+1),hOf,h14,h27]
  simp[go_sem,hOf,h14,h27]
 refine B5<|.R ?_
 have he:i1=j.phs.length:=by omega
 subst he
 refine VW.ret (Tn [0] (by simp[go_sem]) (by decide) (by simp) (by simp[go_sem,Anc]) ?_)
 repeat' (first | exact .nil | refine .cons (by simp[go_sem,Anc]) ?_)
theorem Ars:PP 224 [] [j.g,.li r,.li g] [] (.mI (Anc j r g)):=(Al8 j r g h1).frozA (by simp[go_sem])
end
end
section
def Apu (r:Int):Int:=if Ey .and .u32 r 1=1 then Ey .xor .u32 (r.fdiv (2 ^ min 1 32)) 3988292384 else r.fdiv (2 ^ min 1 32)
def Agh (r:Int):Nat->Int
 | 0=>r
 | i+1=>Apu (Agh r i)
def T2 (l:List Int) (i:Nat):Int:=(l[i]?).getD 0
def Aea (s:Int) (l:List Int):Nat->Int
 | 0=>Ey .xor .u32 IntKind.u32.max s
 | i+1=>Agh (Ey .xor .u32 (Aea s l i) (IntKind.u32.wrap (T2 l i))) 8
def Av6 (s:Int) (l:List Int):Int:=Ey .xor .u32 IntKind.u32.max (Aea s l l.length)
theorem Il:(if IntKind.u32.signed=true then (-1:Int) else IntKind.u32.max)=IntKind.u32.max:=rfl
def Xf (l:List Int):Int:=Av6 0 l
theorem Aj5 (s:Int) (l:List Int) (hl:l.length<=1000000):PP 181 [] [.lit (.int .u32 s),.mY l] [] (.lit (.int .u32 (Av6 s l))):=by
 refine El Tryz.func181 ?_
 refine Bw ?_
 refine Bw<|.seq ?_
 refine Bw<|.block ?_
 refine Cb l.length (fun i1=>⟨[(5,.lit (.int .u32 (Aea s l i1))),(11,.mY l),(12,.li l.length),(13,.li i1)],[]⟩) (wQ [] ?_ ?_) fun i1 hi1=>?_
 ·simp[go_sem,Aea,Il]
 ·simp[go_sem,Aea,Il]
 refine Bw<|.seq ?_
 refine B7 ?_ ?_<;>intro h14
 ·have hxx:l[i1]? = some l[i1]:=Aa (by omega)
  generalize l[i1]=x at hxx
  have hax:T2 l i1=x:=by simp only[T2,hxx,Bh]
  refine Bv<|.seq<|.block<|.H hxx ?_
  refine Bw ?_
  refine Bw<|.block ?_
  refine Cb 8 (fun i2=>⟨[(5,.lit (.int .u32 (Agh (Ey .xor .u32 (Aea s l i1) (IntKind.u32.wrap x)) i2))),(11,.mY l),(12,.li l.length),(13,.li i1),(21,.li i2)],[]⟩) (wQ [] ?_ ?_) fun i2 hi2=>?_
  ·simp[go_sem,Agh]
  ·simp[go_sem,Agh]
  refine Bw<|.seq ?_
  refine B7 ?_ ?_<;>intro h22
  ·refine Bv<|.seq<|.block<|.R ?_
   refine VW.H Dy ?_
   refine Bw ?_
   refine B7 ?_ ?_<;>intro h28
   ·have hs:Agh (Ey .xor .u32 (Aea s l i1) (IntKind.u32.wrap x)) (i2+1)=Ey .xor .u32 ((Agh (Ey .xor .u32 (Aea s l i1) (IntKind.u32.wrap x)) i2).fdiv (2 ^ min 1 32)) 3988292384:=by simp only[Agh,Apu];rw[if_pos h28]
    refine Cm ?_
    refine Cm ?_
    refine⟨by omega,wQ [] ?_ ?_⟩
    ·simp[go_sem,Dw ((i2:Int)+1),hs,h14,h22,h28]
    simp[go_sem,hs,h14,h22,h28]
   have hs:Agh (Ey .xor .u32 (Aea s l i1) (IntKind.u32.wrap x)) (i2+1)=(Agh (Ey .xor .u32 (Aea s l i1) (IntKind.u32.wrap x)) i2).fdiv (2 ^ min 1 32):=by simp only[Agh,Apu];rw[if_neg h28]
   refine Bv<|.R1 ?_
   refine⟨by omega,wQ [] ?_ ?_⟩
   ·simp[go_sem,Dw ((i2:Int)+1),hs,h14,h22,h28]
   simp[go_sem,hs,h14,h22,h28]
  have he:i2=8:=by omega
  subst he
  refine B5<|.R1 ?_
  refine⟨by omega,wQ [] ?_ ?_⟩
  ·simp[go_sem,Dw ((i1:Int)+1),Aea,hax,h14,h22]
  simp[go_sem,Aea,hax,h14,h22]
 refine B5<|.R ?_
 have he:i1=l.length:=by omega
 subst he
 refine B6 ?_
 simp[go_sem]
 simp[Av6,Il]
theorem Aie (l:List Int) (hl:l.length<=1000000):PP 162 [] [.mY l] [] (.lit (.int .u32 (Xf l))):=by
 refine El Tryz.func162 ?_
 refine Bw ?_
 refine Di Dy (Aj5 0 l hl) ?_
 refine B6 ?_
 simp[go_sem,Xf]
def Rs (l:List Int):Nat->Int
 | 0=>0
 | i+1=>Ey .or .u32 (IntKind.u32.wrap (Rs l i*2 ^ min 8 32)) (IntKind.u32.wrap (T2 l i))
def Asg (l:List Int):Int:=Rs l l.length
theorem Afe (l:List Int) (hl:l.length<=1000000):PP 163 [] [.mY l] [] (.lit (.int .u32 (Asg l))):=by
 refine El Tryz.func163 ?_
 refine Bw ?_
 refine Bw<|.seq ?_
 refine Bw<|.block ?_
 refine Cb l.length (fun i1=>⟨[(3,.lit (.int .u32 (Rs l i1))),(6,.mY l),(7,.li l.length),(8,.li i1)],[]⟩) (wQ [] ?_ ?_) fun i1 hi1=>?_
 ·simp[go_sem,Rs]
 ·simp[go_sem,Rs]
 refine Bw<|.seq ?_
 refine B7 ?_ ?_<;>intro h9
 ·have hxx:l[i1]? = some l[i1]:=Aa (by omega)
  generalize l[i1]=x at hxx
  have hax:T2 l i1=x:=by simp only[T2,hxx,Bh]
  refine Bv<|.seq<|.block<|.H hxx ?_
  refine VW.H1 Dy ?_
  refine Cm ?_
  refine⟨by omega,wQ [] ?_ ?_⟩
  ·simp[go_sem,Dw ((i1:Int)+1),Rs,hax,h9]
  simp[go_sem,Rs,hax,h9]
 refine B5<|.R ?_
 have he:i1=l.length:=by omega
 subst he
 refine B6 ?_
 simp[go_sem]
 simp[Asg]
def Ab8 (n:Int):Int:=if n<0\/200<n then 0 else IntKind.i64.wrap (IntKind.i64.wrap (6+n)+4)
theorem Z4 (n:Int):PP 161 [] [.li n] [] (.li (Ab8 n)):=by
 refine El Tryz.func161 ?_
 refine Bw<|.seq ?_
 refine Bw ?_
 refine B7 ?_ ?_<;>intro h8
 ·refine Bw ?_
  refine B6 ?_
  simp[go_sem]
  simp[Ab8,h8]
 refine Bv<|.R ?_
 refine B6 ?_
 simp[go_sem]
 have hh:¬(n<0\/200<n):=by omega
 simp[Ab8,hh]
def viN:Nat->Int->List Int
 | 0,n=>[IntKind.u8.wrap n]
 | f+1,n=>if 128<=n then Ey .or .u8 (IntKind.u8.wrap (Ey .and .i64 n 127)) 128::viN f (n.fdiv (2 ^ min 7 64)) else [IntKind.u8.wrap n]
def Gl (n:Int):List Int×Int:=if n<0\/4294967295<n then ([],8) else (viN 5 n,0)
def Al0 (n:Int) (y:List Int×Int):Prop:=∃k:Nat,y.1.length+k=5/\y.1++viN k y.2=viN 5 n/\0<=y.2/\y.2<128 ^ k
variable {n:Int} {y:List Int×Int}
theorem Aic (h:Al0 n y):y.1.length<=5:=by
 obtain⟨k,e1,_⟩:=h
 omega
theorem At2 (h:Al0 n y) (h1:128<=y.2) (h2:1<=y.2.fdiv (2 ^ min 7 64)) (h3:y.2.fdiv (2 ^ min 7 64)*128<=y.2):Al0 n (y.1++[Ey .or .u8 (IntKind.u8.wrap (Ey .and .i64 y.2 127)) 128],y.2.fdiv (2 ^ min 7 64)):=by
 obtain⟨k,e1,e2,e3,e4⟩:=h
 cases k with
 | zero=>simp at e4;omega
 | succ k =>
  have hp:(128:Int) ^ (k+1)=128 ^ k*128:=Int.pow_succ _ _
  refine⟨k,by simp;omega,?_,by simp only[];omega,by simp only[];omega⟩
  rw[<- e2,viN,if_pos h1]
  simp
theorem Axc (h:Al0 n y) (h1:y.2<128):y.1++[IntKind.u8.wrap y.2]=viN 5 n:=by
 obtain⟨k,e1,e2,e3,e4⟩:=h
 rw[<- e2]
 cases k with
 | zero=>rfl
 | succ k=>rw[viN,if_neg (by omega)]
theorem A2d (h:128<=n):1<=n.fdiv (2 ^ min 7 64)/\n.fdiv (2 ^ min 7 64)*128<=n:=by
 have e:(2:Int) ^ min 7 64=128:=by decide
 rw[e,Int.fdiv_eq_ediv_of_nonneg _ (by omega)]
 omega
theorem Px (n:Int):PP 160 [] [.li n] [] (.tup [.imm false 1 (tY (Gl n).1),.lit (.int .i64 (Gl n).2)]):=by
 refine El Tryz.func160 ?_
 refine Bw<|.seq ?_
 refine Bw ?_
 refine B7 ?_ ?_<;>intro h10
 ·refine Bw ?_
  refine B6 ?_
  simp[go_sem]
  simp[Gl,h10]
 have h0:0<=n/\n<128 ^ 5:=by omega
 refine Bv<|.H Dy<|.seq<|.block ?_
 refine VW.whileE (fun y1:List Int×Int=>⟨[(0,.li y1.2),(4,.own 0 y1.1.length)],[.row 5 1 true false (tY y1.1)]⟩) (fun y1=>Al0 n y1) (fun y1=>y1.2.toNat) (([],n)) (wQ [0] ?_ ?_) (by exact⟨5,rfl,rfl,h0⟩) fun y1 hy1=>?_
 ·simp[go_sem]
 ·simp[go_sem]
 refine Du<|.R ?_
 refine B7 ?_ ?_<;>intro h13
 ·obtain⟨q1,q2⟩:=A2d h13
  have hln:=Aic hy1
  refine Bv<|.block<|.H Dy ?_
  refine VW.H1 Dy ?_
  refine⟨(y1.1++[Ey .or .u8 (IntKind.u8.wrap (Ey .and .i64 y1.2 127)) 128],y1.2.fdiv (2 ^ min 7 64)),?_,?_,wQ [0] ?_ ?_⟩
  ·simp only[];omega
  ·exact At2 hy1 h13 q1 q2
  all_goals simp[go_sem]
 have hln:=Aic hy1
 refine B5<|.H Dy ?_
 refine Cg 0 (by simp[go_sem,F7]) ?_
 simp[go_sem]
 refine B6 ?_
 simp[go_sem]
 have hh:¬(n<0\/4294967295<n):=by omega
 have hd:=Axc hy1 h13
 simp[Gl,hh,<- hd]
def Ui (l:List Int):Nat->Int->Nat->Int×Int×Int
 | 0,_,_=>(0,0,6)
 | f+1,n,i=>match l[i]? with
  | none=>(0,0,6)
  | some x=>if i=5 then (0,0,6)
   else
    let n':=Ey .or .i64 n (IntKind.i64.wrap (IntKind.i64.wrap (Ey .and .u8 x 127)*2 ^ min (7*(i:Int)).toNat 64))
    if 128<=x then Ui l f n' (i+1)
    else if 4294967295<n'\/(0<i/\x=0) then (0,0,6) else (n',(i:Int)+1,0)
def Q3 (l:List Int):Int×Int×Int:=Ui l 6 0 0
variable {l:List Int}
theorem Aeh {i f:Nat} {n x:Int} (h:l[i]? = some x):Ui l (f+1) n i=if i=5 then (0,0,6)
 else if 128<=x then Ui l f (Ey .or .i64 n (IntKind.i64.wrap (IntKind.i64.wrap (Ey .and .u8 x 127)*2 ^ min (7*(i:Int)).toNat 64))) (i+1)
  else if 4294967295<Ey .or .i64 n (IntKind.i64.wrap (IntKind.i64.wrap (Ey .and .u8 x 127)*2 ^ min (7*(i:Int)).toNat 64))\/(0<i/\x=0) then (0,0,6) else (Ey .or .i64 n (IntKind.i64.wrap (IntKind.i64.wrap (Ey .and .u8 x 127)*2 ^ min (7*(i:Int)).toNat 64)),(i:Int)+1,0):=by
 rw[Ui,h]
theorem At4:∀(f:Nat) (n:Int),Ui l f n l.length=(0,0,6)
 | 0,n=>rfl
 | f+1,n=>by simp[Ui]
theorem Adk (l:List Int) (hl:l.length<=1000000):PP 105 [] [.mY l] [] (.tup [.lit (.int .i64 (Q3 l).1),.lit (.int .i64 (Q3 l).2.1),.lit (.int .i64 (Q3 l).2.2)]):=by
 refine El Tryz.func105 ?_
 refine Bw ?_
 refine Bw<|.seq ?_
 refine Bw<|.block ?_
 refine Cu l.length (fun i1 (y1:Int)=>⟨[(5,.li y1),(8,.mY l),(9,.li l.length),(10,.li i1)],[]⟩) (fun i1 y1=>i1<=5/\Ui l (6 - i1) y1 i1=Q3 l) (0) (wQ [] ?_ ?_) ⟨by omega,rfl⟩ fun i1 y1 hi1 hy1=>?_
 ·simp[go_sem]
 ·simp[go_sem]
 refine Bw<|.seq ?_
 refine B7 ?_ ?_<;>intro h11
 ·have hxx:l[i1]? = some l[i1]:=Aa (by omega)
  generalize l[i1]=x at hxx
  have hax:T2 l i1=x:=by simp only[T2,hxx,Bh]
  have hst:=Aeh (l:=l) (f:=5 - i1) (n:=y1) hxx
  rw[show 5 - i1+1=6 - i1 by omega,hy1.2] at hst
  refine Bv<|.seq<|.block<|.H hxx<|.seq ?_
  refine Bw ?_
  refine B7 ?_ ?_<;>intro h16
  ·refine B5<|.R ?_
   refine B6 ?_
   simp[go_sem]
   rw[if_pos (by omega)] at hst
   simp[hst]
  have h7:=Dw (7*(i1:Int))
  have h1:=Dw ((i1:Int)+1)
  have hi5:¬i1=5:=by omega
  rw[if_neg hi5] at hst
  refine Bv<|.H h7<|.seq ?_
  refine Bw ?_
  refine B7 ?_ ?_<;>intro h26
  ·refine B5<|.R1 ?_
   refine⟨by omega,(Ey .or .i64 y1 (IntKind.i64.wrap (IntKind.i64.wrap (Ey .and .u8 x 127)*2 ^ min (7*(i1:Int)).toNat 64))),?_,wQ [] ?_ ?_⟩
   ·refine⟨by omega,?_⟩;rw[show 6 - (i1+1)=5 - i1 by omega,hst,if_pos h26]
   ·simp[go_sem,Dw ((i1:Int)+1)]
   simp[go_sem]
  refine Bv<|.seq<|.S (fun K kk=>by simp +contextual[go_sem];exact kk) ?_
  refine B7 ?_ ?_<;>intro h36
  ·refine B5<|.R ?_
   refine B6 ?_
   simp[go_sem]
   rw[if_neg (by omega),if_pos h36] at hst
   simp[hst]
  refine Bv<|.H h1 ?_
  refine B6 ?_
  simp[go_sem]
  rw[if_neg (by omega),if_neg (by omega)] at hst
  simp[hst,h1]
 refine B5<|.R ?_
 have he:i1=l.length:=by omega
 subst he
 refine B6 ?_
 simp[go_sem]
 rw[At4] at hy1
 simp[<- hy1.2]
end
def I6 (k:Int) (n:Int):List Int:=[90,165,1,IntKind.u8.wrap k,IntKind.u8.wrap (n.fdiv (2 ^ min 8 64)),IntKind.u8.wrap n]
def Kn (s:Int):List Int:=[IntKind.u8.wrap (s.fdiv (2 ^ min 24 32)),IntKind.u8.wrap (s.fdiv (2 ^ min 16 32)),IntKind.u8.wrap (s.fdiv (2 ^ min 8 32)),IntKind.u8.wrap (s.fdiv (2 ^ min 0 32))]
def Io (k:Int) (p:List Int):List Int:=I6 k p.length++p++Kn (Xf ((I6 k p.length).drop 2++p))
def Qe (k:Int) (p:List Int):List Int×Int:=if k<0\/255<k then ([],8) else if 200<p.length then ([],7) else (Io k p,0)
theorem A10 {α:Type} (z:α) (n:Nat):List.replicate (n+10) z=z::z::z::z::z::z::List.replicate (n+4) z:=rfl
theorem Afm {α:Type} (a:List α):∀(b c:List α),c.length<=b.length->Km (a++b) a.length c=a++c++b.drop c.length
 | b,[],_=>by simp[Km]
 | [],c::cs,h=>by simp at h
 | b::bs,c::cs,h=>by
  have ih:=Afm (a++[c]) bs cs (by simpa using h)
  have e:(a++b::bs).set a.length c=(a++[c])++bs:=by
   rw[List.set_append_right _ _ (Aj _)];simp
  rw[Km,e,show a.length+1=(a++[c]).length by simp,ih]
  simp
theorem A1y {α β:Type} {g:β->α} (p:List β) (a b c d e f z:α) {m:Nat} (hm:p.length<=m):Km (a::b::c::d::e::f::List.replicate (p.length+4) z) 6 (List.take m (List.map g p))=a::b::c::d::e::f::(List.map g p++[z,z,z,z]):=by
 rw[Bf (by simpa using hm)]
 have:=Afm [a,b,c,d,e,f] (List.replicate (p.length+4) z) (List.map g p) (by simp)
 simp only[A6,List.length_nil,List.cons_append,List.nil_append] at this
 rw[this,A2,List.drop_replicate,show p.length+4 - p.length=4 by omega]
 rfl
theorem Axj {A:List Int} {s:Int} {i:Nat} (hi:i<4):(A++((Kn s).take i++List.replicate (4 - i) 0)).set (A.length+i) ((Kn s).getD i 0)=A++((Kn s).take (i+1)++List.replicate (4 - (i+1)) 0):=by
 rw[List.set_append_right _ _ (by omega)]
 congr 1
 rw[show A.length+i - A.length=i by omega]
 rcases (by omega:i=0\/i=1\/i=2\/i=3) with rfl | rfl | rfl | rfl<;>simp[Kn,List.replicate]
theorem Azd (l:List Int) (i:Nat) (x:Int):(tY l).set i [.lit (.int .u8 x)]=tY (l.set i x):=by simp[tY,List.map_set]
theorem Aze {R:List Int} {n:Nat} (h:n<R.length) (v:T):(tY R).set n (((tY R)[n]?.getD []).set 0 v)=(tY R).set n [v]:=by
 simp[tY,Aa h]
theorem Apr {s:Int} {i:Nat} (hi:i<4):(Kn s).getD i 0=IntKind.u8.wrap (s.fdiv (2 ^ min (8*(3 - (i:Int))).toNat 32)):=by
 rcases (by omega:i=0\/i=1\/i=2\/i=3) with rfl | rfl | rfl | rfl<;>simp[Kn]
theorem Ai4 {n:Nat} (h:n<=200):Ab8 n=n+10:=by
 have e1:=Dw (6+(n:Int))
 have e2:=Dw (6+(n:Int)+4)
 have hh:¬((n:Int)<0\/200<(n:Int)):=by omega
 simp only[Ab8,if_neg hh,e1,e2]
 omega
theorem Aff (k:Int) (p:List Int) (hl:p.length<=1000000):PP 137 [] [.li k,.mY p] [] (.tup [.imm false 1 (tY (Qe k p).1),.lit (.int .i64 (Qe k p).2)]):=by
 refine El Tryz.func137 ?_
 refine Bw<|.seq ?_
 refine Bw ?_
 refine B7 ?_ ?_<;>intro h15
 ·refine Bw ?_
  refine B6 ?_
  simp[go_sem]
  simp[Qe,h15]
 refine Bv<|.seq<|.R ?_
 refine B7 ?_ ?_<;>intro h18
 ·refine Bw ?_
  refine B6 ?_
  simp[go_sem]
  have hh:¬(k<0\/255<k):=by omega
  have hh2:200<p.length:=by omega
  simp[Qe,hh,hh2]
 have hsz:=Ai4 (n:=p.length) (by omega)
 have hn:((p.length:Int)+10).toNat=p.length+10:=by omega
 have h6:=Dw (6+(p.length:Int))
 have h7:(6+(p.length:Int)).toNat - 2=p.length+4:=by omega
 refine Bv<|.R ?_
 refine Di hsz (Z4 p.length) ?_
 refine VW.wkE (s':=⟨[(0,.li k),(1,.mY p),(6,.li p.length),(7,.own 0 (p.length+10))],[.row 5 1 true false (tY (0::0::0::0::0::0::List.replicate (p.length+4) 0))]⟩) (wQ [0] ?_ ?_) ?_
 ·simp[go_sem,hn,A10]
 ·simp[go_sem,hn,A10]
 refine VW.H Dy ?_
 refine VW.H Dy ?_
 refine VW.H Dy ?_
 have hcp:=fun a b c d e f z=>A1y (g:=fun x=>[T.lit (Value.int IntKind.u8 x)]) p a b c d e f z (m:=((p.length:Int)+10).toNat - 6) (by omega)
 refine VW.wkE (s':=⟨[(0,.li k),(1,.mY p),(6,.li p.length),(7,.own 0 (p.length+10))],[.row 5 1 false false (tY ((I6 k p.length)++p++List.replicate 4 0))]⟩) (wQ [0] ?_ ?_) ?_
 ·simp[go_sem,hcp]
 ·simp[go_sem,hcp,I6,tY]
 refine Bx (by rfl) fun K1 hK1=>?_
 simp[go_sem,h6,h7]
 repeat' with_reducible refine Ax ?_ ?_
 all_goals try (intros;(repeat' refine Ax ?_ ?_)<;>omega)
 all_goals try (simp[I6];omega)
 refine .lo (Aie ((I6 k p.length).drop 2++p) (by simp[I6];omega)) (by simp[go_sem,I6,h7]) (by simp[AV.cln,Ff]) ?_
 simp[go_sem,h6,h7]
 refine hK1 _ ?_;clear hK1
 refine Du<|.R<|.block ?_
 refine Cb 4 (fun i1=>⟨[(6,.li p.length),(7,.own 0 (p.length+10)),(8,.lit (.int .u32 (Xf ((I6 k p.length).drop 2++p)))),(52,.li i1)],[.row 5 1 false false (tY ((I6 k p.length)++p++((Kn (Xf ((I6 k p.length).drop 2++p))).take i1++List.replicate (4 - i1) 0)))]⟩) (wQ [0] ?_ ?_) fun i1 hi1=>?_
 ·simp[go_sem]
 ·simp[go_sem]
 refine Bw<|.seq ?_
 refine B7 ?_ ?_<;>intro h53
 ·have hw1:=Dw (6+(p.length:Int)+i1)
  have hw2:=Dw (3 - (i1:Int))
  have hw3:=Dw (8*(3 - (i1:Int))) (by omega) (by omega)
  have he:(6+(p.length:Int)+i1).toNat=(I6 k p.length++p).length+i1:=by simp[I6];omega
  have hset:=congrArg tY (Axj (A:=I6 k p.length++p) (s:=Xf ((I6 k p.length).drop 2++p)) (i:=i1) (by omega))
  rw[Apr (by omega),<- Azd,<- Aze (by simp[I6,Kn];omega),<- he] at hset
  simp[tY] at hset
  refine Bv<|.seq<|.block<|.R ?_
  refine VW.region1 (by rfl) fun K1 hK1=>?_
  simp[go_sem,h6,hw1,hw2,hw3]
  repeat' with_reducible refine Ax ?_ ?_
  all_goals try (intros;(repeat' refine Ax ?_ ?_)<;>omega)
  all_goals try (simp[I6,Kn];omega)
  refine hK1 _ ?_;clear hK1
  refine Cm ?_
  refine⟨by omega,wQ [0] ?_ ?_⟩
  ·simp[go_sem,Dw ((i1:Int)+1),hset,h15,h18,h53]
  simp[go_sem,hset,h15,h18,h53]
 refine B5<|.R ?_
 have he:i1=4:=by omega
 subst he
 refine Cg 0 (by simp[go_sem,F7]) ?_
 simp[go_sem]
 refine B6 ?_
 simp[go_sem]
 have hh:¬(k<0\/255<k):=by omega
 have hh2:¬200<p.length:=by omega
 have hc:p.length+10=(I6 k p.length).length+(p.length+4):=by simp[I6];omega
 simp[Qe,Io,hh,hh2,tY,Kn,if_pos hc,go_sem]
theorem Axk {α β:Type} {g:β->α} (r:List β) {n:Nat} {z:α} (h:n<=r.length):Km (List.replicate n z) 0 (List.take n (List.take n (List.map g r)))=List.map g (List.take n r):=by
 have:=Afm [] (List.replicate n z) (List.map g (List.take n r)) (by simp;omega)
 simp only[List.nil_append,List.length_nil] at this
 rw[List.take_take,Nat.min_self,<- List.map_take,this,List.drop_of_length_le (by simp;omega)]
 simp
theorem Aps {n:Int} (h0:0<=n) (h:n<=200):Ab8 n=n+10:=by
 obtain⟨m,rfl⟩:=Int.eq_ofNat_of_zero_le h0
 exact Ai4 (by omega)
def By (l:List Int):Prop:=∀x,x∈l->0<=x/\x<256
theorem Apl {a b:Int} (ha:0<=a) (ha':a<4611686018427387904) (hb:0<=b) (hb':b<4611686018427387904):Ey .or .i64 a b=((a.toNat ||| b.toNat:Nat):Int):=by
 obtain⟨m,rfl⟩:=Int.eq_ofNat_of_zero_le ha
 obtain⟨n,rfl⟩:=Int.eq_ofNat_of_zero_le hb
 have hm:m<2 ^ 62:=by omega
 have hn:n<2 ^ 62:=by omega
 have h:=Nat.or_lt_two_pow hm hn
 have e:(BitVec.ofInt 64 (m:Int) ||| BitVec.ofInt 64 (n:Int)).toNat=m ||| n:=by
  rw[BitVec.ofInt_natCast,BitVec.ofInt_natCast,BitVec.toNat_or,BitVec.toNat_ofNat,BitVec.toNat_ofNat,Nat.mod_eq_of_lt (by omega),Nat.mod_eq_of_lt (by omega)]
 show IntKind.i64.wrap (((BitVec.ofInt 64 (m:Int) ||| BitVec.ofInt 64 (n:Int)).toNat:Nat):Int)=_
 rw[e,Dw _]
 simp
theorem A13 {x y:Int} (hx:0<=x/\x<256) (hy:0<=y/\y<256):Ey .or .i64 (IntKind.i64.wrap (IntKind.i64.wrap x*256)) (IntKind.i64.wrap y)=x*256+y:=by
 rw[Dw x,Dw (x*256),Dw y,Apl (by omega) (by omega) (by omega) (by omega)]
 obtain⟨m,rfl⟩:=Int.eq_ofNat_of_zero_le hx.1
 obtain⟨n,rfl⟩:=Int.eq_ofNat_of_zero_le hy.1
 have:=Nat.shiftLeft_add_eq_or_of_lt (i:=8) (b:=n) (by omega) m
 rw[Nat.shiftLeft_eq] at this
 rw[show ((m:Int)*256).toNat=m*2 ^ 8 by omega,Int.toNat_natCast,<- this]
 omega
def Ez:List Int->E7×Int×Bool
 | []=>(⟨0,0,[]⟩,0,false)
 | [b0]=>if b0≠90 then (⟨2,0,[]⟩,1,true) else (⟨0,0,[]⟩,0,false)
 | b0::b1::r=>if b0≠90\/b1≠165 then (⟨2,0,[]⟩,1,true) else match r with
  | b2::b3::b4::b5::r =>
   let n:=b4*256+b5
   if 200<n then (⟨7,0,[]⟩,1,true)
   else if (r.length:Int)<n+4 then (⟨0,0,[]⟩,0,false)
   else if Xf (b2::b3::b4::b5::r.take n.toNat)≠Asg ((r.drop n.toNat).take 4) then (⟨4,0,[]⟩,1,true)
   else if b2≠1 then (⟨3,0,[]⟩,n+10,true)
   else if b3<1\/22<b3 then (⟨5,0,[]⟩,n+10,true)
   else (⟨0,b3,r.take n.toNat⟩,n+10,true)
  | _=>(⟨0,0,[]⟩,0,false)
theorem Ahn (b:List Int) (hl:b.length<=1000000) (hb:By b):PP 140 [] [.mY b] [] (.tup [.agg ((Ez b).1.a false),.lit (.int .i64 (Ez b).2.1),.lb ((Ez b).2.2)]):=by
 refine El Tryz.func140 ?_
 refine Bw<|.seq ?_
 refine Bw ?_
 refine B7 ?_ ?_<;>intro h11
 ·refine Bw ?_
  refine B6 ?_
  simp[go_sem,h11,Ez]
 refine Bv<|.seq ?_
 obtain⟨b0,r,rfl⟩:=List.exists_cons_of_ne_nil h11
 rcases r with _ | ⟨b1,r⟩
 ·refine VW.H Dy ?_
  refine B7 ?_ ?_<;>intro h27
  ·refine Bw ?_
   refine B6 ?_
   simp[go_sem]
   (simp[Ez,h27];done)
  refine Bv<|.seq<|.R ?_
  refine C8 ?_ ?_<;>intro h31<;>simp[go_sem] at h31
  refine Bw ?_
  refine B6 ?_
  simp[go_sem]
  (simp[Ez,h27];done)
 refine VW.H Dy ?_
 refine B7 ?_ ?_<;>intro h27
 ·refine Bw ?_
  refine B6 ?_
  simp[go_sem]
  first | (simp[Ez,h27];done) | (have e:¬b0=90\/¬b1=165:=(by omega);simp[Ez,e])
 refine Bv<|.seq<|.R ?_
 refine B7 ?_ ?_<;>intro h31
 ·refine Bw ?_
  refine B6 ?_
  simp[go_sem]
  first | (simp[Ez,h27];done) | (have e:¬(¬b0=90\/¬b1=165):=(by omega);rcases r with _ | ⟨b2,_ | ⟨b3,_ | ⟨b4,_ | ⟨b5,r⟩⟩⟩⟩<;>first | (simp[Ez,e];done) | (exfalso;simp at h31;done) | (exfalso;simp at h31;omega))
 obtain⟨b2,b3,b4,b5,r,rfl⟩:∃b2 b3 b4 b5 r',r=b2::b3::b4::b5::r':=by
  rcases r with _ | ⟨b2,_ | ⟨b3,_ | ⟨b4,_ | ⟨b5,r⟩⟩⟩⟩<;>first | exact⟨_,_,_,_,_,rfl⟩ | (exfalso;simp at h31;done)
 have h4:=hb b4 (by simp)
 have h5:=hb b5 (by simp)
 have hn:=A13 h4 h5
 refine Bv<|.G hn<|.seq ?_
 refine Bw ?_
 refine B7 ?_ ?_<;>intro h44
 ·refine Bw ?_
  refine B6 ?_
  simp[go_sem]
  have e27:¬(¬b0=90\/¬b1=165):=(by omega)
  simp[Ez,e27,h44]
 generalize hN:b4*256+b5=N at *
 have h0:0<=N:=by omega
 have hs:=Aps (n:=N) (by omega) (by omega)
 have hw:=Dw (6+N)
 have e1:(6+N).toNat=N.toNat+6:=by omega
 have e2:(N+10).toNat=N.toNat+10:=by omega
 refine Bv<|.L hs (Z4 N)<|.seq ?_
 refine Bw ?_
 refine B7 ?_ ?_<;>intro h51
 ·refine Bw ?_
  refine B6 ?_
  simp[go_sem]
  have e27:¬(¬b0=90\/¬b1=165):=(by omega)
  have c44:¬200<N:=(by omega)
  have c51:(r.length:Int)<N+4:=(by omega)
  simp[Ez,e27,hN,c44,c51]
 refine Bv<|.seq<|.E (fun K kk=>by simp[go_sem,hw,e1,e2];(repeat refine aK ?_);refine .lo (Aie (b2::b3::b4::b5::r.take N.toNat) (by simp;omega)) (by simp[go_sem]) (by simp[AV.cln,Ff]) ?_;simp[go_sem,hw,e1,e2];(repeat refine aK ?_);refine .lo (Afe ((r.drop N.toNat).take 4) (by simp;omega)) (by simp[go_sem,List.drop_take]) (by simp[AV.cln,Ff]) ?_;simp[go_sem,hw,e1,e2];exact kk) ?_
 refine B7 ?_ ?_<;>intro h64
 ·refine Bw ?_
  refine B6 ?_
  simp[go_sem]
  have e27:¬(¬b0=90\/¬b1=165):=(by omega)
  have c44:¬200<N:=(by omega)
  have c51:¬(r.length:Int)<N+4:=(by omega)
  simp[Ez,e27,hN,c44,c51,h64]
 refine Bv<|.seq<|.H Dy ?_
 refine B7 ?_ ?_<;>intro h69
 ·refine Bw ?_
  refine B6 ?_
  simp[go_sem]
  have e27:¬(¬b0=90\/¬b1=165):=(by omega)
  have c44:¬200<N:=(by omega)
  have c51:¬(r.length:Int)<N+4:=(by omega)
  simp[Ez,e27,hN,c44,c51,h64,h69]
 have h3:=hb b3 (by simp)
 have hk:=Dw b3
 subst h69
 refine Bv<|.H hk<|.seq ?_
 refine Bw ?_
 refine B7 ?_ ?_<;>intro h81
 ·refine Bw ?_
  refine B6 ?_
  simp[go_sem]
  have e27:¬(¬b0=90\/¬b1=165):=(by omega)
  have c44:¬200<N:=(by omega)
  have c51:¬(r.length:Int)<N+4:=(by omega)
  have e81:b3<1\/22<b3:=(by omega)
  simp[Ez,e27,hN,c44,c51,h64,e81]
 refine Bv<|.H Dy ?_
 refine Cc (fun K kk=>by simp[go_sem,hw,e1];repeat first | exact kk | refine aK ?_) ?_
 have hrl:N.toNat<=r.length:=(by omega)
 have hm:min N.toNat r.length=N.toNat:=Nat.min_eq_left hrl
 have hcp:=Axk (g:=fun x=>[T.lit (Value.int IntKind.u8 x)]) r (z:=[T.lit (Value.int IntKind.u8 0)]) hrl
 simp only[hcp]
 refine Cg 1 (by simp[go_sem,F7]) ?_
 simp[go_sem,hm]
 refine Bw ?_
 refine B6 ?_
 simp[go_sem]
 have e27:¬(¬b0=90\/¬b1=165):=(by omega)
 have c44:¬200<N:=(by omega)
 have c51:¬(r.length:Int)<N+4:=(by omega)
 have e81:¬(b3<1\/22<b3):=(by omega)
 simp[Ez,e27,hN,c44,c51,h64,e81,hm,go_sem]
section
theorem Axe (v:Int) {n:Int} (h:1<=n):-n<v.tmod n/\v.tmod n<n:=by
 have h1:=Int.tmod_lt_of_pos v (show 0<n by omega)
 have h2:=Int.tmod_lt_of_pos (-v) (show 0<n by omega)
 rw[Int.neg_tmod] at h2
 omega
def Oa {α:Type} (f:α->List T) (n:Nat) (X:List (List T)):Prop:=∃R:List α,X=R.map f/\R.length=n
variable {z:List T}
section
variable {α:Type} {f:α->List T} {n k:Nat} {X Y:List (List T)}
theorem Mt {l:List α}:Oa f l.length (l.map f):=⟨l,rfl,rfl⟩
theorem Ms:Oa f 0 []:=⟨[],rfl,rfl⟩
theorem Mr {x:α} (h:z=f x):Oa f n (List.replicate n z):=⟨List.replicate n x,by simp[h],by simp⟩
theorem Ku (h:Oa f n X):Oa f (min k n) (List.take k X):=by
 obtain⟨R,rfl,rfl⟩:=h
 exact⟨R.take k,by simp,by simp⟩
theorem Kw (h:Oa f n X):Oa f (n - k) (List.drop k X):=by
 obtain⟨R,rfl,rfl⟩:=h
 exact⟨R.drop k,by simp,by simp⟩
theorem Qp (h:Oa f n X) (h2:Oa f k Y):Oa f (n+k) (X++Y):=by
 obtain⟨R,rfl,rfl⟩:=h
 obtain⟨S,rfl,rfl⟩:=h2
 exact⟨R++S,by simp,by simp⟩
theorem Qo {i:Nat} {x:α} (h:Oa f n X) (hz:z=f x):Oa f n (X.set i z):=by
 obtain⟨R,rfl,rfl⟩:=h
 exact⟨R.set i x,by simp[hz,List.map_set],by simp⟩
theorem Aup (R S:List α) (i:Nat):∃R':List α,Km (R.map f) i (S.map f)=R'.map f/\R'.length=R.length:=by
 induction S generalizing R i with
 | nil=>exact⟨R,rfl,rfl⟩
 | cons x S ih =>
  obtain⟨R',h1,h2⟩:=ih (R.set i x) (i+1)
  refine⟨R',?_,by simpa using h2⟩
  rw[List.map_cons,Km,<- List.map_set,h1]
theorem Kv {i:Nat} (h:Oa f n X) (h2:Oa f k Y):Oa f n (Km X i Y):=by
 obtain⟨R,rfl,rfl⟩:=h
 obtain⟨S,rfl,rfl⟩:=h2
 exact Aup R S i
theorem Kx (h:Oa f n X) (e:n=k):Oa f k X:=e▸h
end
theorem Ain:∀(l:List Ob) (n:Nat),n<l.length->Pg l n (l.getD n .gone)=l
 | [],_,h=>by simp at h
 | _::_,0,_=>rfl
 | _::l,n+1,h=>by simp only[Pg,List.getD_cons_succ];rw[Ain l n (by simpa using h)]
variable {P:Program}
theorem VX.gen {n m:Nat} {c:Code} {st:St} {K:Exit->St->Prop} {α:Type} (id:Nat) {ty k:Nat} {g fr:Bool} {X:List (List T)} (ho:st.o id=.row ty k g fr X) (hl:id<st.ob.length) (f:α->List T) (N:Nat) (h:Oa f N X) (hv:∀R:List α,R.length=N->VX P n m c (st.set id (.row ty k g fr (R.map f))) K):VX P n m c st K:=by
 obtain⟨R,rfl,h2⟩:=h
 have:=hv R h2
 rw[<- ho] at this
 rwa[show st.set id (st.o id)=st by show St.mk _ _=_;rw[show st.o id=st.ob.getD id .gone from rfl,Ain _ _ hl]] at this
abbrev Ds:=@VX.gen
def A2o (P:Program) {D:Type} (rs:List ResultVar) (F:D->AV) (S:D->List Ob) (Q:D->Prop) (e:Exit) (st:St):Prop:=∃d,Rm P 0 rs (S d) (F d) e st/\Q d
theorem Nr {f:FuncId} {fn:Func} {c:Code} {args:List AV} {D:Type} {F:D->AV} {S:D->List Ob} {Q:D->Prop} (hf:P.funcs[f]? = some fn) (hb:fn.body=some c) (hn:(fn.name == "runtime.NumGoroutine")=false) {rs:List ResultVar} (hrs:fn.results=rs.toArray) (hk:args.length<=fn.ntmps) (h:VX P fn.ntmps 0 c ⟨H0 0 args,[]⟩ (A2o P rs F S Q)):∃d,E4 P f [] args (S d) (F d)/\Q d:=by
 obtain⟨e,s,h1,d,h2,h3⟩:=h
 refine⟨d,Aeo hf hb hn hrs hk (h1.mono ?_),h3⟩
 rintro e' s' ⟨rfl,rfl⟩
 exact h2
theorem Aci (p:F5):Ct 114 [p.g] (fun d:Int=>.li d) (fun d=>True):=by
 refine Ev Tryz.func114 ?_
 iterate 2 refine Bq ?_
 refine Bz (Fl ?_);simp[go_sem]
 exact⟨_,rfl,trivial⟩
theorem Zu (p:F5) (l:Fz):Ct 84 [p.g,l.g] (fun d:Int=>.li d) (fun d=>True):=by
 refine Ev Tryz.func84 ?_
 refine Bq<|.seq ?_
 refine Bq<|.block ?_
 refine Bq ?_
 refine Br ?_ ?_<;>intro h7
 ·obtain⟨Y1,cY1,qY1⟩:=Eo (Aci p)
  refine Dd Dy cY1 ?_
  refine Bz (Fl ?_);simp[go_sem]
  exact⟨_,rfl,trivial⟩
 refine Bq ?_
 refine Br ?_ ?_<;>intro h16
 ·refine Bq ?_
  refine Bz (Fl ?_);simp[go_sem]
  exact⟨_,rfl,trivial⟩
 refine Bq ?_
 refine Br ?_ ?_<;>intro h24
 ·refine Bq ?_
  refine Bz (Fl ?_);simp[go_sem]
  exact⟨_,rfl,trivial⟩
 refine Bp<|.R ?_
 refine Bz (Fl ?_);simp[go_sem]
 exact⟨_,rfl,trivial⟩
theorem V6 (p:F5) (l:Fz) (b:Bool):Ct 202 [p.g,l.g,.lb b] (fun d:Fz=>d.g) (fun d=>True):=by
 refine Ev Tryz.func202 ?_
 refine Bq<|.seq ?_
 refine Bq<|.block ?_
 refine Bq ?_
 refine Br ?_ ?_<;>intro h9
 ·refine B9 ?_
  refine Dc (by kernel_rfl) (by rfl) (by kernel_rfl) fun K1 hK1=>?_
  simp[go_sem]
  refine O5 (by simp[go_sem]) (by simp[go_sem]) ?_
  simp[go_sem]
  obtain⟨Y1,cY1,qY1⟩:=Eo (Aci p)
  refine .lo cY1 rfl (by simp) ?_
  simp[go_sem]
  refine hK1 _ _ (by kernel_rfl) ?_;clear hK1
  refine Br ?_ ?_<;>intro h19
  ·refine Bq ?_
   refine Bz (Fl ?_);simp[go_sem]
   exact⟨⟨_,_⟩,by rfl,trivial⟩
  refine Bp<|.R ?_
  refine Bz (Fl ?_);simp[go_sem]
  exact⟨⟨_,_⟩,by rfl,trivial⟩
 refine Bq ?_
 refine Br ?_ ?_<;>intro h26
 ·refine B9<|.R ?_
  refine Br ?_ ?_<;>intro h33
  ·refine Bq ?_
   refine Bz (Fl ?_);simp[go_sem]
   exact⟨⟨_,_⟩,by rfl,trivial⟩
  refine Bp<|.seq<|.R ?_
  refine Br ?_ ?_<;>intro h40
  ·refine Bq ?_
   refine Bz (Fl ?_);simp[go_sem]
   exact⟨⟨_,_⟩,by rfl,trivial⟩
  refine Bp<|.R ?_
  refine Bz (Fl ?_);simp[go_sem]
  exact⟨⟨_,_⟩,by rfl,trivial⟩
 refine Bq ?_
 refine Br ?_ ?_<;>intro h43
 ·refine B9<|.R ?_
  refine Br ?_ ?_<;>intro h50
  ·refine Bq ?_
   refine Bz (Fl ?_);simp[go_sem]
   exact⟨⟨_,_⟩,by rfl,trivial⟩
  refine Bp<|.R ?_
  refine Bz (Fl ?_);simp[go_sem]
  exact⟨⟨_,_⟩,by rfl,trivial⟩
 refine Bp<|.R ?_
 refine Bz (Fl ?_);simp[go_sem]
 exact⟨⟨_,_⟩,by rfl,trivial⟩
def Am4 (p:F5) (l:Fz) (b:Bool):Fz:=(Eo (V6 p l b)).choose
theorem Al9 (p:F5) (l:Fz) (b:Bool):PP 202 [] [p.g,l.g,.lb b] [] (.agg ((Am4 p l b).a false)):=(Eo (V6 p l b)).choose_spec.1
theorem Ajk (p:F5) (l:Fz):Ct 219 [p.g,l.g] (fun d:Bool=>.lb d) (fun d=>True):=by
 refine Ev Tryz.func219 ?_
 refine Bq<|.seq ?_
 refine Bq<|.block ?_
 refine Bq ?_
 refine Br ?_ ?_<;>intro h7
 ·refine Bq ?_
  refine Bz (Fl ?_);simp[go_sem]
  exact⟨_,rfl,trivial⟩
 refine Bq ?_
 refine Br ?_ ?_<;>intro h12
 ·refine Bq ?_
  refine Bz (Fl ?_);simp[go_sem]
  exact⟨_,rfl,trivial⟩
 refine Bq ?_
 refine Br ?_ ?_<;>intro h22
 ·refine Bq ?_
  refine Bz (Fl ?_);simp[go_sem]
  exact⟨_,rfl,trivial⟩
 refine Bq ?_
 refine Br ?_ ?_<;>intro h34
 ·refine Bq ?_
  refine Bz (Fl ?_);simp[go_sem]
  exact⟨_,rfl,trivial⟩
 refine Bp<|.R ?_
 refine Bz (Fl ?_);simp[go_sem]
 exact⟨_,rfl,trivial⟩
theorem S9 (n:Int):Ct 205 [.li n] (fun d:Bool=>.lb d) (fun d=>True):=by
 refine Ev Tryz.func205 ?_
 iterate 2 refine Bq ?_
 refine Bz (Fl ?_);simp[go_sem]
 exact⟨_,rfl,trivial⟩
theorem Ajg (b:Ji):Ct 255 [b.g] (fun d:Bool=>.lb d) (fun d=>True):=by
 refine Ev Tryz.func255 ?_
 iterate 2 refine Bq ?_
 refine Bz (Fl ?_);simp[go_sem]
 exact⟨_,rfl,trivial⟩
theorem Ve (a:Hy) (c:Int):Ct 277 [a.g,.li c] (fun d:Int=>.li d) (fun d=>True):=by
 refine Ev Tryz.func277 ?_
 refine Bq<|.seq ?_
 refine Bq ?_
 refine Br ?_ ?_<;>intro h13
 ·refine Bq ?_
  refine Bz (Fl ?_);simp[go_sem]
  exact⟨_,rfl,trivial⟩
 have hxx:a.lims[c.toNat]? = some a.lims[c.toNat]:=Aa (by omega)
 generalize a.lims[c.toNat]=x at hxx
 refine Bp<|.H hxx ?_
 refine Bz (Fl ?_);simp[go_sem]
 exact⟨_,rfl,trivial⟩
theorem Rv (x:Int):0<=IntKind.u8.wrap x/\IntKind.u8.wrap x<256:=by
 have e:IntKind.u8.wrap x=x % 256:=by simp[IntKind.wrap,show IntKind.u8.signed=false from rfl,show IntKind.u8.bits=8 from rfl]
 omega
theorem By.app {l m:List Int} (h:By l) (h':By m):By (l++m):=fun x hx=>(A0.1 hx).elim (h x) (h' x)
theorem By.nil:By []:=fun _ h=>absurd h A8
variable {l:List Int}
theorem By.set (h:By l) (i:Nat) {x:Int} (hx:0<=x/\x<256):By (l.set i x):=fun y hy=>(Bi hy).elim (h y) fun e=>e▸hx
theorem By.u8 (x:Int):By [IntKind.u8.wrap x]:=fun y hy=>by rw[An.1 hy];exact Rv x
theorem By.cons {x:Int} (hx:0<=x/\x<256) (h:By l):By (x::l):=fun y hy=>(List.mem_cons.1 hy).elim (fun e=>e▸hx) (h y)
theorem By.rep (n:Nat):By (List.replicate n 0):=fun y hy=>by rw[(List.mem_replicate.1 hy).2];decide
section
variable (k:Int) (v:Int)
include k v
theorem Yx:Ct 191 [.li k,.li v] (fun d:Dz=>d.g) (fun d=>d=⟨14,[],[k,v],[]⟩):=by
 refine Ev Tryz.func191 ?_
 iterate 2 refine Bq ?_
 refine B2 Dy 1 ?_
 refine Bz (Fl ?_);simp[go_sem]
 exact⟨⟨_,[],[_,_],[]⟩,by rfl,rfl⟩
def Jl:Dz:=(Eo (Yx k v)).choose
theorem Ur:PP 191 [] [.li k,.li v] [] (.agg ((Jl k v).a false)):=(Eo (Yx k v)).choose_spec.1
theorem Ml:Jl k v=⟨14,[],[k,v],[]⟩:=(Eo (Yx k v)).choose_spec.2
end
theorem Jx (n:Int):Ct 77 [.li n] (fun d:Bool=>.lb d) (fun d=>True):=by
 refine Ev Tryz.func77 ?_
 iterate 2 refine Bq ?_
 refine Bz (Fl ?_);simp[go_sem]
 exact⟨_,rfl,trivial⟩
def Ic (n:Int):Bool:=(Eo (Jx n)).choose
theorem Jz (n:Int):PP 77 [] [.li n] [] (.lb (Ic n)):=(Eo (Jx n)).choose_spec.1
section
variable (v:Int) (n:Int) (h:1<=n) (hn:n<=1000000)
include v h hn
theorem It:Ct 15 [.li v,.li n] (fun d:Int=>.li d) (fun d=>0<=d/\d<n):=by
 refine Ev Tryz.func15 ?_
 have hm:=Axe v h
 have hw:=Dw (v.tmod n+n)
 refine Bq ?_
 refine Bu Dy<|.seq ?_
 refine Bq ?_
 refine Br ?_ ?_<;>intro h10
 ·refine B0 hw ?_
  refine Bq ?_
  refine Bz (Fl ?_);simp[go_sem]
  exact⟨_,rfl,(by omega)⟩
 refine Bp<|.R ?_
 refine Bz (Fl ?_);simp[go_sem]
 exact⟨_,rfl,(by omega)⟩
def Kc:Int:=(Eo (It v n h hn)).choose
theorem Nb:PP 15 [] [.li v,.li n] [] (.li (Kc v n h hn)):=(Eo (It v n h hn)).choose_spec.1
theorem No:(fun d:Int=>0<=d/\d<n) (Kc v n h hn):=(Eo (It v n h hn)).choose_spec.2
end
end
section
variable (l:List Hl) (id:Int) (hl:l.length<=1000000)
include id hl
theorem V2:Ct 239 [.mVeh l,.li id] (fun d:Hl×Bool=>.tup [d.1.g,.lb d.2]) (fun d=>True):=by
 refine Ev Tryz.func239 ?_
 refine Bq<|.seq ?_
 refine Bq<|.block ?_
 refine Bs l.length (fun i1 (y1:Int×Int)=>⟨[(1,.li id),(4,.ptr 0 0),(8,.mVeh l),(9,.li l.length),(10,.li i1)],[.box 216 [.li y1.1,.li y1.2]]⟩) (fun i1 y1=>True) (0,0) (wk Dy [0]) (trivial) fun i1 y1 hi1 hy1=>?_
 refine Bq<|.seq ?_
 refine Br ?_ ?_<;>intro h11
 ·refine Bp<|.seq<|.block ?_
  have H1:l[i1]? = some l[i1]:=Aa (by omega)
  generalize l[i1]=e1 at H1
  refine Bu H1 ?_
  refine Bu H1 ?_
  refine Br ?_ ?_<;>intro h17
  ·refine Bu H1 ?_
   exact .ret (Eu H1 (e1,true) trivial)
  refine Bp<|.H1 H1 ?_
  exact⟨by omega,(y1.1,y1.2),trivial,wk (Fe (Dw ((i1:Int)+1)) H1) [0]⟩
 refine Bt<|.R ?_
 exact .ret (Eu Dy (⟨0,0⟩,false) trivial)
def Ib:Hl×Bool:=(Eo (V2 l id hl)).choose
theorem Ae5:PP 239 [] [.mVeh l,.li id] [] (.tup [.agg ((Ib l id hl).1.a false),.lit (.bool (Ib l id hl).2)]):=(Eo (V2 l id hl)).choose_spec.1
end
theorem Vf (l:List Hl) (c:Int) (hl:l.length<=1000000):Ct 276 [.mVeh l,.li c] (fun d:Int=>.li d) (fun d=>True):=by
 refine Ev Tryz.func276 ?_
 refine Bq ?_
 refine Bq<|.seq ?_
 refine Bq<|.block ?_
 refine Bs l.length (fun i1 (y1:Int)=>⟨[(1,.li c),(5,.li y1),(8,.mVeh l),(9,.li l.length),(10,.li i1)],[]⟩) (fun i1 y1=>True) (0) (wk Dy []) (trivial) fun i1 y1 hi1 hy1=>?_
 refine Bq<|.seq ?_
 refine Br ?_ ?_<;>intro h11
 ·refine Bp<|.seq<|.block ?_
  have H1:l[i1]? = some l[i1]:=Aa (by omega)
  generalize l[i1]=e1 at H1
  refine Bu H1 ?_
  refine Bu H1 ?_
  refine Br ?_ ?_<;>intro h17
  ·refine B0 H1 ?_
   refine B0 H1 ?_
   exact⟨by omega,(IntKind.i64.wrap (y1+1)),trivial,wk (Fe (Dw ((i1:Int)+1)) H1) []⟩
  refine Bp<|.H1 H1 ?_
  exact⟨by omega,(y1),trivial,wk (Fe (Dw ((i1:Int)+1)) H1) []⟩
 refine Bt<|.R ?_
 exact .ret (Eu Dy y1 trivial)
section
variable (l:List Hl) (hl:l.length<=1000000)
include hl
theorem L3:Ct 254 [.mVeh l] (fun d:Bool=>.lb d) (fun d=>True):=by
 refine Ev Tryz.func254 ?_
 refine Bq<|.seq ?_
 refine Bq ?_
 refine Br ?_ ?_<;>intro h7
 ·refine Bq ?_
  exact .ret (Eu Dy false trivial)
 refine Bp<|.seq<|.R<|.block ?_
 refine Bs l.length (fun i1 (y1:Unit)=>⟨[(0,.mVeh l),(8,.mVeh l),(9,.li l.length),(10,.li i1)],[]⟩) (fun i1 y1=>True) () (wk Dy []) (trivial) fun i1 y1 hi1 hy1=>?_
 refine Bq<|.seq ?_
 refine Br ?_ ?_<;>intro h11
 ·refine Bp<|.seq<|.block ?_
  have H1:l[i1]? = some l[i1]:=Aa (by omega)
  generalize l[i1]=e1 at H1
  refine Bu H1<|.seq ?_
  refine Bu H1 ?_
  refine Br ?_ ?_<;>intro h32
  ·refine Bu H1 ?_
   exact .ret (Eu H1 false trivial)
  refine Bp ?_
  by_cases hc8:0<i1
  ·have hw2:=Dw (i1 - 1:Int)
   have H3:l[(i1 - 1)]? = some l[(i1 - 1)]:=Aa (by omega)
   generalize l[(i1 - 1)]=e3 at H3
   refine C9 (O4 H1 hc8 hw2 H3) ?_
   refine Br ?_ ?_<;>intro h45
   ·refine Bu (O4 H1 hc8 hw2 H3) ?_
    exact .ret (Eu (O4 H1 hc8 hw2 H3) false trivial)
   refine Bp<|.H1 (O4 H1 hc8 hw2 H3) ?_
   exact⟨by omega,(),trivial,wk (Yo (Dw ((i1:Int)+1)) H1 hc8 hw2 H3) []⟩
  have hi0:i1=0:=by omega
  have hxb:l[i1 - 1]? = some e1:=by rw[<- H1,hi0]
  have hw4:=Dw (i1 - 1:Int)
  refine C9 (O4 H1 hc8 hxb hw4) ?_
  refine Ck ?_ ?_<;>intro h45<;>simp[go_sem] at h45
  refine Bp<|.H1 (O4 H1 hc8 hxb hw4) ?_
  exact⟨by omega,(),trivial,wk (Yo (Dw ((i1:Int)+1)) H1 hc8 hxb hw4) []⟩
 refine Bt<|.R ?_
 exact .ret (Eu Dy true trivial)
def Ad5:Bool:=(Eo (L3 l hl)).choose
theorem Adj:PP 254 [] [.mVeh l] [] (.lb (Ad5 l hl)):=(Eo (L3 l hl)).choose_spec.1
end
section
variable (l:List Hl) (id:Int) (hl:l.length<=1000000)
include id hl
theorem L2:Ct 260 [.mVeh l,.li id] (fun d:Int=>.li d) (fun d=>0<=d/\d<=l.length):=by
 refine Ev Tryz.func260 ?_
 refine Bq ?_
 refine Bq<|.seq<|.block ?_
 refine Cj (fun (y1:Int)=>⟨[(0,.mVeh l),(1,.li id),(5,.li y1)],[]⟩) (fun y1=>0<=y1/\y1<=l.length) (fun y1=>(l.length - y1).toNat) (0) (wk Dy []) (by omega) fun y1 hy1=>?_
 refine B9 ?_
 by_cases hc2:y1<l.length
 ·have H1:l[y1.toNat]? = some l[y1.toNat]:=Aa (by omega)
  generalize l[y1.toNat]=e1 at H1
  refine Bu (Fe hc2 H1) ?_
  refine Br ?_ ?_<;>intro h18
  ·refine Bp<|.block ?_
   have hw2:=Dw (y1+1:Int)
   refine B0 (I1 hc2 H1 hw2) ?_
   refine⟨((y1+1)),?_,?_,wQ [] ?_ ?_⟩
   ·omega
   ·omega
   all_goals simp[go_sem,hc2,H1,hw2]
  refine Bt<|.H (Fe hc2 H1) ?_
  exact .ret (Eu (Fe hc2 H1) y1 hy1)
 refine Bu hc2 ?_
 refine Ck ?_ ?_<;>intro h18<;>simp[go_sem] at h18
 refine Bt<|.H hc2 ?_
 exact .ret (Eu hc2 y1 hy1)
def L9:Int:=(Eo (L2 l id hl)).choose
theorem Adi:PP 260 [] [.mVeh l,.li id] [] (.li (L9 l id hl)):=(Eo (L2 l id hl)).choose_spec.1
theorem Ad6:0<=(L9 l id hl)/\(L9 l id hl)<=l.length:=(Eo (L2 l id hl)).choose_spec.2
end
theorem Yu (l:List Hl) (a:Hy) (v:Hl) (hl:l.length<=1000000):Ct 259 [.mVeh l,a.g,v.g] (fun d:List Hl×Int=>.tup [.mVeh d.1,.li d.2]) (fun d=>d.1.length<=8/\0<=d.2/\d.2<=99):=by
 refine Ev Tryz.func259 ?_
 obtain⟨Y1,cY1,qY1⟩:=Eo (L2 l v.id hl)
 have hp:=qY1
 refine Bq<|.seq ?_
 obtain⟨Y2,cY2,qY2⟩:=Eo (L3 l hl)
 refine B8 Dy cY2 ?_
 refine Br ?_ ?_<;>intro h12
 ·refine Bq ?_
  exact .ret (Eu Dy ([],1) (by first | omega | (simp;done)))
 refine Bp<|.seq<|.R ?_
 refine Br ?_ ?_<;>intro h20
 ·refine Bq ?_
  exact .ret (Eu Dy ([],8) (by first | omega | (simp;done)))
 refine Bp<|.seq<|.R ?_
 refine Br ?_ ?_<;>intro h30
 ·refine Bq ?_
  exact .ret (Eu Dy ([],17) (by first | omega | (simp;done)))
 refine Bp<|.L Dy cY1<|.seq ?_
 by_cases hc8:Y1<l.length
 ·have H1:l[Y1.toNat]? = some l[Y1.toNat]:=Aa (by omega)
  generalize l[Y1.toNat]=e1 at H1
  refine C9 (Fe hc8 H1) ?_
  refine Br ?_ ?_<;>intro h48
  ·refine Bu (Fe hc8 H1) ?_
   exact .ret (Eu (Fe hc8 H1) ([],11) (by first | omega | (simp;done)))
  refine Bp<|.seq ?_
  obtain⟨Y3,cY3,qY3⟩:=Eo (Vf l v.cls hl)
  obtain⟨Y4,cY4,qY4⟩:=Eo (Ve a v.cls)
  refine Cw (fun K kk=>by simp[go_sem,hc8,H1];refine .l cY3 ?_;simp[go_sem,hc8,H1];refine .l cY4 ?_;simp[go_sem,hc8,H1];exact kk) ?_
  refine Br ?_ ?_<;>intro h57
  ·refine Bu (Fe hc8 H1) ?_
   exact .ret (Eu (Fe hc8 H1) ([],14) (by first | omega | (simp;done)))
  refine Bp<|.seq<|.H (Fe hc8 H1) ?_
  refine Br ?_ ?_<;>intro h60
  ·refine Bu (Fe hc8 H1) ?_
   exact .ret (Eu (Fe hc8 H1) ([],10) (by first | omega | (simp;done)))
  refine Bp ?_
  have hw2:=Dw (l.length+1:Int)
  refine Bu (I1 hc8 H1 hw2) ?_
  refine Bu (I1 hc8 H1 hw2) ?_
  refine Ds 2 rfl (by simp) Hl.t (l.length+1) ?_ fun R hR=>?_
  ·apply Kx
   ·repeat' first | exact Mt | exact Ms | exact Mr (x:=(⟨0,0⟩:Hl)) rfl | apply Ku | apply Kw | apply Kv
   rfl
  simp[go_sem]
  have H3:R[Y1.toNat]? = some R[Y1.toNat]:=Aa (by omega)
  generalize R[Y1.toNat]=e3 at H3
  refine Bu (Yo hc8 H1 hw2 hR H3) ?_
  have hw4:=Dw (Y1+1:Int)
  refine C9 (cj6 hc8 H1 hw2 hR H3 hw4) ?_
  refine Ds 2 rfl (by simp) Hl.t (l.length+1) ?_ fun S hS=>?_
  ·apply Kx
   ·repeat' first | exact Mt | exact Ms | exact Mr (x:=(⟨0,0⟩:Hl)) rfl | apply Ku | apply Kw | apply Kv | apply Qp | apply (fun h=>Qo (x:=(⟨_,_⟩:Hl)) h rfl)
   first | rfl | omega
  simp[go_sem]
  refine B3 (fun K kk=>by simp[go_sem,hc8,H1,hw2,hR,H3,hw4,hS];exact kk) ?_
  refine B2 Dy 2 ?_
  refine Bz (Fl ?_);simp[go_sem,hc8,H1,hw2,hR,H3,hw4,hS]
  exact⟨(S,0),by rfl,(by first | omega | (simp;done) | (simp;omega))⟩
 have hn:l[Y1.toNat]? = none:=Ar (by omega)
 refine C9 (Fe hc8 hn) ?_
 refine Ck ?_ ?_<;>intro h48<;>simp[go_sem] at h48
 refine Bp<|.seq ?_
 obtain⟨Y5,cY5,qY5⟩:=Eo (Vf l v.cls hl)
 obtain⟨Y6,cY6,qY6⟩:=Eo (Ve a v.cls)
 refine Cw (fun K kk=>by simp[go_sem,hc8,hn];refine .l cY5 ?_;simp[go_sem,hc8,hn];refine .l cY6 ?_;simp[go_sem,hc8,hn];exact kk) ?_
 refine Br ?_ ?_<;>intro h57
 ·refine Bu (Fe hc8 hn) ?_
  exact .ret (Eu (Fe hc8 hn) ([],14) (by first | omega | (simp;done)))
 refine Bp<|.seq<|.H (Fe hc8 hn) ?_
 refine Br ?_ ?_<;>intro h60
 ·refine Bu (Fe hc8 hn) ?_
  exact .ret (Eu (Fe hc8 hn) ([],10) (by first | omega | (simp;done)))
 refine Bp ?_
 have hw5:=Dw (l.length+1:Int)
 refine Bu (I1 hc8 hn hw5) ?_
 refine Bu (I1 hc8 hn hw5) ?_
 refine Ds 2 rfl (by simp) Hl.t (l.length+1) ?_ fun R hR=>?_
 ·apply Kx
  ·repeat' first | exact Mt | exact Ms | exact Mr (x:=(⟨0,0⟩:Hl)) rfl | apply Ku | apply Kw | apply Kv
  rfl
 simp[go_sem]
 have H6:R[Y1.toNat]? = some R[Y1.toNat]:=Aa (by omega)
 generalize R[Y1.toNat]=e6 at H6
 refine Bu (Yo hc8 hn hw5 hR H6) ?_
 have hw7:=Dw (Y1+1:Int)
 refine C9 (cj6 hc8 hn hw5 hR H6 hw7) ?_
 refine Ds 2 rfl (by simp) Hl.t (l.length+1) ?_ fun S hS=>?_
 ·apply Kx
  ·repeat' first | exact Mt | exact Ms | exact Mr (x:=(⟨0,0⟩:Hl)) rfl | apply Ku | apply Kw | apply Kv | apply Qp | apply (fun h=>Qo (x:=(⟨_,_⟩:Hl)) h rfl)
  first | rfl | omega
 simp[go_sem]
 refine B3 (fun K kk=>by simp[go_sem,hc8,hn,hw5,hR,H6,hw7,hS];exact kk) ?_
 refine B2 Dy 2 ?_
 refine Bz (Fl ?_);simp[go_sem,hc8,hn,hw5,hR,H6,hw7,hS]
 exact⟨(S,0),by rfl,(by first | omega | (simp;done) | (simp;omega))⟩
structure K6 where
  ag:Int
  num:Int
  se:Int
def K6.t (x:K6):List T:=[.li x.ag,.li x.num,.li x.se]
def K6.a (fr:Bool) (x:K6):List AV:=[.li x.ag,.li x.num,.li x.se]
abbrev K6.g (x:K6):AV:=.agg (x.a false)
attribute [go_sem] K6.g
structure Gk where
  tok:Int
  fix:Int
  grp:Int
  lea:Int
  mos:Int
  dat:Int
def Gk.t (x:Gk):List T:=[.li x.tok,.li x.fix,.li x.grp,.li x.lea,.li x.mos,.li x.dat]
def Gk.a (fr:Bool) (x:Gk):List AV:=[.li x.tok,.li x.fix,.li x.grp,.li x.lea,.li x.mos,.li x.dat]
abbrev Gk.g (x:Gk):AV:=.agg (x.a false)
attribute [go_sem] Gk.g
structure Nv where
  fix:Int
  grp:Int
  lea:Int
  mos:Int
  dat:Int
def Nv.t (x:Nv):List T:=[.li x.fix,.li x.grp,.li x.lea,.li x.mos,.li x.dat]
def Nv.a (fr:Bool) (x:Nv):List AV:=[.li x.fix,.li x.grp,.li x.lea,.li x.mos,.li x.dat]
abbrev Nv.g (x:Nv):AV:=.agg (x.a false)
attribute [go_sem] Nv.g
abbrev R5 (l:List (List Dz)):List (List T):=l.map fun x=>[.sl 4 (Rb x)]
abbrev Wp (l:List (List (List Dz))):List (List T):=l.map fun x=>[.sl 1 (R5 x)]
abbrev Acu (l:List (Int×Int)):List (List T):=l.map fun x=>[.li x.1,.li x.2]
structure Xh where
  ses:List (List Dz)
  feed:List Dz
def Xh.t (x:Xh):List T:=[.sl 1 (R5 x.ses),.sl 4 (Rb x.feed)]
def Xh.a (fr:Bool) (x:Xh):List AV:=[.imm fr 1 (R5 x.ses),.imm fr 4 (Rb x.feed)]
abbrev Xh.g (x:Xh):AV:=.agg (x.a false)
attribute [go_sem] Xh.g
attribute [go_sem] K6.t K6.a Gk.t Gk.a Nv.t Nv.a Xh.t Xh.a
theorem Nf (a:Hy) (h1:a.sec.length<=1000000) (h2:a.lims.length<=1000000):PP 110 [] [a.g] [] (a.g):=by
 refine El Tryz.func110 ?_
 refine Bw ?_
 refine Cc (fun K kk=>by simp[go_sem];refine .lo (E4.froz (Gh _ (by simpa using h1) (by simp[T.plain]))) rfl (by simp) ?_;simp[go_sem];exact kk) ?_
 refine Cc (fun K kk=>by simp[go_sem];refine .lo (E4.froz (Hp _ (by simpa using h2) (by simp[T.plain]))) rfl (by simp) ?_;simp[go_sem];exact kk) ?_
 refine Bw ?_
 exact .ret (rL Dy)
theorem Vm (r:Er) (h:r.legs.length<=1000000):PP 186 [] [r.g] [] (r.g):=by
 refine El Tryz.func186 ?_
 refine Bw ?_
 refine Cc (fun K kk=>by simp[go_sem];refine .lo (E4.froz (Mp _ (by simpa using h) (by simp[T.plain,G3.t]))) rfl (by simp) ?_;simp[go_sem];exact kk) ?_
 refine Bw ?_
 exact .ret (rL Dy)
theorem Tj (s:Ij) (h1:s.ctl.lights.length<=1000000) (h2:s.ctl.nxt.length<=1000000):PP 126 [] [s.g] [] (s.g):=by
 refine El Tryz.func126 ?_
 refine Bw ?_
 refine Cc (fun K kk=>by simp[go_sem];refine .lo (E4.froz (Sv _ (by simpa using h1) (by simp[T.plain,Fz.t]))) rfl (by simp) ?_;simp[go_sem];exact kk) ?_
 refine Cc (fun K kk=>by simp[go_sem];refine .lo (E4.froz (Hp _ (by simpa using h2) (by simp[T.plain]))) rfl (by simp) ?_;simp[go_sem];exact kk) ?_
 refine Bw ?_
 exact .ret (rL Dy)
section
variable (c:E6) (a:Int) (h:c.ags.length<=1000000)
include a h
theorem Mo:Ct 33 [c.g,.li a] (fun d:Int=>.li d) (fun d=>True):=by
 refine Ev Tryz.func33 ?_
 refine Bq ?_
 refine Bq<|.seq ?_
 refine Bq<|.block ?_
 refine Bs c.ags.length (fun i1 (y1:Int)=>⟨[(1,.li a),(5,.li y1),(9,.mAg c.ags),(10,.li c.ags.length),(11,.li i1)],[]⟩) (fun i1 y1=>True) (0) (wk Dy []) (trivial) fun i1 y1 hi1 hy1=>?_
 refine Bq<|.seq ?_
 refine Br ?_ ?_<;>intro h12
 ·refine Bp<|.seq<|.block ?_
  have H1:c.ags[i1]? = some c.ags[i1]:=Aa (by omega)
  generalize c.ags[i1]=e1 at H1
  refine Bu H1 ?_
  refine Bu H1 ?_
  refine Br ?_ ?_<;>intro h18
  ·refine B0 H1 ?_
   refine B0 H1 ?_
   exact⟨by omega,(IntKind.i64.wrap (y1+e1.se)),trivial,wk (Fe (Dw ((i1:Int)+1)) H1) []⟩
  refine Bp<|.H1 H1 ?_
  exact⟨by omega,(y1),trivial,wk (Fe (Dw ((i1:Int)+1)) H1) []⟩
 refine Bt<|.R ?_
 exact .ret (Eu Dy y1 trivial)
def Mu:Int:=(Eo (Mo c a h)).choose
theorem Td:PP 33 [] [c.g,.li a] [] (.li (Mu c a h)):=(Eo (Mo c a h)).choose_spec.1
end
theorem Sh (c:E6) (s:Int) (h:c.ags.length<=1000000):Ct 36 [c.g,.li s] (fun d:Int=>.li d) (fun d=>True):=by
 refine Ev Tryz.func36 ?_
 refine Bq<|.seq ?_
 refine Bq<|.block ?_
 refine Bs c.ags.length (fun i1 (y1:Int)=>⟨[(1,.li y1),(8,.mAg c.ags),(9,.li c.ags.length),(10,.li i1)],[]⟩) (fun i1 y1=>True) (s) (wk Dy []) (trivial) fun i1 y1 hi1 hy1=>?_
 refine Bq<|.seq ?_
 refine Br ?_ ?_<;>intro h11
 ·refine Bp<|.seq<|.block ?_
  have H1:c.ags[i1]? = some c.ags[i1]:=Aa (by omega)
  generalize c.ags[i1]=e1 at H1
  refine Bu H1<|.seq ?_
  refine Bu H1 ?_
  refine Br ?_ ?_<;>intro h18
  ·refine Bu H1 ?_
   exact .ret (Eu H1 i1 trivial)
  refine Bp<|.H1 H1 ?_
  refine B0 H1 ?_
  exact⟨by omega,(IntKind.i64.wrap (y1 - e1.se)),trivial,wk (Fe (Dw ((i1:Int)+1)) H1) []⟩
 refine Bt<|.R ?_
 exact .ret (Eu Dy 0 trivial)
theorem Ag1 (a:Int) (s:Int) (b:List Int) (h:b.length<=1000):Ct 257 [.li a,.li s,.mY b] (fun d:List Int=>.mY d) (fun d=>d.length=b.length+2/\(By b->By d)):=by
 refine Ev Tryz.func257 ?_
 have e2:2+b.length=b.length+1+1:=by omega
 refine Bq ?_
 have hw1:=Dw (2+b.length:Int)
 refine Bu hw1 ?_
 refine Bu hw1 ?_
 refine Bu hw1 ?_
 refine B2 Dy 0 ?_
 refine Bz (Fl ?_);simp[go_sem,hw1,e2]
 exact⟨(List.replicate 0 0)++([IntKind.u8.wrap a,IntKind.u8.wrap s])++b,by rfl,⟨by simp,fun hB=>.app (.app (.rep 0) (.cons (Rv a) (.u8 s))) hB⟩⟩
theorem Adn (l:List F9) (s:Int):PP 232 [] [.mTok l,.li s] [] (.lb (Iu l s)):=by
 refine El Tryz.func232 ?_
 refine Bw ?_
 rcases (by omega:s<0\/(0<=s/\(l.length:Int)<=s)\/(0<=s/\s<l.length)) with hs | hs | hs
 ·replace hs:¬0<=s:=by omega
  refine Cc (fun K kk=>by simp[go_sem,hs];repeat first | exact kk | refine aK ?_) ?_
  refine B6 ?_
  first | (simp[go_sem,Iu,hs,hx];done) | (simp[go_sem,Iu,hs];done)
 ·refine Cc (fun K kk=>by simp[go_sem,hs];repeat first | exact kk | refine aK ?_) ?_
  refine B6 ?_
  first | (simp[go_sem,Iu,hs,hx];done) | (simp[go_sem,Iu,hs];done)
 have hx:l[s.toNat]? = some l[s.toNat]:=Aa (by omega)
 generalize l[s.toNat]=t at hx
 refine Cc (fun K kk=>by simp[go_sem,hs];repeat first | exact kk | refine aK ?_) ?_
 refine B6 ?_
 (simp[go_sem,Iu,hs,hx];done)
section
variable (j:Gc) (h:j.phs.length<=1000000)
include h
theorem Lo:∃d:Gw,PP 54 [] [j.g] [.row 3 1 false false (tI d.col),.row 3 1 false false (tI d.cnt)] (.agg [.lb d.fl,.lb d.ov,.own 0 d.col.length,.own 1 d.cnt.length])/\(d.col.length=j.phs.length/\d.cnt.length=j.phs.length):=by
 refine Nr (D:=Gw) (F:=fun d=>.agg [.lb d.fl,.lb d.ov,.own 0 d.col.length,.own 1 d.cnt.length]) (S:=fun d=>[.row 3 1 false false (tI d.col),.row 3 1 false false (tI d.cnt)]) (Q:=fun d=>d.col.length=j.phs.length/\d.cnt.length=j.phs.length) Tryz.func54 rfl rfl rfl (by simp[Tryz.ntmps54]) ?_
 refine Bq ?_
 refine C9 Dy ?_
 exact .ret ⟨⟨true,false,List.replicate j.phs.length 0,List.replicate j.phs.length 0⟩,rW Dy [2,3],(by simp)⟩
def E8:Gw:=(Lo j h).choose
theorem X3:PP 54 [] [j.g] [.row 3 1 false false (tI (E8 j h).col),.row 3 1 false false (tI (E8 j h).cnt)] (.agg [.lit (.bool (E8 j h).fl),.lit (.bool (E8 j h).ov),.own 0 ((E8 j h).col).length,.own 1 ((E8 j h).cnt).length]):=(Lo j h).choose_spec.1
theorem Aal:(E8 j h).col.length=j.phs.length/\(E8 j h).cnt.length=j.phs.length:=(Lo j h).choose_spec.2
end
section
variable (s:F4) (b:Bool) (h:s.ended.length<=1000000)
include b h
theorem Pt:Ct 154 [s.g,.lb b] (fun d:F4=>d.g) (fun d=>d.ended=s.ended):=by
 refine Ev Tryz.func154 ?_
 refine Bq ?_
 refine B8 Dy (La s (by assumption))<|.seq ?_
 refine Bq ?_
 refine Br ?_ ?_<;>intro h12
 ·refine Ch ?_
  refine Bq ?_
  exact .ret (Eu Dy ⟨s.ph,IntKind.i64.wrap ((if 59<s.gr then 59 else s.gr)+1),s.ended⟩ rfl)
 refine Bp<|.R ?_
 exact .ret (Eu Dy s rfl)
def Mc:F4:=(Eo (Pt s b h)).choose
theorem Vr:PP 154 [] [s.g,.lb b] [] (.agg ((Mc s b h).a false)):=(Eo (Pt s b h)).choose_spec.1
theorem Vt:(Mc s b h).ended=s.ended:=(Eo (Pt s b h)).choose_spec.2
end
theorem Aoq (c:Nw) (h:c.lights.length<=1000000):Ct 221 [c.g] (fun d:Int=>.li d) (fun d=>True):=by
 refine Ev Tryz.func221 ?_
 refine Bq ?_
 refine Bq<|.seq ?_
 refine Bq<|.block ?_
 refine Bs c.lights.length (fun i1 (y1:Int)=>⟨[(3,.li y1),(7,.mLight c.lights),(8,.li c.lights.length),(9,.li i1)],[]⟩) (fun i1 y1=>True) (0) (wk Dy []) (trivial) fun i1 y1 hi1 hy1=>?_
 refine Bq<|.seq ?_
 refine Br ?_ ?_<;>intro h10
 ·refine Bp<|.seq<|.block ?_
  have H1:c.lights[i1]? = some c.lights[i1]:=Aa (by omega)
  generalize c.lights[i1]=e1 at H1
  refine Bu H1 ?_
  refine Bu H1 ?_
  refine Br ?_ ?_<;>intro h16
  ·refine B0 H1 ?_
   refine B0 H1 ?_
   exact⟨by omega,(Ey .or .i64 y1 (IntKind.i64.wrap (1*2 ^ min (Int.toNat i1) 64))),trivial,wk (Fe (Dw ((i1:Int)+1)) H1) []⟩
  refine Bp<|.H1 H1 ?_
  exact⟨by omega,(y1),trivial,wk (Fe (Dw ((i1:Int)+1)) H1) []⟩
 refine Bt<|.R ?_
 exact .ret (Eu Dy y1 trivial)
section
mutual
def AV.sel1 (id:Nat) (ts:List T):AV->AV
 | .ptr i off=>bif i == id then .iptr false ts off else .ptr i off
 | .agg cs=>.agg (Rc id ts cs)
 | .tup cs=>.tup (Rc id ts cs)
 | .fn f cs=>.fn f (Rc id ts cs)
 | .gd t v=>.gd t (v.sel1 id ts)
 | .any=>.any
 | .lit v=>.lit v
 | .nil k=>.nil k
 | .imm fr k es=>.imm fr k es
 | .own i n=>.own i n
 | .sub i n lo m=>.sub i n lo m
 | .rptr i n j off=>.rptr i n j off
 | .bsl i n=>bif i == id then .any else .bsl i n
 | .iptr fr cs off=>.iptr fr cs off
def Rc (id:Nat) (ts:List T):List AV->List AV
 | []=>[]
 | c::cs=>c.sel1 id ts::Rc id ts cs
end
section
variable {id:Nat} {ts:List T}
theorem Abr:∀(cs:List AV) (i:Nat),(Rc id ts cs)[i]? = (cs[i]?).map (AV.sel1 id ts)
 | [],i=>by simp[Rc]
 | c::cs,0=>by simp[Rc]
 | c::cs,i+1=>by simp[Rc,Abr cs i]
theorem Ni:∀(cs:List AV),(Rc id ts cs).length=cs.length
 | []=>rfl
 | c::cs=>by simp[Rc,Ni cs]
end
def Ob.sel1 (id:Nat) (ts:List T):Ob->Ob
 | .box ty cs=>.box ty (Rc id ts cs)
 | x=>x
def Aip (id:Nat) (ts:List T):List (Nat×AV)->List (Nat×AV)
 | []=>[]
 | p::l=>(p.1,p.2.sel1 id ts)::Aip id ts l
theorem Af6 (id:Nat) (ts:List T):∀(l:List (Nat×AV)) (t:Nat),E5 (Aip id ts l) t=(E5 l t).sel1 id ts
 | [],t=>rfl
 | p::l,t=>by
  simp only[Aip,E5]
  cases p.1 == t
  ·exact Af6 id ts l t
  rfl
def Acw (id:Nat) (ts:List T):List Ob->List Ob
 | []=>[]
 | x::l=>x.sel1 id ts::Acw id ts l
theorem Aiq (id:Nat) (ts:List T):∀(l:List Ob) (i:Nat),(Acw id ts l).getD i .gone=(l.getD i .gone).sel1 id ts
 | [],i=>by simp[Acw,Ob.sel1]
 | x::l,0=>by simp[Acw]
 | x::l,i+1=>by have:=Aiq id ts l i;simp[Acw] at this ⊢;exact this
def St.sel1 (st:St) (id:Nat) (ts:List T):St:=⟨Aip id ts st.sl,Pg (Acw id ts st.ob) id .gone⟩
theorem Wv (st:St) (id:Nat) (ts:List T) (i:Nat):(st.sel1 id ts).o i=if i=id then .gone else (st.o i).sel1 id ts:=by
 show (Pg (Acw id ts st.ob) id .gone).getD i .gone=_
 rw[Wt,Aiq]
 rfl
variable {ty:TypeId} {cs:List AV} {ts:List T}
theorem Es.sel1 {E:Gp} {β:Nat->Option Nat} {st:St} {a:Act} {w:World} (r:Es E β st a w) {id:Nat} (ho:st.o id=.box ty cs) (ht:ttL cs=some ts) (hE:E.o0 id=.gone):Es E β (st.sel1 id ts) a w:=by
 have hlv:∀b,(E.C β (st.sel1 id ts) w).lives b->(E.C β st w).lives b:=by
  rintro b ⟨i,h1,h2⟩
  have h2:((st.sel1 id ts).o i).live:=h2
  rw[Wv] at h2
  by_cases e:i=id
  ·rw[if_pos e] at h2;exact h2.elim
  rw[if_neg e] at h2
  refine⟨i,h1,?_⟩
  show (st.o i).live
  cases hq:st.o i<;>rw[hq] at h2<;>exact h2
 have hS:∀fr b,(E.C β st w).S fr b->(E.C β (st.sel1 id ts) w).S fr b:=fun fr b ⟨h1,h2,h3⟩=>⟨h1,fun h=>h2 (hlv b h),h3⟩
 have hT:∀fr t u,Gn w.heap ((E.C β st w).S fr) t u->Gn w.heap ((E.C β (st.sel1 id ts) w).S fr) t u:=fun fr t u h=>h.keep (fun _ _=>rfl) (hS fr)
 obtain⟨b,cur,q1,q2,q3,q4⟩:Ki (E.C β st w) id (.box ty cs):=by have:=r.ob id;rwa[ho] at this
 have q1:β id=some b:=q1
 have hSb:(E.C β (st.sel1 id ts) w).S false b:=by
  obtain⟨g1,g2⟩:=r.rng id b (by rw[ho];simp) q1
  refine⟨g1,?_,g2.elim .inl fun h=>.inr (.inl h)⟩
  rintro⟨i,h1,h2⟩
  have h1:β i=some b:=h1
  have h2:((st.sel1 id ts).o i).live:=h2
  rw[Wv] at h2
  by_cases e:i=id
  ·rw[if_pos e] at h2;exact h2
  rw[if_neg e] at h2
  refine e (r.inj i id b (fun hg=>?_) (by rw[ho];simp) h1 q1)
  rw[hg] at h2
  exact h2
 have hrow:∀i ty' k fr fz es,st.o i=.row ty' k fr fz es->(st.sel1 id ts).o i=.row ty' k fr fz es:=fun i ty' k fr fz es h=>by
  rw[Wv,if_neg (fun e=>by subst e;rw[ho] at h;cases h),h]
  rfl
 have hV:∀(c:AV) (u:Value),Ea (E.C β st w) c u->Ea (E.C β (st.sel1 id ts) w) (c.sel1 id ts) u:=by
  intro c u h
  have hL:∀(cs:List AV) (us:Array Value),(∀(i:Nat) (c:AV) (u:Value),cs[i]? = some c->us[i]? = some u->Ea (E.C β (st.sel1 id ts) w) (c.sel1 id ts) u)->∀(i:Nat) (c:AV) (u:Value),(Rc id ts cs)[i]? = some c->us[i]? = some u->Ea (E.C β (st.sel1 id ts) w) c u:=fun cs us ih i c u hc hu=>by
   rw[Abr] at hc
   cases hx:cs[i]? with
   | none=>rw[hx] at hc;cases hc
   | some x =>
    rw[hx] at hc
    simp only[Ai,Option.some.injEq] at hc
    subst hc
    exact ih i x u hx hu
  induction h with
  | any u=>exact .any u
  | lit v=>exact .lit v
  | nil k A=>exact .nil k A
  | imm fr k es u h=>exact .imm _ _ _ _ (hT fr _ _ h)
  | own i n u h =>
   obtain⟨h1,ty',k,fr,fz,es,h2,h3⟩:=h
   exact .own i n u ⟨h1,ty',k,fr,fz,es,hrow _ _ _ _ _ _ h2,h3⟩
  | sub i n lo m u h =>
   obtain⟨h1,ty',k,fr,fz,es,h2,h3⟩:=h
   exact .sub i n lo m u ⟨h1,ty',k,fr,fz,es,hrow _ _ _ _ _ _ h2,h3⟩
  | rptr i n j off u h =>
   obtain⟨h1,ty',k,fr,fz,es,h2,h3⟩:=h
   exact .rptr i n j off u ⟨h1,ty',k,fr,fz,es,hrow _ _ _ _ _ _ h2,h3⟩
  | ptr i off u h =>
   obtain⟨ty',cs',b',h1,h2,rfl⟩:=h
   have h1:st.o i=_:=h1
   have h2:β i=some b':=h2
   by_cases e:i=id
   ·subst e
    rw[q1] at h2
    injection h2 with h2
    subst h2
    have hcell:∀(j:Nat) (x:T),ts[j]? = some x->cur[0+j]? = some ((cur[j]?).getD undef)/\Gn w.heap ((E.C β (st.sel1 i ts) w).S false) x ((cur[j]?).getD undef):=fun j x hx=>by
     obtain⟨c,g1,g2⟩:=Aei ht j x hx
     have hj:j<cur.size:=Nat.lt_of_lt_of_le (Ab.1 g1).1 q3
     have g3:cur[j]? = some cur[j]:=Al hj
     obtain⟨g4,g5⟩:=q4 j c _ g1 g3
     rw[Bm,g3]
     refine⟨rfl,?_⟩
     simp only[Bh]
     generalize cur[j]=u at g4 g5
     cases g4 with
     | lit v=>simp only[Zc,Option.some.injEq] at g2;subst g2;exact .lit _ g5
     | nil k A=>simp only[Zc,Option.some.injEq] at g2;subst g2;exact .nil _ _ _
     | imm fr k es u h=>simp only[Zc,Option.some.injEq] at g2;subst g2;exact VC.T_weak (C:=E.C β (st.sel1 i ts) w) (g:=false) (hT fr _ _ h) fun e=>by cases e
     | fn f cs us k1 k2 =>
      obtain⟨fr,ts',off',rfl,rfl⟩:=Aj8 g2
      exact VC.T_weak (C:=E.C β (st.sel1 i ts) w) (g:=false) (hT fr _ _ (Ea.fn1 (.fn f _ us k1 k2))) fun e=>by cases e
     | _=>cases g2
    have:=Ea.iptr (C:=E.C β (st.sel1 i ts) w) false ts off b 0 cur ty (0,0) (fun j=>(cur[j]?).getD undef) q2 hSb hcell
    rw[Bm] at this
    simp only[AV.sel1,beq_self_eq_true,cond_true]
    exact this
   have e':(i == id)=false:=by simpa using e
   simp only[AV.sel1,e',cond_false]
   exact .ptr i off _ ⟨ty',Rc id ts cs',b',by show (st.sel1 id ts).o i=_;rw[Wv,if_neg e,h1];rfl,h2,rfl⟩
  | bsl i n u h =>
   obtain⟨ty',cs',b',c',h1,h2,h3⟩:=h
   have h1:st.o i=_:=h1
   by_cases e:i=id
   ·subst e
    simp only[AV.sel1,beq_self_eq_true,cond_true]
    exact .any _
   have e':(i == id)=false:=by simpa using e
   simp only[AV.sel1,e',cond_false]
   exact .bsl i n _ ⟨ty',Rc id ts cs',b',c',by show (st.sel1 id ts).o i=_;rw[Wv,if_neg e,h1];rfl,h2,h3⟩
  | iptr fr cs off b o cur ty fz us h1 h2 h3=>exact .iptr fr cs off b o cur ty fz us h1 (hS fr b h2) fun j x hx=>⟨(h3 j x hx).1,hT fr _ _ (h3 j x hx).2⟩
  | agg cs us h1 h2 ih=>exact .agg _ _ (by rw[Ni];exact h1) (hL cs us ih)
  | tup cs us h1 h2 ih=>exact .tup _ _ (by rw[Ni];exact h1) (hL cs us ih)
  | fn f cs us h1 h2 ih=>exact .fn f _ _ (by rw[Ni];exact h1) (hL cs us ih)
  | gd t v u h1 h2 ih=>exact .gd t _ u (fun e=>ih e) h2
 have hng:∀i,(st.sel1 id ts).o i≠.gone->st.o i≠.gone:=fun i h e=>h (by rw[Wv,e];split<;>rfl)
 refine⟨r.sz,fun t=>?_,r.df,fun i=>?_,fun i j b hi hj=>r.inj i j b (hng i hi) (hng j hj),fun i b hi=>r.rng i b (hng i hi),r.kp,⟨fun i ty' cs' h=>?_,fun i ty' k fr fz es h=>?_⟩,r.kb,r.dk⟩
 ·show Ea _ (E5 (Aip id ts st.sl) t) _
  rw[Af6]
  exact hV _ _ (r.sl t)
 ·rw[Wv]
  by_cases e:i=id
  ·rw[if_pos e];trivial
  rw[if_neg e]
  have:=r.ob i
  cases hq:st.o i with
  | gone=>trivial
  | row ty' k fr fz es =>
   rw[hq] at this
   obtain⟨h1,h2⟩:=this
   refine⟨h1,?_⟩
   cases hb:(E.C β (st.sel1 id ts) w).β i with
   | none =>
    have hb:β i=none:=hb
    have h2:(match β i with | none=>es=[] | some b=>_):=h2
    rw[hb] at h2;exact h2
   | some b =>
    have hb:β i=some b:=hb
    have h2:(match β i with | none=>es=[] | some b=>_):=h2
    rw[hb] at h2
    obtain⟨cur,c,g1,g2,g3,g4,g5⟩:=h2
    exact⟨cur,c,g1,g2,g3,g4,fun i e j x he hx=>let ⟨u,p1,p2⟩:=g5 i e j x he hx;⟨u,p1,hT _ _ _ p2⟩⟩
  | box ty' cs' =>
   rw[hq] at this
   obtain⟨b,cur,g1,g2,g3,g4⟩:=this
   refine⟨b,cur,g1,g2,by rw[Ni];exact g3,fun j c u hc hu=>?_⟩
   rw[Abr] at hc
   cases hx:cs'[j]? with
   | none=>rw[hx] at hc;cases hc
   | some x =>
    rw[hx] at hc
    simp only[Ai,Option.some.injEq] at hc
    subst hc
    exact⟨hV _ _ (g4 j x u hx hu).1,(g4 j x u hx hu).2⟩
 ·obtain⟨⟨cs2,h1⟩,h2⟩:=r.ct.box i ty' cs' h
  have e:i≠id:=fun e=>by subst e;rw[hE] at h;cases h
  have h1:st.o i=_:=h1
  exact⟨⟨_,by show (st.sel1 id ts).o i=_;rw[Wv,if_neg e,h1];rfl⟩,h2⟩
 obtain⟨fr',fz',es',h1,h2⟩:=r.ct.row i ty' k fr fz es h
 exact⟨fr',fz',es',hrow _ _ _ _ _ _ h1,h2⟩
section
variable {P:Program} {n m:Nat} {st:St} {K:Exit->St->Prop} {c:Code}
theorem VW.sel1 (id:Nat) (ho:st.o id=.box ty cs) (ht:ttL cs=some ts) (hm:m<=id) (hv:VW P n m c (st.sel1 id ts) K):VW P n m c st K:=fun E F hE hF β a w r =>
 hv E F hE hF β a w (r.sel1 ho ht (hE.2 id hm))
theorem VX.sel1 (id:Nat) (ho:st.o id=.box ty cs) (ht:ttL cs=some ts) (hm:m<=id) (hv:VX P n m c (st.sel1 id ts) K):VX P n m c st K:=by
 obtain⟨e,s,h1,h2⟩:=hv
 exact⟨e,s,.sel1 id ho ht hm h1,h2⟩
end
attribute [go_sem] St.sel1 Aip Acw Rc AV.sel1 Ob.sel1
theorem Wr (x:T):Aa2 [.iptr false [x] 0]:=by
 constructor<;>intros<;>first | rfl | exact⟨trivial,trivial⟩
theorem Tm:Aa2 []:=by
 constructor<;>intros<;>first | rfl | exact trivial
end
theorem Y0 (now:Int) (r:Er):PP 169 [] [r.g,.iptr false [.li now] 0] [] (.lb (decide (now<=r.unt))):=by
 refine El Tryz.func169 ?_
 iterate 2 refine Bw ?_
 exact .ret (rL Dy)
theorem Ks (r:Er):PP 193 [] [r.g] [] (.lb (true)):=by
 refine El Tryz.func193 ?_
 iterate 2 refine Bw ?_
 exact .ret (rL Dy)
theorem X2 (v:Int) (r:Er):PP 238 [] [r.g,.iptr false [.li v] 0] [] (.lb (r.veh != v)):=by
 refine El Tryz.func238 ?_
 iterate 2 refine Bw ?_
 exact .ret (rL Dy)
theorem Y8 (i:Int) (r:Er):PP 245 [] [r.g,.iptr false [.li i] 0] [] (.lb (r.id != i)):=by
 refine El Tryz.func245 ?_
 iterate 2 refine Bw ?_
 exact .ret (rL Dy)
theorem Zy (i:Int) (r:Er):PP 268 [] [r.g,.iptr false [.li i] 0] [] (.lb (r.id == i)):=by
 refine El Tryz.func268 ?_
 iterate 2 refine Bw ?_
 exact .ret (rL Dy)
theorem Y7 (j:Int) (g:G3):PP 179 [] [g.g,.iptr false [.li j] 0] [] (.lb (g.j == j)):=by
 refine El Tryz.func179 ?_
 iterate 2 refine Bw ?_
 exact .ret (rL Dy)
theorem Tc (t:F9):PP 275 [] [t.g] [] (.lb (!t.used)):=by
 refine El Tryz.func275 ?_
 iterate 2 refine Bw ?_
 exact .ret (rL Dy)
theorem Adl (x:Fz):PP 250 [] [x.g] [] (.lb (x.l != 0)):=by
 refine El Tryz.func250 ?_
 iterate 2 refine Bw ?_
 exact .ret (rL Dy)
theorem Nd (l:List Er) (fid:FuncId) (caps:List AV) (p:Er->Bool) (hl:l.length<=1000000) (hg:∀r∈l,r.legs.length<=1000000) (hc:Aa2 caps) (hp:∀t,PP fid [] (t.g::caps) [] (.lb (p t))):PP 168 [] [.mReq l,.fn fid caps] [] (.mReq (l.filter p)):=by
 refine El Tryz.func168 ?_
 refine Cc (fun K kk=>by simp[go_sem,hc.pass,hc.passC,hc.bor,hc.low];exact kk) ?_
 refine Cc (fun K kk=>by simp[go_sem,hc.pass,hc.passC,hc.bor,hc.low];exact kk)<|.seq ?_
 refine Cc (fun K kk=>by simp[go_sem,hc.pass,hc.passC,hc.bor,hc.low];exact kk)<|.block ?_
 refine Cn 5 164 5 (by decide) (k':=5) (by simp[go_sem]) ?_
 simp[go_sem]
 refine Cb l.length (fun i1=>⟨[(1,.fn fid caps),(5,.own 0 ((l.take i1).filter p).length),(8,.mReq l),(9,.li l.length),(10,.li i1)],[.row 164 5 false false (Hb ((l.take i1).filter p))]⟩) (wQ [0] ?_ ?_) fun i1 hi1=>?_
 ·simp[go_sem,hc.ren]
 ·simp[go_sem,hc.ren]
 refine Cc (fun K kk=>by simp[go_sem,hc.pass,hc.passC,hc.bor,hc.low];exact kk)<|.seq ?_
 refine B7 ?_ ?_<;>intro h11
 ·have hx:l[i1]? = some l[i1]:=Aa (by omega)
  generalize l[i1]=e at hx
  have hf:((l.take i1).filter p).length<=i1:=Ak (Az _ _) (by simp;omega)
  have ht:List.take (i1+1) l=List.take i1 l++[e]:=by rw[List.take_add_one,hx];rfl
  refine Bv<|.seq<|.block<|.H hx ?_
  refine Cc (fun K kk=>by simp[go_sem,hc.pass,hc.passC,hc.bor,hc.low];refine .lo (hp e) (by simp[go_sem,hc.low]) (by simp[AV.cln,Ff]) ?_;simp[go_sem,hc.pass,hc.passC,hc.bor,hc.low];exact kk) ?_
  refine B7 ?_ ?_<;>intro h16
  ·refine VW.S1 (fun K kk=>by simp[go_sem,hc.pass,hc.passC,hc.bor,hc.low];refine .l (Vm e (hg e (Ac hx))) ?_;simp[go_sem,hc.pass,hc.passC,hc.bor,hc.low];(repeat first | exact kk | refine aK ?_)) ?_
   refine VW.S1 (fun K kk=>by simp[go_sem,hc.pass,hc.passC,hc.bor,hc.low];exact kk) ?_
   refine⟨by omega,wQ [0] ?_ ?_⟩
   ·simp[go_sem,Dw ((i1:Int)+1),hc.ren,ht,List.filter_append,h11,h16]
   simp[go_sem,hc.ren,ht,List.filter_append,h11,h16]
  refine Bv<|.S1 (fun K kk=>by simp[go_sem,hc.pass,hc.passC,hc.bor,hc.low];exact kk) ?_
  refine⟨by omega,wQ [0] ?_ ?_⟩
  ·simp[go_sem,Dw ((i1:Int)+1),hc.ren,ht,List.filter_append,h11,h16]
  simp[go_sem,hc.ren,ht,List.filter_append,h11,h16]
 refine B5<|.S (fun K kk=>by simp[go_sem,hc.pass,hc.passC,hc.bor,hc.low];exact kk) ?_
 have he:l.take i1=l:=Bf (by omega)
 simp only[he]
 refine Cg 0 (by simp[go_sem,F7]) ?_
 simp[go_sem]
 exact .ret (rL Dy)
theorem Abm (l:List Er) (now:Int) (hl:l.length<=1000000) (hg:∀r∈l,r.legs.length<=1000000):PP 148 [] [.mReq l,.li now] [] (.mReq (l.filter fun r=>decide (now<=r.unt))):=by
 refine El Tryz.func148 ?_
 refine Bw ?_
 refine VW.sel1 0 rfl rfl (by simp) ?_
 simp[go_sem]
 refine Cc (fun K kk=>by simp[go_sem];refine .lo (Nd l _ [.iptr false [.li now] 0] (fun r=>decide (now<=r.unt)) hl hg (Wr _) (Y0 now)) (by simp[go_sem]) (by simp[AV.cln,Ff]) ?_;simp[go_sem];exact kk) ?_
 exact .ret (rL Dy)
theorem Kq (l:List Er) (v:Int) (hl:l.length<=1000000) (hg:∀r∈l,r.legs.length<=1000000):PP 211 [] [.mReq l,.li v] [] (.mReq (l.filter fun r=>r.veh != v)):=by
 refine El Tryz.func211 ?_
 refine Bw ?_
 refine VW.sel1 0 rfl rfl (by simp) ?_
 simp[go_sem]
 refine Cc (fun K kk=>by simp[go_sem];refine .lo (Nd l _ [.iptr false [.li v] 0] (fun r=>r.veh != v) hl hg (Wr _) (X2 v)) (by simp[go_sem]) (by simp[AV.cln,Ff]) ?_;simp[go_sem];exact kk) ?_
 exact .ret (rL Dy)
section
variable (l:List Er) (hl:l.length<=1000000) (hg:∀r∈l,r.legs.length<=1000000)
include hl hg
theorem Avk:PP 168 [] [.mReq l,.fn 193 []] [] (.mReq l):=by
 have h:=Nd l _ [] (fun _=>true) hl hg Tm (Ks)
 rwa[show l.filter (fun _=>true)=l by simp] at h
theorem Yz:PP 171 [] [.mReq l] [] (.mReq l):=by
 refine El Tryz.func171 ?_
 refine Bw ?_
 refine Cc (fun K kk=>by simp[go_sem];refine .lo (Avk l hl hg) (by simp[go_sem]) (by simp[AV.cln,Ff]) ?_;simp[go_sem];exact kk) ?_
 exact .ret (rL Dy)
end
theorem Pz (l:List Er) (i:Int) (hl:l.length<=1000000):PP 244 [] [.mReq l,.li i] [] (.li (Ii (fun r:Er=>r.id == i) l)):=by
 refine El Tryz.func244 ?_
 refine Bw ?_
 refine VW.sel1 0 rfl rfl (by simp) ?_
 simp[go_sem]
 refine Cc (fun K kk=>by simp[go_sem];refine .lo (X5 l _ [.iptr false [.li i] 0] (fun r=>r.id == i) hl (Wr _) (Zy i)) (by simp[go_sem]) (by simp[AV.cln,Ff]) ?_;simp[go_sem];exact kk) ?_
 exact .ret (rL Dy)
theorem Age {α:Type} (p:α->Bool):∀(l:List α) (i:Nat),Gz p l i<i+l.length /\ -1<=Gz p l i
 | [],i=>by simp[Gz];omega
 | t::ts,i=>by
  unfold Gz
  split
  ·simp;omega
  have:=Age p ts (i+1)
  simp at this ⊢
  omega
theorem Agd {α:Type} (p:α->Bool) (l:List α):Ii p l<l.length /\ -1<=Ii p l:=by
 have:=Age p l 0
 simpa[Ii] using this
theorem Qd (l:List G3) (hl:l.length<=1000000):Ct 265 [.mLeg l] (fun d:Bool=>.lb d) (fun d=>True):=by
 refine Ev Tryz.func265 ?_
 refine Bq<|.seq ?_
 refine Bq ?_
 refine Br ?_ ?_<;>intro h14
 ·refine Bq ?_
  exact .ret (Eu Dy false trivial)
 refine Bp<|.seq<|.R<|.block ?_
 refine Bs l.length (fun i1 (y1:Unit)=>⟨[(0,.mLeg l),(15,.mLeg l),(16,.li l.length),(17,.li i1)],[]⟩) (fun i1 y1=>True) () (wk Dy []) (trivial) fun i1 y1 hi1 hy1=>?_
 refine Bq<|.seq ?_
 refine Br ?_ ?_<;>intro h18
 ·refine Bp<|.seq<|.block ?_
  have H1:l[i1]? = some l[i1]:=Aa (by omega)
  generalize l[i1]=e1 at H1
  refine Bu H1<|.seq ?_
  refine B8 H1 (Ae4 e1) ?_
  refine Br ?_ ?_<;>intro h24
  ·refine Bu H1 ?_
   exact .ret (Eu H1 false trivial)
  refine Bp<|.H H1<|.block ?_
  refine Bs ((l.take i1).length) (fun i2 (y2:Unit)=>⟨[(0,.mLeg l),(4,.ptr 0 0),(15,.mLeg l),(16,.li l.length),(17,.li i1),(27,.mLeg (l.take i1)),(28,.li ((l.take i1).length)),(29,.li i2)],[.box 166 [.li e1.j,.li e1.p,.li e1.fr,.li e1.to,.li e1.si]]⟩) (fun i2 y2=>True) () (wk H1 [0]) (trivial) fun i2 y2 hi2 hy2=>?_
  refine Bu H1<|.seq ?_
  refine Br ?_ ?_<;>intro h30
  ·have hlt:i2<i1:=(Nat.lt_min.1 h30).1
   have hlt2:i2<l.length:=(Nat.lt_min.1 h30).2
   have hxq:l[i2]? = some l[i2]:=Aa (by omega)
   generalize l[i2]=q at hxq
   refine Bp<|.seq<|.block<|.H (I1 H1 hxq hlt) ?_
   refine Bu (Fe H1 hxq) ?_
   refine Br ?_ ?_<;>intro h37
   ·refine Bu H1 ?_
    exact .ret (Eu H1 false trivial)
   refine Bp<|.H1 H1 ?_
   have hN:i2<(l.take i1).length:=by rw[A5];exact Nat.lt_min.2 ⟨hlt,hlt2⟩
   exact⟨by omega,(),trivial,wk (Fe (Dw ((i2:Int)+1)) H1) [0]⟩
  refine Bt<|.H1 H1 ?_
  exact⟨by omega,(),trivial,wk (Fe (Dw ((i1:Int)+1)) H1) []⟩
 refine Bt<|.R ?_
 exact .ret (Eu Dy true trivial)
theorem Pm (l:List Er) (n:Int) (hl:l.length<=1000000) (hg:∀r∈l,r.legs.length<=1000000):Ct 242 [.mReq l,.li n] (fun d:Bool=>.lb d) (fun d=>True):=by
 refine Ev Tryz.func242 ?_
 refine Bq<|.seq ?_
 refine Bq ?_
 refine Br ?_ ?_<;>intro h15
 ·refine Bq ?_
  exact .ret (Eu Dy false trivial)
 refine Bp<|.seq<|.R<|.block ?_
 refine Bs l.length (fun i1 (y1:Unit)=>⟨[(0,.mReq l),(16,.mReq l),(17,.li l.length),(18,.li i1)],[]⟩) (fun i1 y1=>True) () (wk Dy []) (trivial) fun i1 y1 hi1 hy1=>?_
 refine Bq<|.seq ?_
 refine Br ?_ ?_<;>intro h19
 ·refine Bp<|.seq<|.block ?_
  have H1:l[i1]? = some l[i1]:=Aa (by omega)
  generalize l[i1]=e1 at H1
  refine Bu H1<|.seq ?_
  refine B4 (by rfl) fun K1 hK1=>?_
  simp[go_sem,H1]
  refine .l (K8 e1.id) ?_
  simp[go_sem,H1]
  refine Qc ?_
  simp[go_sem,H1]
  refine .lo (K8 e1.veh) rfl (by simp[AV.cln,Ff]) ?_
  simp[go_sem,H1]
  refine Qc ?_
  simp[go_sem,H1]
  refine .lo (Vn e1.cls) rfl (by simp[AV.cln,Ff]) ?_
  simp[go_sem,H1]
  refine Qc ?_
  simp[go_sem,H1]
  obtain⟨Y1,cY1,qY1⟩:=Eo (Qd e1.legs (hg e1 (Ac H1)))
  refine .lo cY1 rfl (by simp[AV.cln,Ff]) ?_
  simp[go_sem,H1]
  refine hK1 _ ?_;clear hK1
  refine Br ?_ ?_<;>intro h44
  ·refine Bu H1 ?_
   exact .ret (Eu H1 false trivial)
  refine Bp<|.seq<|.H H1 ?_
  refine Br ?_ ?_<;>intro h52
  ·refine Bu H1 ?_
   exact .ret (Eu H1 false trivial)
  refine Bp ?_
  by_cases hc10:0<i1
  ·have hw2:=Dw (i1 - 1:Int)
   have H3:l[(i1 - 1)]? = some l[(i1 - 1)]:=Aa (by omega)
   generalize l[(i1 - 1)]=e3 at H3
   refine C9 (O4 H1 hc10 hw2 H3) ?_
   refine Br ?_ ?_<;>intro h65
   ·refine Bu (O4 H1 hc10 hw2 H3) ?_
    exact .ret (Eu (O4 H1 hc10 hw2 H3) false trivial)
   refine Bp<|.H1 (O4 H1 hc10 hw2 H3) ?_
   exact⟨by omega,(),trivial,wk (Yo (Dw ((i1:Int)+1)) H1 hc10 hw2 H3) []⟩
  have hi0:i1=0:=by omega
  have hxb:l[i1 - 1]? = some e1:=by rw[<- H1,hi0]
  have hw4:=Dw (i1 - 1:Int)
  refine C9 (O4 H1 hc10 hxb hw4) ?_
  refine Ck ?_ ?_<;>intro h65<;>simp[go_sem] at h65
  refine Bp<|.H1 (O4 H1 hc10 hxb hw4) ?_
  exact⟨by omega,(),trivial,wk (Yo (Dw ((i1:Int)+1)) H1 hc10 hxb hw4) []⟩
 refine Bt<|.R ?_
 exact .ret (Eu Dy true trivial)
theorem Abb (l:List Er) (a:Int) (j:Int) (hl:l.length<=1000000) (hg:∀r∈l,r.legs.length<=1000000):Ct 155 [.mReq l,.li a,.li j] (fun d:List Fa=>.mClaim d) (fun d=>d.length<=l.length):=by
 refine Ev Tryz.func155 ?_
 refine Bq ?_
 refine VX.sel1 0 rfl rfl (by simp) ?_
 simp[go_sem]
 refine Bq<|.seq ?_
 refine Bq<|.block ?_
 refine Cf 7 287 5 (by decide) (k':=5) (by simp[go_sem]) ?_
 simp[go_sem]
 refine Bs l.length (fun i1 (y1:(List Fa))=>⟨[(1,.li a),(5,.iptr false [.li j] 0),(7,.own 0 y1.length),(12,.mReq l),(13,.li l.length),(14,.li i1)],[.row 287 5 true false (Wq y1)]⟩) (fun i1 y1=>y1.length<=i1) ([]) (wk Dy [1]) (by simp) fun i1 y1 hi1 hy1=>?_
 refine Bq<|.seq ?_
 refine Br ?_ ?_<;>intro h15
 ·refine Bp<|.seq<|.block ?_
  have H1:l[i1]? = some l[i1]:=Aa (by omega)
  generalize l[i1]=e1 at H1
  refine Bu H1 ?_
  refine B3 (fun K kk=>by simp[go_sem,H1];refine .lo (Adw e1.legs _ [.iptr false [.li j] 0] (fun g=>g.j == j) (hg e1 (Ac H1)) (Wr _) (Y7 j)) (by simp[go_sem]) (by simp[AV.cln,Ff]) ?_;simp[go_sem,H1];exact kk)<|.seq ?_
  by_cases hc6:0<=Ii (fun g:G3=>g.j == j) e1.legs
  ·have hi:=Agd (fun g:G3=>g.j == j) e1.legs
   have H2:e1.legs[(Ii (fun g:G3=>g.j == j) e1.legs).toNat]? = some e1.legs[(Ii (fun g:G3=>g.j == j) e1.legs).toNat]:=Aa (by omega)
   generalize e1.legs[(Ii (fun g:G3=>g.j == j) e1.legs).toNat]=e2 at H2
   refine Bu (I1 H1 hc6 H2) ?_
   refine Br ?_ ?_<;>intro h32
   ·refine Bt<|.H1 (I1 H1 hc6 H2) ?_
    refine⟨by omega,(y1),?_,wk (O4 (Dw ((i1:Int)+1)) H1 hc6 H2) [0]⟩
    omega
   refine Bp<|.H (I1 H1 hc6 H2) ?_
   refine B0 (I1 H1 hc6 H2) ?_
   refine B0 (I1 H1 hc6 H2) ?_
   refine⟨by omega,(y1++([⟨a,e1.id,e2.p,e1.cls,e2.si⟩])),?_,wk (O4 (Dw ((i1:Int)+1)) H1 hc6 H2) [0]⟩
   first | omega | (simp;omega)
  have hneg:Ii (fun g:G3=>g.j == j) e1.legs<0:=by omega
  have hi:=Agd (fun g:G3=>g.j == j) e1.legs
  refine Bu (I1 H1 hc6 hneg) ?_
  refine Ck ?_ ?_<;>intro h32<;>simp[go_sem] at h32
  refine Bt<|.H1 (I1 H1 hc6 hneg) ?_
  refine⟨by omega,(y1),?_,wk (O4 (Dw ((i1:Int)+1)) H1 hc6 hneg) [0]⟩
  omega
 refine Bt<|.R ?_
 refine B2 Dy 0 ?_
 exact .ret (Eu Dy y1 (by omega))
def vwl (l:List Gw):Nat:=(l.map fun v=>3+v.cnt.length).sum
theorem Atx {l:List Gw} {i:Nat} {e:Gw} (h:l[i]? = some e):vwl (l.take (i+1))=vwl (l.take i)+3+e.cnt.length:=by
 unfold vwl
 rw[List.take_add_one,h]
 simp only[List.map_append,List.sum_append,Option.toList_some,List.map_cons,List.map_nil,List.sum_cons,List.sum_nil]
 omega
theorem Abf:∀{l:List Gw},(∀v∈l,v.col.length<=8/\v.cnt.length<=8)->vwl l<=11*l.length
 | [],_=>Ae _
 | v::l,h=>by
  have h1:=(h v (List.mem_cons_self ..)).2
  have h2:=Abf (l:=l) fun w hw=>h w (List.mem_cons_of_mem _ hw)
  show 3+v.cnt.length+vwl l<=11*(l.length+1)
  omega
section
variable (l:List Gw) (hl:l.length<=4) (hv:∀v∈l,v.col.length<=8/\v.cnt.length<=8)
include hl hv
theorem K7:∃d:List Int,PP 135 [] [.mView l] [.row 5 1 false false (tY d)] (.own 0 d.length)/\(d.length=vwl l/\By d):=by
 refine Nr (D:=List Int) (F:=fun d=>.own 0 d.length) (S:=fun d=>[.row 5 1 false false (tY d)]) (Q:=fun d=>d.length=vwl l/\By d) Tryz.func135 rfl rfl rfl (by simp[Tryz.ntmps135]) ?_
 refine Bq ?_
 refine Bq<|.seq ?_
 refine Bq<|.block ?_
 refine Cf 3 5 1 (by decide) (k':=1) (by simp[go_sem]) ?_
 simp[go_sem]
 refine Bs l.length (fun i1 (y1:(List Int))=>⟨[(3,.own 0 y1.length),(13,.mView l),(14,.li l.length),(15,.li i1)],[.row 5 1 true false (tY y1)]⟩) (fun i1 y1=>y1.length=vwl (l.take i1)/\By y1) ([]) (wk Dy [0]) ⟨by simp[vwl],.nil⟩ fun i1 y1 hi1 hy1=>?_
 refine Bq<|.seq ?_
 refine Br ?_ ?_<;>intro h16
 ·refine Bp<|.seq<|.block ?_
  have H1:l[i1]? = some l[i1]:=Aa (by omega)
  generalize l[i1]=e1 at H1
  refine Bu H1 ?_
  have hb:=hv e1 (Ac H1)
  have hvs:=Atx H1
  have hvb:vwl (l.take i1)<=44:=by have:=Abf (l:=l.take i1) fun v h=>hv v (Aq h);rw[A5] at this;omega
  refine Bu H1 ?_
  refine Do (fun s=>∃(f:Int),s=⟨[(3,.own 0 y1.length),(5,.ptr 1 0),(6,.li f),(13,.mView l),(14,.li l.length),(15,.li i1)],[.row 5 1 true false (tY y1),.box 128 (e1.a false)]⟩) ?_ ?_
  ·refine Bu H1 ?_
   refine Br ?_ ?_<;>intro h20
   ·refine B0 H1 ?_
    refine⟨[0,1],_,En (by decide) ?_ ?_,by simp,(IntKind.i64.wrap (0+1)),rfl⟩
    all_goals simp[go_sem,H1]
   refine Bp ?_
   refine⟨[0,1],_,En (by decide) ?_ ?_,by simp,0,rfl⟩
   all_goals simp[go_sem,H1]
  rintro s ⟨f,rfl⟩
  refine Do (fun s=>∃(g:Int),s=⟨[(3,.own 0 y1.length),(5,.ptr 1 0),(6,.li g),(13,.mView l),(14,.li l.length),(15,.li i1)],[.row 5 1 true false (tY y1),.box 128 (e1.a false)]⟩) ?_ ?_
  ·refine Bu H1 ?_
   refine Br ?_ ?_<;>intro h24
   ·refine B0 H1 ?_
    refine⟨[0,1],_,En (by decide) ?_ ?_,by simp,(IntKind.i64.wrap (f+2)),rfl⟩
    all_goals simp[go_sem,H1]
   refine Bp ?_
   refine⟨[0,1],_,En (by decide) ?_ ?_,by simp,f,rfl⟩
   all_goals simp[go_sem,H1]
  rintro s ⟨g,rfl⟩
  refine Bu H1<|.seq ?_
  refine Bu H1<|.block ?_
  refine Bs e1.col.length (fun i8 (y8:Int×Int)=>⟨[(3,.own 0 y1.length),(5,.ptr 1 0),(6,.li g),(7,.li y8.1),(8,.li y8.2),(13,.mView l),(14,.li l.length),(15,.li i1),(28,.mI e1.col),(29,.li e1.col.length),(30,.li i8)],[.row 5 1 true false (tY y1),.box 128 (e1.a false)]⟩) (fun i8 y8=>True) (0,1) (wk H1 [0,1]) (trivial) fun i8 y8 hi8 hy8=>?_
  refine Bu H1<|.seq ?_
  refine Br ?_ ?_<;>intro h31
  ·refine Bp<|.seq<|.block ?_
   have H8:e1.col[i8]? = some e1.col[i8]:=Aa (by omega)
   generalize e1.col[i8]=e8 at H8
   refine Bu (Fe H1 H8) ?_
   refine Bu (Fe H1 H8) ?_
   refine B0 (Fe H1 H8) ?_
   refine B0 (Fe H1 H8) ?_
   exact⟨by omega,(IntKind.i64.wrap (y8.1+(IntKind.i64.wrap (e8*y8.2))),IntKind.i64.wrap (y8.2*4)),trivial,wk (I1 (Dw ((i8:Int)+1)) H1 H8) [0,1]⟩
  refine Bt<|.H H1 ?_
  refine Bu H1<|.block ?_
  refine Bs e1.cnt.length (fun i9 (y9:(List Int))=>⟨[(3,.own 0 y9.length),(13,.mView l),(14,.li l.length),(15,.li i1),(53,.mI e1.cnt),(54,.li e1.cnt.length),(55,.li i9)],[.row 5 1 true false (tY y9)]⟩) (fun i9 y9=>y9.length=vwl (l.take i1)+3+i9/\By y9) (y1++([IntKind.u8.wrap g,IntKind.u8.wrap (Int.fdiv y8.1 (2 ^ min (Int.toNat 8) 64)),IntKind.u8.wrap y8.1])) (wk H1 [0]) ⟨by simp;omega,.app hy1.2 (.cons (Rv _) (.cons (Rv _) (.u8 _)))⟩ fun i9 y9 hi9 hy9=>?_
  refine Bu H1<|.seq ?_
  refine Br ?_ ?_<;>intro h56
  ·refine Bp<|.seq<|.block ?_
   have H9:e1.cnt[i9]? = some e1.cnt[i9]:=Aa (by omega)
   generalize e1.cnt[i9]=e9 at H9
   refine Bu (Fe H1 H9) ?_
   refine B0 (Fe H1 H9) ?_
   refine B0 (Fe H1 H9) ?_
   exact⟨by omega,(y9++([IntKind.u8.wrap e9])),⟨by simp;omega,.app hy9.2 (.u8 _)⟩,wk (I1 (Dw ((i9:Int)+1)) H1 H9) [0]⟩
  refine Bt<|.H1 H1 ?_
  exact⟨by omega,(y9),⟨by omega,hy9.2⟩,wk (Fe (Dw ((i1:Int)+1)) H1) [0]⟩
 refine Bt<|.R ?_
 exact .ret ⟨y1,rW Dy [0],⟨by show y1.length=vwl l;rw[hy1.1,Bf (by omega)],hy1.2⟩⟩
def Hq:List Int:=(K7 l hl hv).choose
theorem Tf:PP 135 [] [.mView l] [.row 5 1 false false (tY (Hq l hl hv))] (.own 0 (Hq l hl hv).length):=(K7 l hl hv).choose_spec.1
theorem Tp:(Hq l hl hv).length=vwl l:=(K7 l hl hv).choose_spec.2.1
theorem Abw:By (Hq l hl hv):=(K7 l hl hv).choose_spec.2.2
theorem Rg:(Hq l hl hv).length<=11*l.length:=by rw[Tp];exact Abf hv
end
theorem Ag6 (g:G3) (l:List Gw) (now:Int) (hl:l.length<=1000000) (hv:∀v∈l,v.col.length<=8):Ct 180 [g.g,.mView l,.li now] (fun d:Int=>.li d) (fun d=>True):=by
 refine Ev Tryz.func180 ?_
 refine Bq<|.seq ?_
 refine B8 Dy (Ya g now) ?_
 refine Br ?_ ?_<;>intro h23
 ·refine Bq ?_
  exact .ret (Eu Dy 1 trivial)
 refine Bp ?_
 have H1:l[g.j.toNat]? = some l[g.j.toNat]:=Aa (by omega)
 generalize l[g.j.toNat]=e1 at H1
 refine Bu H1<|.seq ?_
 refine Bu H1 ?_
 refine Br ?_ ?_<;>intro h39
 ·refine Bu H1 ?_
  exact .ret (Eu H1 1 trivial)
 refine Bp<|.seq ?_
 have H2:e1.col[g.p.toNat]? = some e1.col[g.p.toNat]:=Aa (by omega)
 generalize e1.col[g.p.toNat]=e2 at H2
 refine Bu (Fe H1 H2) ?_
 refine Br ?_ ?_<;>intro h55
 ·refine Bu (Fe H1 H2) ?_
  exact .ret (Eu (Fe H1 H2) 3 trivial)
 refine Bp<|.H (Fe H1 H2) ?_
 exact .ret (Eu (Fe H1 H2) 2 trivial)
section
variable {id0:Nat} {l:List Oper}
section
variable {P:Program} {n m:Nat} {st:St} {K:Exit->St->Prop}
theorem Ww {E:Gp} {F:Fence} (hF:FOk E F) {ops:Array Oper} {K:St->Prop} {Q:Exit->Act->World->Prop} (l2:List Oper) (hQ:∀st β a w,K st->Es E β st a w->wpListIn F 0 P ops Q l2 a w):∀(l:List Oper) (hd:∀o∈l,∀x,o.dst=some x->x<E.n) (st:St) (β:Nat->Option Nat) (a:Act) (w:World),
 runs P (l.map fun o=>⟨o.dst,o.op,o.type,Ns ops o⟩) st K->Es E β st a w->wpListIn F 0 P ops Q (l++l2) a w
 | [],_,st,β,a,w,h,r=>hQ st β a w h r
 | o::l,hd,st,β,a,w,h,r=>by
  obtain⟨hg,h⟩:=h
  rw[List.cons_append]
  unfold wpListIn
  simp only at h hg
  cases hc:Fb o.op with
  | true =>
   rw[hc,if_pos rfl] at h
   obtain⟨e,h1,h2⟩:=h
   exact Ut r (hd o (by simp)) hg (fun _ p _ hp=>Hg st p.1 hp) h1 hF fun β' a' w' r'=>Ww hF l2 hQ l (fun x hx=>hd x (by simp[hx])) _ β' a' w' h2 r'
  | false =>
   rw[hc,if_neg (by simp)] at h
   obtain⟨h1,h2⟩:=h
   exact Ut r (hd o (by simp)) hg (fun _ p _ hp=>Hg st p.1 hp) (fun hb=>Aew hc (h1 hb)) hF fun β' a' w' r'=>Ww hF l2 hQ l (fun x hx=>hd x (by simp[hx])) _ β' a' w' h2 r'
theorem VW.region_fz (j id:Nat) (hd:Fs n l=true) (h:runs P ((Gf l).take j) st (fun s=>F7 (s.o id)=true/\runs P ((Gf l).drop j) (s.freeze id) (K .normal))):VW P n m (.region id0 l.toArray false) st K:=fun E F hE hF β a w r=>by
 have hd':∀o∈l,∀x,o.dst=some x->x<E.n:=fun o ho x hx=>by rw[hE.1];exact O3 hd o ho x hx
 refine wpIn_region_lit ?_
 have key:=Ww (P:=P) (Q:=Agw E K) hF (ops:=l.toArray) (l.drop j) (fun s β a w hs r=>?_) (l.take j) (fun o ho=>hd' o (Aq ho)) st β a w (by
  have:=h
  simp only[Gf,<- List.map_take] at this
  exact this) r
 ·rwa[List.take_append_drop] at key
 obtain⟨h1,h2⟩:=hs
 have r2:Es E β (s.freeze id) a w:=by
  unfold St.freeze
  cases hq:s.o id with
  | row ty k fr fz es=>exact (r.freeze hq).1.melt
  | _=>rw[hq] at h1;cases h1
 refine Aaa hF (fun s β a w h1 h2=>⟨E,s,β,Hs.refl E,h1,h2⟩) (l.drop j) (fun o ho=>hd' o (Ay ho)) _ β a w ?_ r2
 rw[List.map_drop]
 exact h2
theorem VX.region_fz (j id:Nat) (hd:Fs n l=true) (h:∀K1:St->Prop,(∀s,K .normal s->K1 s)->runs P ((Gf l).take j) st (fun s=>F7 (s.o id)=true/\runs P ((Gf l).drop j) (s.freeze id) K1)):VX P n m (.region id0 l.toArray false) st K:=by
 obtain⟨s,h1,h2,h3⟩:=Qi _ _ (h _ fun _ h=>h)
 obtain⟨s2,h4,h5⟩:=Qi _ _ h3
 refine⟨.normal,s2,.region_fz j id hd (Lb _ _ ?_ h1),h5⟩
 rintro s' rfl
 exact⟨h2,Lb _ _ (by rintro s' rfl;exact⟨rfl,rfl⟩) h4⟩
theorem VX.region_fz_seq {y:Code} (j id:Nat) (hd:Fs n l=true) (h:∀K1:St->Prop,(∀s,VX P n m y s K->K1 s)->runs P ((Gf l).take j) st (fun s=>F7 (s.o id)=true/\runs P ((Gf l).drop j) (s.freeze id) K1)):VX P n m (.seq (.region id0 l.toArray false) y) st K :=
 .seq (.region_fz j id hd fun K1 hK1=>h K1 hK1)
abbrev Dk:=@VX.region_fz_seq
end
section
variable {P:Program} {n m:Nat} {st:St} {K:Exit->St->Prop} {c:Code}
theorem VX.rowIs (id:Nat) (es:List (List T)) (h:F7 (st.o id)=true) (he:Lc (st.o id)=es) (hv:VX P n m c (st.set id (.row (Aaf (st.o id)) (Sw (st.o id)) (Ar6 (st.o id)) (Ar5 (st.o id)) es)) K):VX P n m c st K:=by
 obtain⟨e,s,h1,h2⟩:=hv
 refine⟨e,s,fun E F hE hF β a w r=>h1 E F hE hF β a w ?_,h2⟩
 subst he
 cases hq:st.o id with
 | row ty k fr fz es=>exact (r.flag hq (fun e=>.inl e) fun e=>e).1
 | _=>rw[hq] at h;exact absurd h (by simp[F7])
end
end
end Go.Proofs.YtkkimgjinbaemaaGreat
