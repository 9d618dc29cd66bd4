/- The walk. -/
import Derived.Test.YtkkimgjinbaemaaGreatKah
noncomputable section
namespace Go.Proofs.YtkkimgjinbaemaaGreat
open Go.RowKit
set_option linter.unusedVariables false
set_option linter.unusedSimpArgs false
set_option linter.defProp false
set_option linter.unusedSectionVars false
set_option maxRecDepth 100000
set_option maxHeartbeats 4000000
theorem Qw (s:Int) (b:List Int) (h:b.length<=1000000):Ct 138 [.lit (.int .u32 s),.mY b] (fun d:Int=>.lit (.int .u32 d)) (fun d=>True):=by
 refine Ev Tryz.func138 ?_
 refine B3 (fun K kk=>by simp[go_sem,Il];exact kk) ?_
 refine B3 (fun K kk=>by simp[go_sem,Il];exact kk)<|.seq ?_
 refine B3 (fun K kk=>by simp[go_sem,Il];exact kk)<|.block ?_
 refine Bs b.length (fun i1 (y1:Int)=>⟨[(5,.lit (.int .u32 y1)),(11,.mY b),(12,.li b.length),(13,.li i1)],[]⟩) (fun i1 y1=>True) (Ey .xor .u32 IntKind.u32.max s) (wk Dy []) (trivial) fun i1 y1 hi1 hy1=>?_
 refine B3 (fun K kk=>by simp[go_sem,Il];exact kk)<|.seq ?_
 refine Br ?_ ?_<;>intro h14
 ·refine Bp<|.seq<|.block ?_
  obtain⟨e1,H1⟩:=gx b i1
  refine B3 (fun K kk=>by simp[go_sem,Il,H1];repeat first | exact kk | refine aK ?_) ?_
  refine B3 (fun K kk=>by simp[go_sem,Il,H1];exact kk) ?_
  refine B3 (fun K kk=>by simp[go_sem,Il,H1];exact kk)<|.block ?_
  refine Bs 8 (fun i2 (y2:Int)=>⟨[(5,.lit (.int .u32 y2)),(11,.mY b),(12,.li b.length),(13,.li i1),(21,.li i2)],[]⟩) (fun i2 y2=>True) (Ey .xor .u32 y1 (IntKind.u32.wrap e1)) (wk H1 []) (trivial) fun i2 y2 hi2 hy2=>?_
  refine B3 (fun K kk=>by simp[go_sem,Il,H1];exact kk)<|.seq ?_
  refine Br ?_ ?_<;>intro h22
  ·refine Bp<|.seq<|.block<|.S (fun K kk=>by simp[go_sem,Il,H1];exact kk) ?_
   refine B3 (fun K kk=>by simp[go_sem,Il,H1];repeat first | exact kk | refine aK ?_) ?_
   refine B3 (fun K kk=>by simp[go_sem,Il,H1];exact kk) ?_
   refine Br ?_ ?_<;>intro h28
   ·refine Ci (fun K kk=>by simp[go_sem,Il,H1];exact kk) ?_
    refine Ci (fun K kk=>by simp[go_sem,Il,H1];exact kk) ?_
    exact⟨by omega,(Ey .xor .u32 (Int.fdiv y2 (2 ^ min (Int.toNat 1) 32)) 3988292384),trivial,wk (Fe (Dw ((i2:Int)+1)) H1) []⟩
   refine Bp<|.S1 (fun K kk=>by simp[go_sem,Il,H1];exact kk) ?_
   exact⟨by omega,(Int.fdiv y2 (2 ^ min (Int.toNat 1) 32)),trivial,wk (Fe (Dw ((i2:Int)+1)) H1) []⟩
  refine Bt<|.S1 (fun K kk=>by simp[go_sem,Il,H1];exact kk) ?_
  exact⟨by omega,(y2),trivial,wk (Fe (Dw ((i1:Int)+1)) H1) []⟩
 refine Bt<|.S (fun K kk=>by simp[go_sem,Il];exact kk) ?_
 refine Bz (Fl ?_);simp[go_sem,Il]
 exact⟨Ey .xor .u32 IntKind.u32.max y1,by rfl,trivial⟩
theorem S5 (b:List Int) (h:b.length<=1000000):Ct 103 [.mY b] (fun d:Int=>.lit (.int .u32 d)) (fun d=>True):=by
 refine Ev Tryz.func103 ?_
 refine Bq ?_
 obtain⟨Y1,cY1,qY1⟩:=Eo (Qw 0 b (by assumption))
 refine B8 Dy cY1 ?_
 exact .ret (Eu Dy Y1 trivial)
theorem Sg (n:Int):Ct 141 [.li n] (fun d:Int=>.li d) (fun d=>(d≠0->0<=n/\n<=4294967295)/\(0<=n->n<=4294967295->d≠0)):=by
 refine Ev Tryz.func141 ?_
 refine Bq<|.seq ?_
 refine Bq ?_
 refine Br ?_ ?_<;>intro h9
 ·refine Bq ?_
  exact .ret (Eu Dy 0 (by exact⟨fun h=>absurd rfl h,fun _ _=>by omega⟩))
 refine Bp<|.R<|.seq<|.block ?_
 refine Cj (fun (y1:Int×Int)=>⟨[(0,.li y1.1),(3,.li y1.2)],[]⟩) (fun y1=>(0<=y1.1/\y1.1<=4294967295)/\1<=y1.2/\y1.2<=4294967295 - y1.1+1) (fun y1=>y1.1.toNat) (n,1) (wk Dy []) (by dsimp only;omega) fun y1 hy1=>?_
 refine B9<|.R ?_
 refine Br ?_ ?_<;>intro h11
 ·refine Bp<|.block ?_
  have hd:Int.tdiv y1.1 128=y1.1 / 128:=Int.tdiv_eq_ediv_of_nonneg (by omega)
  have hq:=Dw (y1.1 / 128)
  refine Bu (Fe hd hq) ?_
  have hw1:=Dw (y1.2+1:Int)
  refine B0 hw1 ?_
  refine⟨((y1.1 / 128),(y1.2+1)),?_,?_,wQ [] ?_ ?_⟩
  ·dsimp only;omega
  ·dsimp only;omega
  all_goals simp[go_sem,hw1]
 refine Bt<|.R ?_
 exact .ret (Eu Dy y1.2 (by first | exact⟨fun h=>absurd rfl h,fun _ _=>by omega⟩ | exact⟨fun _=>by omega,fun _ _=>by omega⟩))
theorem Hn (n:Int):Ct 106 [.li n] (fun d:List Int×Int=>.tup [.mY d.1,.li d.2]) (fun d=>d.1.length<=5/\By d.1/\(0<=n->n<=4294967295->d.1.length=vnl n)):=by
 refine Ev Tryz.func106 ?_
 obtain⟨Y1,cY1,qY1⟩:=Eo (Sg n)
 have hs:=qY1
 refine Bq<|.seq ?_
 refine B8 Dy cY1 ?_
 refine Br ?_ ?_<;>intro h7
 ·refine Bq ?_
  exact .ret (Eu Dy ([],8) (by exact⟨Ae _,Nx,fun a b=>absurd (by assumption) (hs.2 a b)⟩))
 have hn:=hs.1 h7
 refine Bp<|.R<|.seq<|.block ?_
 refine Cf 4 5 1 (by decide) (k':=1) (by simp[go_sem]) ?_
 simp[go_sem,-Prod.exists]
 refine Cj (fun (y1:(List Int)×Int)=>⟨[(0,.li y1.2),(4,.own 0 y1.1.length)],[.row 5 1 false false (tY y1.1)]⟩) (fun y1=>(0<=y1.2/\((y1.1.length=0/\y1.2<=4294967295)\/(y1.1.length=1/\y1.2<=33554431)\/(y1.1.length=2/\y1.2<=262143)\/(y1.1.length=3/\y1.2<=2047)\/(y1.1.length=4/\y1.2<=15)))/\By y1.1/\y1.1.length+vnl y1.2=vnl n) (fun y1=>y1.2.toNat) ([],n) (wk Dy [0]) (⟨by simp;omega,Nx,by simp⟩) fun y1 hy1=>?_
 refine B9<|.R ?_
 refine Br ?_ ?_<;>intro h9
 ·refine Bp<|.block<|.H Dy ?_
  have hd:Int.tdiv y1.2 128=y1.2 / 128:=Int.tdiv_eq_ediv_of_nonneg (by omega)
  have hq:=Dw (y1.2 / 128)
  refine B0 (Fe hd hq) ?_
  refine⟨(y1.1++([IntKind.u8.wrap (IntKind.i64.wrap (Int.tmod y1.2 128+128))]),(y1.2 / 128)),?_,?_,wQ [0] ?_ ?_⟩
  ·dsimp only;omega
  ·exact⟨by simp only[Bo,A6,List.length_nil];omega,hy1.2.1.app (Xm _),by have h:=hy1.2.2;rw[Alx (by omega) (by omega)] at h;simp only[Bo,A6,List.length_nil];omega⟩
  all_goals simp[go_sem]
 refine Bt<|.H Dy ?_
 refine B2 Dy 0 ?_
 exact .ret (Eu Dy (y1.1++([IntKind.u8.wrap y1.2]),0) (by first | exact⟨Ae _,Nx,fun a b=>absurd (by assumption) (hs.2 a b)⟩ | exact⟨by simp only[Bo,A6,List.length_nil];omega,hy1.2.1.app (Xm _),fun _ _=>by have h:=hy1.2.2;rw[show vnl y1.2=1 by unfold vnl;rw[if_pos (by omega)]] at h;simp only[Bo,A6,List.length_nil];omega⟩))
def I4 (n:Int):List Int×Int:=(Eo (Hn n)).choose
theorem Ei (n:Int):(I4 n).1.length<=5/\By (I4 n).1/\(0<=n->n<=4294967295->(I4 n).1.length=vnl n):=(Eo (Hn n)).choose_spec.2
theorem J7 (k:Int):Ct 76 [.li k] (fun d:Nv=>d.g) (fun d=>0<=d.fix/\d.fix<=4/\0<=d.grp/\d.grp<=4/\0<=d.lea/\d.lea<=1/\0<=d.mos/\d.mos<=100 /\ -1<=d.dat/\d.dat<=10/\∀s,Sc k=some s->d=⟨s.fix,s.grp,s.lea,s.mos,s.dat⟩):=by
 refine Ev Tryz.func76 ?_
 refine Bq<|.seq ?_
 refine Bq<|.block ?_
 refine Bq ?_
 refine Br ?_ ?_<;>intro h4
 ·refine Bq ?_
  exact .ret (Eu Dy ⟨3,0,0,0,0⟩ ⟨by decide,by decide,by decide,by decide,by decide,by decide,by decide,by decide,by decide,by decide,(fun s hs=>by unfold Sc at hs;(repeat' split at hs)<;>first | (exfalso;omega) | (cases hs;done))⟩)
 refine Ce (by rfl) fun K1 hK1=>?_
 simp[go_sem]
 refine hK1 _ ⟨_,_,_,_,_,_,_,_,rfl,.more (by decide) rfl rfl (.more (by decide) rfl rfl (.more (by decide) rfl rfl (.more (by decide) rfl rfl (.one (by decide) rfl rfl)))),by decide,rfl,by simp[go_sem];rfl,by simp[go_sem];rfl,by simp[go_sem],?_⟩;clear hK1
 refine Br ?_ ?_<;>intro h7
 ·refine Bq ?_
  exact .ret (Eu Dy ⟨1,0,0,0,0⟩ ⟨by decide,by decide,by decide,by decide,by decide,by decide,by decide,by decide,by decide,by decide,(fun s hs=>by unfold Sc at hs;(repeat' split at hs)<;>first | (exfalso;omega) | (cases hs;done))⟩)
 refine Ce (by rfl) fun K1 hK1=>?_
 simp[go_sem]
 refine hK1 _ ⟨_,_,_,_,_,_,_,_,rfl,.more (by decide) rfl rfl (.more (by decide) rfl rfl (.one (by decide) rfl rfl)),by decide,rfl,by simp[go_sem];rfl,by simp[go_sem];rfl,by simp[go_sem],?_⟩;clear hK1
 refine Br ?_ ?_<;>intro h15
 ·refine Bq ?_
  exact .ret (Eu Dy ⟨2,0,0,0,0⟩ ⟨by decide,by decide,by decide,by decide,by decide,by decide,by decide,by decide,by decide,by decide,(fun s hs=>by unfold Sc at hs;(repeat' split at hs)<;>first | (exfalso;omega) | (cases hs;done) | (cases hs;rfl))⟩)
 refine Bq ?_
 refine Br ?_ ?_<;>intro h21
 ·refine Bq ?_
  exact .ret (Eu Dy ⟨3,4,1,3,0⟩ ⟨by decide,by decide,by decide,by decide,by decide,by decide,by decide,by decide,by decide,by decide,(fun s hs=>by unfold Sc at hs;(repeat' split at hs)<;>first | (exfalso;omega) | (cases hs;done))⟩)
 refine Bq ?_
 refine Br ?_ ?_<;>intro h24
 ·refine Bq ?_
  exact .ret (Eu Dy ⟨1,2,1,3,0⟩ ⟨by decide,by decide,by decide,by decide,by decide,by decide,by decide,by decide,by decide,by decide,(fun s hs=>by unfold Sc at hs;(repeat' split at hs)<;>first | (exfalso;omega) | (cases hs;done))⟩)
 refine Bq ?_
 refine Br ?_ ?_<;>intro h27
 ·refine Bq ?_
  exact .ret (Eu Dy ⟨1,0,0,0,10⟩ ⟨by decide,by decide,by decide,by decide,by decide,by decide,by decide,by decide,by decide,by decide,(fun s hs=>by unfold Sc at hs;(repeat' split at hs)<;>first | (exfalso;omega) | (cases hs;done) | (cases hs;rfl))⟩)
 refine Ce (by rfl) fun K1 hK1=>?_
 simp[go_sem]
 refine hK1 _ ⟨_,_,_,_,_,_,_,_,rfl,.one (by decide) rfl rfl,by decide,rfl,by simp[go_sem];rfl,by simp[go_sem];rfl,by simp[go_sem],?_⟩;clear hK1
 refine Br ?_ ?_<;>intro h30
 ·refine Bq ?_
  exact .ret (Eu Dy ⟨1,0,0,0,(-1)⟩ ⟨by decide,by decide,by decide,by decide,by decide,by decide,by decide,by decide,by decide,by decide,(fun s hs=>by unfold Sc at hs;(repeat' split at hs)<;>first | (exfalso;omega) | (cases hs;done) | (cases hs;rfl))⟩)
 refine Bq ?_
 refine Br ?_ ?_<;>intro h34
 ·refine Bq ?_
  exact .ret (Eu Dy ⟨1,3,0,16,0⟩ ⟨by decide,by decide,by decide,by decide,by decide,by decide,by decide,by decide,by decide,by decide,(fun s hs=>by unfold Sc at hs;(repeat' split at hs)<;>first | (exfalso;omega) | (cases hs;done) | (cases hs;rfl))⟩)
 refine Bq ?_
 refine Br ?_ ?_<;>intro h37
 ·refine Bq ?_
  exact .ret (Eu Dy ⟨0,2,0,4,0⟩ ⟨by decide,by decide,by decide,by decide,by decide,by decide,by decide,by decide,by decide,by decide,(fun s hs=>by unfold Sc at hs;(repeat' split at hs)<;>first | (exfalso;omega) | (cases hs;done) | (cases hs;rfl))⟩)
 refine Bq ?_
 refine Br ?_ ?_<;>intro h40
 ·refine Bq ?_
  exact .ret (Eu Dy ⟨4,0,0,0,0⟩ ⟨by decide,by decide,by decide,by decide,by decide,by decide,by decide,by decide,by decide,by decide,(fun s hs=>by unfold Sc at hs;(repeat' split at hs)<;>first | (exfalso;omega) | (cases hs;done) | (cases hs;rfl))⟩)
 refine Bp<|.R ?_
 exact .ret (Eu Dy ⟨0,0,0,0,0⟩ ⟨by decide,by decide,by decide,by decide,by decide,by decide,by decide,by decide,by decide,by decide,(fun s hs=>by unfold Sc at hs;(repeat' split at hs)<;>first | (exfalso;omega) | (cases hs;done))⟩)
def Ee (k:Int):Nv:=(Eo (J7 k)).choose
theorem J9 (k:Int):PP 76 [] [.li k] [] (.agg ((Ee k).a false)):=(Eo (J7 k)).choose_spec.1
theorem Kd (k:Int):0<=(Ee k).fix/\(Ee k).fix<=4/\0<=(Ee k).grp/\(Ee k).grp<=4/\0<=(Ee k).lea/\(Ee k).lea<=1/\0<=(Ee k).mos/\(Ee k).mos<=100 /\ -1<=(Ee k).dat/\(Ee k).dat<=10/\∀s,Sc k=some s->(Ee k)=⟨s.fix,s.grp,s.lea,s.mos,s.dat⟩:=(Eo (J7 k)).choose_spec.2
def viR (l:List Int):Prop:=∀a∈l,0<=a/\a<=4294967295
section
variable (m:Dz) (h1:m.tok.length<=10000) (h2:m.args.length<=10000) (h3:m.data.length<=10000)
include h1 h2 h3
theorem Hi:Ct 78 [m.g] (fun d:List Int=>.mY d) (fun d=>(By m.tok->By m.data->By d)/\(viR m.args->(0<(Ee m.kind).grp->(Ee m.kind).fix<=m.args.length)->d.length=m.tok.length+M0 m.args+(if 0<(Ee m.kind).grp then 1 else 0)+m.data.length)):=by
 refine Ev Tryz.func78 ?_
 have hv:=J9 m.kind
 have hq0:=Kd m.kind
 generalize Ee m.kind=S at hv hq0 ⊢
 refine B3 (fun K kk=>by simp[go_sem,Af,Ba,A7];exact kk) ?_
 refine B3 (fun K kk=>by simp[go_sem,Af,Ba,A7];refine .l (hv) ?_;simp[go_sem,Af,Ba,A7];exact kk) ?_
 refine B3 (fun K kk=>by simp[go_sem,Af,Ba,A7];repeat first | exact kk | refine aK ?_)<|.seq ?_
 refine B3 (fun K kk=>by simp[go_sem,Af,Ba,A7];exact kk)<|.block ?_
 refine Bs m.args.length (fun i1 (y1:(List Int))=>⟨[(1,.ptr 0 0),(3,.ptr 1 0),(4,.own 2 y1.length),(16,.mI m.args),(17,.li m.args.length),(18,.li i1)],[.box 56 (m.a false),.box 177 [.li S.fix,.li S.grp,.li S.lea,.li S.mos,.li S.dat],.row 5 1 false false (tY y1)]⟩) (fun i1 y1=>y1.length<=m.tok.length+6*i1/\(By m.tok->By y1)/\(viR m.args->y1.length=m.tok.length+M0 (m.args.take i1)+if 0<S.grp/\S.fix<i1 then 1 else 0)) (m.tok) (wk Dy [0,1,2]) (⟨by simp,fun h=>h,fun _=>by rw[if_neg (by omega)];simp[M0]⟩) fun i1 y1 hi1 hy1=>?_
 refine B3 (fun K kk=>by simp[go_sem,Af,Ba,A7];exact kk)<|.seq ?_
 refine Br ?_ ?_<;>intro h19
 ·refine Bp<|.seq<|.block ?_
  obtain⟨e1,H1⟩:=gx m.args i1
  refine B3 (fun K kk=>by simp[go_sem,Af,Ba,A7,H1];repeat first | exact kk | refine aK ?_)<|.seq ?_
  refine B3 (fun K kk=>by simp[go_sem,Af,Ba,A7,H1];exact kk) ?_
  refine Br ?_ ?_<;>intro h31
  ·refine Ci (fun K kk=>by simp[go_sem,Af,Ba,A7,H1];repeat first | exact kk | refine aK ?_) ?_
   have he:=fun n=>Ei n
   obtain⟨Y1,cY1,qY1⟩:=Eo (Hn e1)
   refine B3 (fun K kk=>by simp[go_sem,Af,Ba,A7,H1];refine .l cY1 ?_;simp[go_sem,Af,Ba,A7,H1];exact kk) ?_
   refine C4 (by rfl) fun K1 hK1=>?_
   simp[go_sem,Af,Ba,A7,H1]
   repeat' with_reducible refine Ax ?_ ?_
   all_goals try (intros;(repeat' refine Ax ?_ ?_)<;>omega)
   all_goals try ((try have q1:=qY1);(try have q2:=Ei e2);(try have q3:=Ei e3);(try have q4:=Ei e4);omega)
   refine hK1 _ ?_;clear hK1
   refine Ci (fun K kk=>by simp[go_sem,Af,Ba,A7,H1];exact kk) ?_
   refine⟨by omega,((y1++([IntKind.u8.wrap (IntKind.i64.wrap (Int.tdiv (IntKind.i64.wrap (m.args.length - S.fix)) S.grp))]))++(Y1.1)),?_,wQ [0,1,2] ?_ ?_⟩
   ·refine⟨?_,(fun h=>by first | exact hy1.2.1 h | exact ((hy1.2.1 h).app (Xm _)).app qY1.2.1),fun hr=>(by have h9:=hy1.2.2 hr;(rw[Aib H1];have h8:=qY1.2.2 (hr e1 (Ac H1)).1 (hr e1 (Ac H1)).2;simp only[Bo,A6,List.length_nil];split at h9<;>split<;>omega))⟩;simp only[Bo,A6,List.length_nil];(try have q1:=qY1);(try have q2:=Ei e2);(try have q3:=Ei e3);(try have q4:=Ei e4);omega
   all_goals simp[go_sem,Dw ((i1:Int)+1),H1,Af,Ba,A7]
  refine Bp ?_
  have he:=fun n=>Ei n
  obtain⟨Y2,cY2,qY2⟩:=Eo (Hn e1)
  refine B3 (fun K kk=>by simp[go_sem,Af,Ba,A7,H1];refine .l cY2 ?_;simp[go_sem,Af,Ba,A7,H1];exact kk) ?_
  refine C4 (by rfl) fun K1 hK1=>?_
  simp[go_sem,Af,Ba,A7,H1]
  repeat' with_reducible refine Ax ?_ ?_
  all_goals try (intros;(repeat' refine Ax ?_ ?_)<;>omega)
  all_goals try ((try have q1:=qY2);(try have q2:=Ei e2);(try have q3:=Ei e3);(try have q4:=Ei e4);omega)
  refine hK1 _ ?_;clear hK1
  refine Ci (fun K kk=>by simp[go_sem,Af,Ba,A7,H1];exact kk) ?_
  refine⟨by omega,(y1++(Y2.1)),?_,wQ [0,1,2] ?_ ?_⟩
  ·refine⟨?_,(fun h=>by first | exact hy1.2.1 h | exact ((hy1.2.1 h).app (Xm _)).app qY2.2.1 | exact (hy1.2.1 h).app qY2.2.1),fun hr=>(by have h9:=hy1.2.2 hr;(rw[Aib H1];have h8:=qY2.2.2 (hr e1 (Ac H1)).1 (hr e1 (Ac H1)).2;simp only[Bo,A6,List.length_nil];split at h9<;>split<;>omega))⟩;simp only[Bo,A6,List.length_nil];(try have q1:=qY2);(try have q2:=Ei e2);(try have q3:=Ei e3);(try have q4:=Ei e4);omega
  all_goals simp[go_sem,Dw ((i1:Int)+1),H1,Af,Ba,A7]
 refine Bt<|.seq<|.S (fun K kk=>by simp[go_sem,Af,Ba,A7];exact kk) ?_
 refine Br ?_ ?_<;>intro h64
 ·refine Ci (fun K kk=>by simp[go_sem,Af,Ba,A7];repeat first | exact kk | refine aK ?_) ?_
  refine B3 (fun K kk=>by simp[go_sem,Af,Ba,A7];repeat first | exact kk | refine aK ?_) ?_
  refine B2 Dy 2 ?_
  refine Bz (Fl ?_);simp[go_sem,Af,Ba,A7]
  exact⟨(y1++([0]))++m.data,by first | rfl | simp[go_sem],⟨fun h1 h2=>by exact ((hy1.2.1 h1).app (fun x hx=>by simp at hx;omega)).app h2,fun hr hf=>(by have h9:=hy1.2.2 hr;rw[Bf (by omega)] at h9;simp only[Bo,A6,List.length_nil];split at h9<;>split<;>omega)⟩⟩
 refine Bp<|.S (fun K kk=>by simp[go_sem,Af,Ba,A7];repeat first | exact kk | refine aK ?_) ?_
 refine B2 Dy 2 ?_
 refine Bz (Fl ?_);simp[go_sem,Af,Ba,A7]
 exact⟨y1++m.data,by first | rfl | simp[go_sem],⟨fun h1 h2=>by first | exact ((hy1.2.1 h1).app (fun x hx=>by simp at hx;omega)).app h2 | exact (hy1.2.1 h1).app h2,fun hr hf=>(by have h9:=hy1.2.2 hr;rw[Bf (by omega)] at h9;simp only[Bo,A6,List.length_nil];split at h9<;>split<;>omega)⟩⟩
def F0:List Int:=(Eo (Hi m h1 h2 h3)).choose
theorem Ko:PP 78 [] [m.g] [] (.mY (F0 m h1 h2 h3)):=(Eo (Hi m h1 h2 h3)).choose_spec.1
theorem Qk:(By m.tok->By m.data->By (F0 m h1 h2 h3))/\(viR m.args->(0<(Ee m.kind).grp->(Ee m.kind).fix<=m.args.length)->(F0 m h1 h2 h3).length=m.tok.length+M0 m.args+(if 0<(Ee m.kind).grp then 1 else 0)+m.data.length):=(Eo (Hi m h1 h2 h3)).choose_spec.2
end
section
variable (l:List Int) (x:Int) (h:l.length<=1000000)
include x h
theorem Ud:Ct 248 [.mI l,.li x] (fun d:Int=>.li d) (fun d=>0<=d->x∈l):=by
 refine Ev Tryz.func248 ?_
 refine Bq<|.seq ?_
 refine Bq<|.block ?_
 refine Bs l.length (fun i1 (y1:Unit)=>⟨[(0,.mI l),(1,.li x),(7,.li l.length),(8,.li i1)],[]⟩) (fun i1 y1=>True) () (wk Dy []) (trivial) fun i1 y1 hi1 hy1=>?_
 refine Bq<|.seq ?_
 refine Br ?_ ?_<;>intro h9
 ·refine Bp<|.seq<|.block<|.R ?_
  obtain⟨e1,H1⟩:=gx l i1
  refine Bu H1 ?_
  refine Br ?_ ?_<;>intro h16
  ·refine Bu H1 ?_
   exact .ret (Eu H1 i1 (by first | exact fun h=>absurd h (by decide) | exact fun _=>h16▸Ac H1))
  refine Bp<|.H1 H1 ?_
  exact⟨by omega,(),trivial,wk (Fe (Dw ((i1:Int)+1)) H1) []⟩
 refine Bt<|.R ?_
 exact .ret (Eu Dy (-1) (by exact fun h=>absurd h (by decide)))
def Ux:Int:=(Eo (Ud l x h)).choose
theorem Aj2:PP 248 [] [.mI l,.li x] [] (.li (Ux l x h)):=(Eo (Ud l x h)).choose_spec.1
theorem Akq:0<=(Ux l x h)->x∈l:=(Eo (Ud l x h)).choose_spec.2
theorem Ade:Ct 223 [.mI l,.li x] (fun d:Bool=>.lb d) (fun d=>d=true->x∈l):=by
 refine Ev Tryz.func223 ?_
 refine Bq ?_
 refine B8 Dy (Aj2 l x (by assumption)) ?_
 exact .ret (Eu Dy (decide ((0:Int)<=(Ux l x (by assumption)))) (fun h2=>Akq l x h (by simpa using h2)))
end
theorem X0 (c:List Int) (l:List Int) (h:l.length<=1000000) (hc:c.length<=1000000):Ct 177 [.mI c,.mI l] (fun d:Bool=>.lb d) (fun d=>True):=by
 refine Ev Tryz.func177 ?_
 refine Bq ?_
 refine VX.scope ?_
 refine Bq<|.seq ?_
 refine VX.label ?_
 refine B9<|.R<|.block ?_
 refine Bs l.length (fun i1 (y1:Bool)=>⟨[(0,.mI c),(1,.mI l),(5,.lb y1),(10,.mI l),(11,.li l.length),(12,.li i1)],[]⟩) (fun i1 y1=>True) (false) (wk Dy []) (trivial) fun i1 y1 hi1 hy1=>?_
 refine Bq<|.seq ?_
 refine Br ?_ ?_<;>intro h13
 ·refine Bp<|.seq<|.block ?_
  obtain⟨e1,H1⟩:=gx l i1
  refine Bu H1<|.seq ?_
  obtain⟨Y1,cY1,qY1⟩:=Eo (S9 e1)
  refine B8 H1 cY1 ?_
  refine Br ?_ ?_<;>intro h19
  ·refine Bt<|.H1 H1 ?_
   exact⟨by omega,(y1),trivial,wk (Fe (Dw ((i1:Int)+1)) H1) []⟩
  refine Bp<|.H H1<|.block ?_
  refine Bs l.length (fun i2 (y2:Bool)=>⟨[(0,.mI c),(1,.mI l),(5,.lb y2),(6,.li i1),(10,.mI l),(11,.li l.length),(12,.li i1),(20,.mI l),(21,.li l.length),(22,.li i2)],[]⟩) (fun i2 y2=>True) (y1) (wk H1 []) (trivial) fun i2 y2 hi2 hy2=>?_
  refine Bu H1<|.seq ?_
  refine Br ?_ ?_<;>intro h23
  ·refine Bp<|.seq<|.block ?_
   obtain⟨e2,H2⟩:=gx l i2
   refine Bu (Fe H1 H2) ?_
   refine B4 (by rfl) fun K1 hK1=>?_
   simp[go_sem,H1,H2]
   obtain⟨Y2,cY2,qY2⟩:=Eo (S9 e2)
   refine .l cY2 ?_
   simp[go_sem,H1,H2]
   refine Qc ?_
   simp[go_sem,H1,H2]
   refine .lo (Ik c i1 i2 (by assumption)) rfl (by simp[AV.cln,Ff]) ?_
   simp[go_sem,H1,H2]
   refine hK1 _ ?_;clear hK1
   refine Br ?_ ?_<;>intro h34
   ·refine Bu (Fe H1 H2)<|.exit ?_
    refine Bu (Fe H1 H2) ?_
    exact .ret (Eu (Fe H1 H2) true trivial)
   refine Bp<|.H1 (Fe H1 H2) ?_
   exact⟨by omega,(y2),trivial,wk (I1 (Dw ((i2:Int)+1)) H1 H2) []⟩
  refine Bt<|.H1 H1 ?_
  exact⟨by omega,(y2),trivial,wk (Fe (Dw ((i1:Int)+1)) H1) []⟩
 refine Bt<|.R ?_
 exact .ret (Eu Dy y1 trivial)
section
variable {sl:List (Nat×AV)} {n m:Nat} {ob:List Ob}
section
variable {P:Program}
def Awv {γ:Type} (M:Nat) (sl:List (Nat×AV)) (f:γ->List Ob) (I:γ->Prop) (K:Exit->St->Prop):Exit->St->Prop
 | .normal,s=>∃x',I x'/\Yq M s ⟨[],f x'⟩
 | .ret,s=>∃ob',Yq M s ⟨[],ob'⟩/\K .ret ⟨sl,ob'⟩
 | .exit id,s=>∃ob',Yq M s ⟨[],ob'⟩/\K (.exit id) ⟨sl,ob'⟩
 | .goto t,s=>∃ob',Yq M s ⟨[],ob'⟩/\K (.goto t) ⟨sl,ob'⟩
 | _,_=>False
theorem Jv.mono {k:Nat} {o:List Ob} {I I':Prop} {K K':Exit->St->Prop} (hI:I->I') (hK:∀e s,K e s->K' e s) {e:Exit} {s:St} (h:Jv k sl o I K e s):Jv k sl o I' K' e s:=by
 cases e with
 | normal=>exact⟨h.1,hI h.2⟩
 | ret=>obtain⟨ob,h1,h2⟩:=h;exact⟨ob,h1,hK _ _ h2⟩
 | exit id=>obtain⟨ob,h1,h2⟩:=h;exact⟨ob,h1,hK _ _ h2⟩
 | goto t=>obtain⟨ob,h1,h2⟩:=h;exact⟨ob,h1,hK _ _ h2⟩
 | _=>exact h
theorem Jv.jump {k:Nat} {o o':List Ob} {I:Prop} {K:Exit->St->Prop} {e:Exit} {s:St} (h:Jv k sl o False K e s):Jv k sl o' I K e s:=by
 cases e with
 | normal=>exact h.2.elim
 | _=>exact h
theorem VX.rangeFn {γ : Type} {K : Exit -> St -> Prop} {g : Tmp} {ps : List Tmp} {al : List Oper} {aid : Nat} {body : Code} {gf : FuncId} {caps : List AV} {items : List (List AV)} (hit : Ys P gf caps items) (f : γ -> List Ob) (M : Nat) (hM : ∀ x, (f x).length = M) (hg : E5 sl g = .fn gf caps) (hlive : ∀ x id, (St.mk sl (f x)).o id ≠ .gone -> ((St.mk sl (f x)).o id).live) (hps : ∀ p ∈ ps, p < n) (hal : Ayi n al = true) (hcl : ∀ vs ∈ items, vs.length = ps.length /\ Ny (fun _ => none) vs = vs) (Inv : Nat -> γ -> Prop) (x0 : γ) (hI0 : Inv 0 x0) (hround : ∀ i vs x, items[i]? = some vs -> Inv i x -> VX P n M body (Agl al ⟨Sy ps vs sl, f x⟩) (Awv M sl f (Inv (i + 1)) K)) (hdone : ∀ x, Inv items.length x -> K .normal ⟨sl, f x⟩) :
    VX P n m (.rangeFunc (.tmp g) ps.toArray (.region aid al.toArray false) body) ⟨sl,f x0⟩ K:=by
  have key : ∀ (k i : Nat) (x : γ), i + k = items.length -> Inv i x -> ∃ e s, K e s /\ ∃ (xs : Nat -> γ) (stop : Nat), xs i = x /\ i <= stop /\ stop <= items.length /\
      (∀j vs,i<=j->j<stop->items[j]? = some vs->VW P n M body (Agl al ⟨Sy ps vs sl,f (xs j)⟩) (Jv M sl (f (xs (j+1))) True fun _ _=>False)) /\
      (stop=items.length->e=.normal/\s=⟨sl,f (xs stop)⟩)/\(∀vs,items[stop]? = some vs->VW P n M body (Agl al ⟨Sy ps vs sl,f (xs stop)⟩) (Jv M sl [] False fun e' s'=>e'=e/\s'=s)):=by
    intro k
    induction k with
    | zero =>
      intro i x hi hI
      refine ⟨.normal, ⟨sl, f x⟩, hdone x (by have : i = items.length := by omega
                                              rw[<- this];exact hI),fun _=>x,i,rfl,Aj _,by omega,fun j vs h1 h2=>by omega,fun _=>⟨rfl,rfl⟩,fun vs h=>?_⟩
      have:=(Ab.1 h).1
      omega
    | succ k ih =>
      intro i x hi hI
      obtain⟨vs,hvs⟩:∃vs,items[i]? = some vs:=⟨_,Aa (by omega)⟩
      obtain⟨e1,s1,h1,h2⟩:=hround i vs x hvs hI
      have other : ∀ (e : Exit) (s : St), K e s -> Jv M sl [] False (fun e' s' => e' = e /\ s' = s) e1 s1 -> ∃ e s, K e s /\ ∃ (xs : Nat -> γ) (stop : Nat), xs i = x /\ i <= stop /\ stop <= items.length /\
          (∀j vs,i<=j->j<stop->items[j]? = some vs->VW P n M body (Agl al ⟨Sy ps vs sl,f (xs j)⟩) (Jv M sl (f (xs (j+1))) True fun _ _=>False)) /\
          (stop=items.length->e=.normal/\s=⟨sl,f (xs stop)⟩)/\(∀vs,items[stop]? = some vs->VW P n M body (Agl al ⟨Sy ps vs sl,f (xs stop)⟩) (Jv M sl [] False fun e' s'=>e'=e/\s'=s)):=by
        intro e s hK hR
        refine⟨e,s,hK,fun _=>x,i,rfl,Aj _,by omega,fun j vs h1 h2=>by omega,fun h=>by omega,fun vs' h=>?_⟩
        rw[hvs] at h
        injection h with h
        subst h
        refine h1.mono ?_
        rintro e' s' ⟨rfl,rfl⟩
        exact hR
      cases e1 with
      | normal =>
        obtain⟨x',h3,h4⟩:=h2
        obtain⟨e,s,hK,xs,stop,q1,q2,q3,q4,q5,q6⟩:=ih (i+1) x' (by omega) h3
        refine⟨e,s,hK,fun j=>if j=i then x else xs j,stop,if_pos rfl,by omega,q3,fun j vs' hj1 hj2 hjv=>?_,fun h=>?_,fun vs' h=>?_⟩
        · by_cases e0:j=i
          · subst e0
            rw[hvs] at hjv
            injection hjv with hjv
            subst hjv
            simp only[if_true]
            rw[if_neg (by omega),q1]
            refine h1.mono ?_
            rintro e' s' ⟨rfl,rfl⟩
            exact⟨h4,trivial⟩
          · simp only
            rw[if_neg e0,if_neg (by omega)]
            exact q4 j vs' (by omega) hj2 hjv
        · obtain⟨g1,g2⟩:=q5 h
          exact⟨g1,by simp only;rw[if_neg (by omega)];exact g2⟩
        · simp only
          rw[if_neg (by omega)]
          exact q6 vs' h
      | ret=>obtain⟨ob,h3,h4⟩:=h2;exact other _ _ h4 ⟨ob,h3,rfl,rfl⟩
      | exit id=>obtain⟨ob,h3,h4⟩:=h2;exact other _ _ h4 ⟨ob,h3,rfl,rfl⟩
      | goto t=>obtain⟨ob,h3,h4⟩:=h2;exact other _ _ h4 ⟨ob,h3,rfl,rfl⟩
      | panic ch=>exact h2.elim
      | outgrown=>exact h2.elim
  obtain⟨e,s,hK,xs,stop,q1,q2,q3,q4,q5,q6⟩:=key items.length 0 x0 (by omega) hI0
  refine⟨e,s,?_,hK⟩
  have:=VW.rangeFn (m:=m) (K:=fun e' s'=>e'=e/\s'=s) (body:=body) (al:=al) (aid:=aid) (ps:=ps) (n:=n) (sl:=sl) (g:=g) hit (fun j=>f (xs j)) hg (fun j id=>hlive (xs j) id) hps hal hcl (fun j=>j<=stop) (Ae _) (fun j vs hj hI=>?_) (fun hI=>?_)
  · simp only[q1] at this
    exact this
  · rw[hM]
    by_cases e0:j=stop
    · subst e0
      exact (q6 vs hj).mono fun e' s' h=>h.jump
    · exact (q4 j vs (Ae _) (by omega) hj).mono fun e' s' h=>h.mono (fun _=>by omega) fun _ _ h=>h.elim
  · have hs:stop=items.length:=by omega
    obtain⟨g1,g2⟩:=q5 hs
    rw[hs] at g2
    exact⟨g1.symm,g2.symm⟩
abbrev Dm:=@VX.rangeFn
def St.dull (st:St) (id:Nat):St:=st.set id (.row (Aaf (st.o id)) (Sw (st.o id)) false (Ar5 (st.o id)) (Lc (st.o id)))
theorem VX.dull {st:St} {K:Exit->St->Prop} {c:Code} (id:Nat) (h:F7 (st.o id)=true) (hv:VX P n m c (st.dull id) K):VX P n m c st K:=by
 obtain⟨e,s,h1,h2⟩:=hv
 refine⟨e,s,fun E F hE hF β a w r=>h1 E F hE hF β a w ?_,h2⟩
 unfold St.dull
 cases hq:st.o id with
 | row ty k fr fz es=>exact (r.flag hq (fun e=>by cases e) fun e=>e).1
 | _=>rw[hq] at h;exact absurd h (by simp[F7])
abbrev Cv:=@VX.dull
theorem Ayn {id:Nat}:(St.mk sl ob).dull id=St.mk sl (Pg ob id (.row (Aaf (ob.getD id .gone)) (Sw (ob.getD id .gone)) false (Ar5 (ob.getD id .gone)) (Lc (ob.getD id .gone)))):=rfl
attribute [go_sem] Ayn
theorem Akj {m:Nat} {rs:List ResultVar} {σr:List Ob} {res:AV} (sel:List Nat) (hc:Vz P ⟨sl,ob⟩ rs) (hnd:sel.Nodup) (hm:∀id,id<m->sel[id]? = some id) (h:((Ky P ⟨sl,ob⟩ rs).ren fun id=>M3 id sel 0).low=res) (ho:OL (fun i=>ob.getD i .gone) (fun id=>M3 id sel 0) sel σr):Rm P m rs σr res .normal ⟨sl,ob⟩ :=
 ⟨.inl rfl,hc,sel,En hnd (.cons (by rw[<- h];exact Le.low _) .nil) ho,hm⟩
end
end
section
def Jr (r:Int):List F5->Nat->List Int
 | [],_=>[]
 | p::l,i=>if p.ring=r then (i:Int)::Jr r l (i+1) else Jr r l (i+1)
def Aiu (l:List F5) (r:Int):List Int:=Jr r l 0
theorem Afv (r:Int):∀(l1 l2:List F5) (i:Nat),Jr r (l1++l2) i=Jr r l1 i++Jr r l2 (i+l1.length)
 | [],l2,i=>by simp[Jr]
 | p::l1,l2,i=>by
  simp only[List.cons_append,Jr,A6,Afv r l1 l2 (i+1)]
  rw[show i+1+l1.length=i+(l1.length+1) by omega]
  split<;>rfl
theorem Zi (r:Int):∀(l:List F5) (i:Nat) (x:Int),x∈Jr r l i->(i:Int)<=x/\x<i+l.length
 | [],i,x,h=>by simp[Jr] at h
 | p::l,i,x,h=>by
  unfold Jr at h
  split at h
  ·rcases List.mem_cons.1 h with rfl | h
   ·simp only[A6];omega
   have:=Zi r l (i+1) x h;simp only[A6];omega
  have:=Zi r l (i+1) x h;simp only[A6];omega
variable {l:List F5}
theorem Abs {r x:Int} (h:x∈Aiu l r):0<=x/\x<l.length:=by
 have:=Zi r l 0 x h
 omega
def rgN (l:List F5) (r:Int) (k:Nat):Nat:=(Jr r (l.take k) 0).length
variable {r:Int} {k:Nat} {p:F5}
theorem Aq0 (h:l[k]? = some p):Jr r l 0=Jr r (l.take k) 0++((if p.ring=r then [(k:Int)] else [])++Jr r (l.drop (k+1)) (k+1)):=by
 have hk:=(Ab.1 h).1
 have e:l=l.take k++p::l.drop (k+1):=by
  have h1:=List.take_append_drop k l
  rw[List.drop_eq_getElem_cons hk,(Ab.1 h).2] at h1
  exact h1.symm
 have e2:Jr r l 0=Jr r (l.take k++p::l.drop (k+1)) 0:=congrArg (fun l=>Jr r l 0) e
 rw[e2,Afv,Jr]
 have hl:(l.take k).length=k:=by rw[A5];omega
 rw[hl,Bm]
 congr 1
 split<;>rfl
theorem Amz (h:l[k]? = some p):rgN l r (k+1)=rgN l r k+if p.ring=r then 1 else 0:=by
 have hk:=(Ab.1 h).1
 unfold rgN
 have h2:(l.take (k+1))[k]? = some p:=by rw[Ag (by omega)];exact h
 rw[Aq0 h2,List.take_take,Nat.min_eq_left (by omega)]
 have h3:(l.take (k+1)).drop (k+1)=[]:=List.drop_of_length_le (by rw[A5];omega)
 rw[h3]
 simp only[Jr,List.append_nil,Bo]
 split<;>rfl
theorem Azk (h:l[k]? = some p) (hp:p.ring=r):(Aiu l r)[rgN l r k]? = some (k:Int):=by
 unfold Aiu rgN
 rw[Aq0 h,if_pos hp,Ao (Aj _),Nat.sub_self]
 rfl
theorem Axo (l:List F5) (r:Int) (h:l.length<=k):rgN l r k=(Aiu l r).length:=by
 unfold rgN Aiu
 rw[Bf h]
theorem Wh (j:Gc) (r:Int) (h:j.phs.length<=1000000):Ys Tryz.prog 182 [.iptr false [.sl 8 (Ra j.phs),.sl 1 (tI j.con),.li j.start] 0,.iptr false [.li r] 0] ((Aiu j.phs r).map fun a=>[.li a]):=by
 refine Aeq Tryz.func182 rfl rfl rfl (by simp[Tryz.ntmps182]) rfl fun yl=>?_
 refine Ca (by rfl) fun K1 hK1=>?_
 simp[go_sem]
 refine hK1 _ ?_;clear hK1
 refine Cy ?_
 refine Dp j.phs.length (fun k=>⟨[(0,.lit (.func (.yield yl) #[] #[])),(2,.iptr false [.li r] 0),(7,.mPhase j.phs),(8,.li j.phs.length),(9,.li k)],[]⟩) (fun k=>rgN j.phs r k)
  (fun k=>True) (wQ [] ?_ ?_) ⟨rfl,rfl,trivial⟩ fun k hk _=>?_
 ·simp[go_sem]
 ·simp[go_sem]
 refine Ca (by rfl) fun K1 hK1=>?_
 simp[go_sem]
 refine hK1 _ ?_;clear hK1
 refine C3 ?_
 refine VI.Q ?_ ?_<;>intro h10
 ·refine De ?_
  refine C3 ?_
  refine Cy ?_
  obtain⟨e1,hx⟩:∃e,j.phs[k]? = some e:=⟨_,Aa (by omega)⟩
  refine Ca (by rfl) fun K1 hK1=>?_
  simp[go_sem,hx]
  repeat' with_reducible refine Ax ?_ ?_
  all_goals try (intros;(repeat' refine Ax ?_ ?_)<;>omega)
  refine hK1 _ ?_;clear hK1
  refine C3 (Dt ?_)
  refine U9.first 7 (by rfl) fun K1 hK1=>?_
  by_cases hr:e1.ring=r
  ·have hit:=Azk hx hr
   have hnx:=Amz (r:=r) hx
   rw[if_pos hr] at hnx
   simp[go_sem,hr]
   refine hK1 _ ?_;clear hK1
   refine U9.yield (vs:=[.li k]) (by simp[go_sem]) (by simp[go_sem]) (by decide) (by simp[go_sem]) (by simp[go_sem]) (by simp[go_sem]) (by simp[hit]) (by simp[go_sem]) rfl fun b=>?_
   refine U9.rest (by rfl) fun K1 hK1=>?_
   cases b with
   | true =>
    simp[go_sem]
    refine hK1 _ ?_;clear hK1
    refine C5 (by simp[go_sem]) (by simp[go_sem]) (fun h17=>?_) (fun h17=>?_)<;>simp[go_sem] at h17
    exact VI.ret ⟨.inr rfl,fun h=>by cases h⟩
   | false =>
    simp[go_sem]
    refine hK1 _ ?_;clear hK1
    refine C5 (by simp[go_sem]) (by simp[go_sem]) (fun h17=>?_) (fun h17=>?_)<;>simp[go_sem] at h17
    refine De ?_
    refine Cs (by rfl) fun K1 hK1=>?_
    simp[go_sem]
    refine hK1 _ ?_;clear hK1
    refine⟨by omega,hnx.symm,rfl,trivial,wQ [] ?_ ?_⟩
    ·simp[go_sem,Dw ((k:Int)+1)]
    simp[go_sem]
  have hnx:=Amz (r:=r) hx
  rw[if_neg hr,Nat.add_zero] at hnx
  have hrb:(e1.ring == r)=false:=by simpa using hr
  simp[go_sem,hrb]
  refine hK1 _ ?_;clear hK1
  refine U9.noyield (d:=21) rfl (by simp[go_sem]) (by simp[go_sem]) (by decide) ?_
  refine U9.rest (by rfl) fun K1 hK1=>?_
  simp[go_sem,hrb]
  refine hK1 _ ?_;clear hK1
  refine C5 (by simp[go_sem]) (by simp[go_sem]) (fun h17=>?_) (fun h17=>?_)<;>simp[go_sem] at h17
  refine De ?_
  refine Cs (by rfl) fun K1 hK1=>?_
  simp[go_sem]
  refine hK1 _ ?_;clear hK1
  refine⟨by omega,hnx.symm,rfl,trivial,wQ [] ?_ ?_⟩
  ·simp[go_sem,Dw ((k:Int)+1)]
  simp[go_sem]
 refine VI.exit ?_
 exact⟨.inl rfl,fun _=>by rw[Axo _ _ (by omega)];simp⟩
theorem Sr (j:Gc) (r:Int):PP 164 [] [.agg (Gc.a false j),.li r] [] (.fn 182 [.iptr false [.sl 8 (Ra j.phs),.sl 1 (tI j.con),.li j.start] 0,.iptr false [.li r] 0]):=by
 refine E4.boxes (σr:=[.box 88 (j.a false),.box 3 [.li r]]) (res:=.fn 182 [.ptr 0 0,.ptr 1 0]) ?_ (by simp[go_sem,St.o])
 refine El Tryz.func164 ?_
 iterate 2 refine Bw ?_
 exact .ret (rW Dy [0,1])
end
theorem Acs {l:List F9}:∀(n:Nat) (s x:Int),x∈Q8 l n s->Iu l x=true
 | 0,s,x,h=>by simp[Q8] at h
 | n+1,s,x,h=>by
  unfold Q8 at h
  split at h
  ·rename_i hu
   rcases List.mem_cons.1 h with rfl | h
   ·exact hu
   exact Acs n _ x h
  cases h
theorem Ao4 {l:List F9} {s x:Int} (h:x∈Vs l s):Iu l x=true:=Acs 8 s x h
theorem Of (j:Gc) (r:Int) (g:Int) (f:Int) (h:j.phs.length<=1000000):Ct 144 [j.g,.li r,.li g,.li f] (fun d:Int=>.li d) (fun d=>d = -1\/(0<=d/\d<j.phs.length)):=by
 refine Ev Tryz.func144 ?_
 refine Bq<|.seq ?_
 refine B8 Dy (Sr j r)<|.block ?_
 refine Cz (s':=⟨[(4,.ptr 0 0),(6,.ptr 1 0),(7,.ptr 2 0),(8,.ptr 3 0),(12,.fn 182 [.iptr false [.sl 8 (Ra j.phs),.sl 1 (tI j.con),.li j.start] 0,.iptr false [.li r] 0])],(fun (y1:Int)=>[.box 88 (j.a false),.box 3 [.li g],.box 3 [.li f],.box 3 [.li y1]]) (0)⟩) (wQ [0,1,2,3] ?_ ?_) ?_
 ·simp[go_sem]
 ·simp[go_sem]
 refine Dm (Wh j r h) (fun (y1:Int)=>[.box 88 (j.a false),.box 3 [.li g],.box 3 [.li f],.box 3 [.li y1]]) 4 (fun _=>rfl) (by rfl) (fun _=>Qm rfl) (by decide) (by rfl) ?_ (fun j1 y1=>True) (0) (trivial) (fun j1 vs y1 hj1 hy1=>?_) (fun y1 hy1=>?_)
 ·intro vs hvs
  obtain⟨a,_,rfl⟩:=A4.1 hvs
  simp[go_sem]
 ·
  obtain⟨a1,ha1,rfl⟩:=Ef hj1
  have hm:=Abs (Ac ha1)
  refine Db ?_
  obtain⟨e1,H1⟩:=gx j.phs a1.toNat
  refine C9 H1 ?_
  refine Br ?_ ?_<;>intro h26
  ·refine Bu H1 ?_
   refine Bz ⟨[.box 88 (j.a false),.box 3 [.li g],.box 3 [.li f],.box 3 [.li a1]],⟨[0,1,2,3],En (by decide) ?_ ?_,Fu rfl⟩,?_⟩
   ·simp[go_sem]
   ·simp[go_sem,H1]
   refine (Auz (by simp[go_sem]) ?_)
   simp[go_sem,H1]
   exact⟨a1,by rfl,(by first | exact .inl rfl | exact .inr hm)⟩
  refine Bp ?_
  refine⟨(y1),?_,⟨[0,1,2,3],En (by decide) ?_ ?_,Fu rfl⟩⟩
  ·trivial
  ·simp[go_sem]
  simp[go_sem,H1]
 -- done
 refine Bq ?_
 exact .ret (Eu Dy (-1) (by exact .inl rfl))
theorem Pc (j:Gc) (c:Nw) (r:Int) (h:j.phs.length<=1000000) (hl:c.lights.length=j.phs.length):Ct 226 [j.g,c.g,.li r] (fun d:Bool=>.lb d) (fun d=>True):=by
 refine Ev Tryz.func226 ?_
 refine Bq<|.seq ?_
 refine B8 Dy (Sr j r)<|.block ?_
 refine Cz (s':=⟨[(4,.ptr 0 0),(6,.ptr 1 0),(10,.fn 182 [.iptr false [.sl 8 (Ra j.phs),.sl 1 (tI j.con),.li j.start] 0,.iptr false [.li r] 0])],(fun (y1:Bool)=>[.box 133 (c.a false),.box 4 [.lb y1]]) (false)⟩) (wQ [1,2] ?_ ?_) ?_
 ·simp[go_sem]
 ·simp[go_sem]
 refine Dm (Wh j r h) (fun (y1:Bool)=>[.box 133 (c.a false),.box 4 [.lb y1]]) 2 (fun _=>rfl) (by rfl) (fun _=>Qm rfl) (by decide) (by rfl) ?_ (fun j1 y1=>True) (false) (trivial) (fun j1 vs y1 hj1 hy1=>?_) (fun y1 hy1=>?_)
 ·intro vs hvs
  obtain⟨a,_,rfl⟩:=A4.1 hvs
  simp[go_sem]
 ·
  obtain⟨a1,ha1,rfl⟩:=Ef hj1
  have hm:=Abs (Ac ha1)
  refine Db ?_
  obtain⟨e1,H1⟩:=gx c.lights a1.toNat
  refine Bu H1 ?_
  refine Br ?_ ?_<;>intro h18
  ·refine Bu H1 ?_
   refine Bz ⟨[.box 133 (c.a false),.box 4 [.lb false]],⟨[0,1],En (by decide) ?_ ?_,Fu rfl⟩,?_⟩
   ·simp[go_sem]
   ·simp[go_sem,H1]
   refine (Auz (by simp[go_sem]) ?_)
   simp[go_sem,H1]
   exact⟨false,by rfl,trivial⟩
  refine Bp ?_
  refine⟨(y1),?_,⟨[0,1],En (by decide) ?_ ?_,Fu rfl⟩⟩
  ·trivial
  ·simp[go_sem]
  simp[go_sem,H1]
 -- done
 refine Bq ?_
 exact .ret (Eu Dy true trivial)
theorem S8 (j:Gc) (c:Nw) (r:Int) (t:Int) (h:j.phs.length<=1000000) (hn:c.nxt.length=2) (hr:0<=r/\r<2) (hc:j.con.length<=1000000):Ct 227 [j.g,c.g,.li r,.li t] (fun d:Int=>.li d) (fun d=>d = -1\/(0<=d/\d<j.phs.length)):=by
 refine Ev Tryz.func227 ?_
 refine Bq ?_
 refine Bq<|.seq ?_
 refine B8 Dy (Sr j r)<|.block ?_
 refine Cz (s':=⟨[(4,.ptr 0 0),(5,.ptr 1 0),(6,.ptr 2 0),(7,.ptr 3 0),(8,.ptr 4 0),(9,.ptr 5 0),(13,.fn 182 [.iptr false [.sl 8 (Ra j.phs),.sl 1 (tI j.con),.li j.start] 0,.iptr false [.li r] 0])],(fun (y1:Int×Int)=>[.box 88 (j.a false),.box 133 (c.a false),.box 3 [.li r],.box 3 [.li t],.box 3 [.li y1.1],.box 3 [.li y1.2]]) (0,(-1))⟩) (wQ [0,1,2,3,4,5] ?_ ?_) ?_
 ·simp[go_sem]
 ·simp[go_sem]
 refine Dm (Wh j r h) (fun (y1:Int×Int)=>[.box 88 (j.a false),.box 133 (c.a false),.box 3 [.li r],.box 3 [.li t],.box 3 [.li y1.1],.box 3 [.li y1.2]]) 6 (fun _=>rfl) (by rfl) (fun _=>Qm rfl) (by decide) (by rfl) ?_ (fun j1 y1=>y1.2 = -1\/(0<=y1.2/\y1.2<j.phs.length)) (0,(-1)) (.inl rfl) (fun j1 vs y1 hj1 hy1=>?_) (fun y1 hy1=>?_)
 ·intro vs hvs
  obtain⟨a,_,rfl⟩:=A4.1 hvs
  simp[go_sem]
 ·
  obtain⟨a1,ha1,rfl⟩:=Ef hj1
  have hm:=Abs (Ac ha1)
  refine Db<|.seq<|.L Dy (Ik j.con a1 t (by assumption)) ?_
  refine Br ?_ ?_<;>intro h19
  ·refine Bt ?_
   refine⟨(y1.1,y1.2),?_,⟨[0,1,2,3,4,5],En (by decide) ?_ ?_,Fu rfl⟩⟩
   ·exact hy1
   all_goals simp[go_sem]
  refine Bp<|.seq ?_
  obtain⟨e1,H1⟩:=gx c.nxt r.toNat
  refine Bu H1 ?_
  refine Br ?_ ?_<;>intro h34
  ·refine Bu H1 ?_
   refine Bz ⟨[.box 88 (j.a false),.box 133 (c.a false),.box 3 [.li r],.box 3 [.li t],.box 3 [.li a1],.box 3 [.li y1.2]],⟨[0,1,2,3,4,5],En (by decide) ?_ ?_,Fu rfl⟩,?_⟩
   ·simp[go_sem]
   ·simp[go_sem,H1]
   refine (Auz (by simp[go_sem]) ?_)
   simp[go_sem,H1]
   exact⟨a1,by rfl,(by first | exact .inl rfl | exact .inr hm)⟩
  refine Bp<|.H H1 ?_
  refine Br ?_ ?_<;>intro h37
  ·refine B0 H1 ?_
   refine⟨(y1.1,a1),?_,⟨[0,1,2,3,4,5],En (by decide) ?_ ?_,Fu rfl⟩⟩
   ·first | exact hy1 | exact .inr hm
   ·simp[go_sem]
   simp[go_sem,H1]
  refine Bp ?_
  refine⟨(y1.1,y1.2),?_,⟨[0,1,2,3,4,5],En (by decide) ?_ ?_,Fu rfl⟩⟩
  ·exact hy1
  ·simp[go_sem]
  simp[go_sem,H1]
 -- done
 refine Bq ?_
 exact .ret (Eu Dy y1.2 (by first | exact .inl rfl | exact .inr hm | exact hy1))
section
variable (l:List F9) (n:Int) (hl:l.length<=1000000) (ht:∀t∈l,t.sec.length<=1000000)
include n hl ht
theorem Qu:Ct 166 [.mTok l,.li n] (fun d:List F9=>.mTok d) (fun d=>d.length=l.length/\∀t∈d,t.sec.length<=1000000):=by
 refine Ev Tryz.func166 ?_
 refine Bq ?_
 refine B8 Dy (L5 l hl ht)<|.seq ?_
 refine Bq<|.block ?_
 refine Bs l.length (fun i1 (y1:(List F9))=>⟨[(2,.ptr 0 0),(3,.ptr 1 0),(5,.ptr 3 0),(11,.li l.length),(12,.li i1)],[.box 61 [.mTok l],.box 3 [.li n],.row 73 6 false false (Pe y1),.box 61 [.own 2 y1.length]]⟩) (fun i1 y1=>y1.length=l.length/\∀t∈y1,t.sec.length<=1000000) (l) (wk Dy [0,1,2,3]) (⟨rfl,ht⟩) fun i1 y1 hi1 hy1=>?_
 refine Bq<|.seq ?_
 refine Br ?_ ?_<;>intro h13
 ·refine Bp<|.seq<|.block<|.R ?_
  refine B8 Dy (Rx l i1)<|.block ?_
  refine Cz (s':=⟨[(2,.ptr 0 0),(3,.ptr 1 0),(5,.ptr 3 0),(6,.ptr 4 0),(11,.li l.length),(12,.li i1),(17,.fn 206 [.iptr false [.li i1] 0,.iptr false [.sl 6 (Pe l)] 0])],(fun (y2:(List F9))=>[.box 61 [.mTok l],.box 3 [.li n],.row 73 6 false false (Pe y2),.box 61 [.own 2 y2.length],.box 3 [.li i1]]) (y1)⟩) (wQ [0,1,2,3,4] ?_ ?_) ?_
  ·simp[go_sem]
  ·simp[go_sem]
  refine Dm (Wi l i1) (fun (y2:(List F9))=>[.box 61 [.mTok l],.box 3 [.li n],.row 73 6 false false (Pe y2),.box 61 [.own 2 y2.length],.box 3 [.li i1]]) 5 (fun _=>rfl) (by rfl) (fun _=>Qm rfl) (by decide) (by rfl) ?_ (fun j2 y2=>y2.length=l.length/\∀t∈y2,t.sec.length<=1000000) (y1) (hy1) (fun j2 vs y2 hj2 hy2=>?_) (fun y2 hy2=>?_)
  ·intro vs hvs
   obtain⟨a,_,rfl⟩:=A4.1 hvs
   simp[go_sem]
  ·
   obtain⟨a2,ha2,rfl⟩:=Ef hj2
   obtain⟨hp0,tp,hp1,hp2⟩:=Q7 (Ao4 (Ac ha2))
   have hp3:=(Ab.1 hp1).1
   refine Db ?_
   obtain⟨e1,H1⟩:=gx l a2.toNat
   refine Dd H1 (Vj e1 n) ?_
   refine Br ?_ ?_<;>intro h24
   ·obtain⟨e2,H2⟩:=gx y2 i1
    refine Dd (Fe H1 H2) (Ul) ?_
    refine Bt ⟨[.box 61 [.mTok l],.box 3 [.li n],.row 73 6 false false (Pe ((y2).set i1 Us)),.box 61 [.own 2 y2.length],.box 3 [.li i1]],⟨[0,1,2,3,4],En (by decide) ?_ ?_,Fu rfl⟩,?_⟩
    ·simp[go_sem]
    ·simp[go_sem,H1,H2]
    refine B0 (Fe H1 H2) ?_
    refine⟨by omega,((y2).set i1 Us),?_,wk (I1 (Dw ((i1:Int)+1)) H1 H2) [0,1,2,3]⟩
    first | exact hy2 | exact⟨(List.length_set ..).trans hy2.1,Aem hy2.2 (by simp[Us])⟩
   refine Bp ?_
   refine⟨(y2),?_,⟨[0,1,2,3,4],En (by decide) ?_ ?_,Fu rfl⟩⟩
   ·exact hy2
   ·simp[go_sem]
   simp[go_sem,H1]
  -- done
  refine Ch ?_
  refine⟨by omega,(y2),?_,wk (Dw ((i1:Int)+1)) [0,1,2,3]⟩
  exact hy2
 refine Bt<|.R ?_
 refine B2 Dy 2 ?_
 exact .ret (Eu Dy y1 hy1)
def Js:List F9:=(Eo (Qu l n hl ht)).choose
theorem Ae7:PP 166 [] [.mTok l,.li n] [] (.mTok (Js l n hl ht)):=(Eo (Qu l n hl ht)).choose_spec.1
theorem Afy:(Js l n hl ht).length=l.length/\∀t∈(Js l n hl ht),t.sec.length<=1000000:=(Eo (Qu l n hl ht)).choose_spec.2
end
structure N5 (j:Gc):Prop where
  len:j.phs.length<=1000000
  pos:1<=j.phs.length
  con:j.con.length<=1000000
  ring:∀p∈j.phs,0<=p.ring/\p.ring<2
  grp:∀p∈j.phs,0<=p.grp/\p.grp<=3
structure S3 (j:Gc) (l:List Int):Prop where
  len:l.length=2
  ok:∀x∈l,x = -1\/(0<=x/\x<j.phs.length)
theorem S3.set {j:Gc} {l:List Int} (h:S3 j l) (i:Nat) {x:Int} (hx:x = -1\/(0<=x/\x<j.phs.length)):S3 j (l.set i x):=⟨by rw[List.length_set];exact h.len,fun y hy=>by
 rcases Bi hy with h1 | h1
 ·exact h.ok y h1
 subst h1;exact hx⟩
theorem Qx (j:Gc) (c:Nw) (g:Int) (hj:N5 j):Cx 113 [.box 133 [.own 1 c.lights.length,.li c.grp,.own 2 c.nxt.length,.li c.wt],.row 185 2 false false (Ir c.lights),.row 3 1 false false (tI c.nxt)] [j.g,.ptr 0 0,.li g] (fun d:Nw×(List Int)=>[.box 133 [.own 1 d.1.lights.length,.li d.1.grp,.own 3 d.1.nxt.length,.li d.1.wt],.row 185 2 false false (Ir d.1.lights),.row 3 1 false false (tI d.2),.row 3 1 false false (tI d.1.nxt)]) (fun d=>.tup []) (fun d=>d.1.lights=c.lights/\d.1.grp=g/\d.1.wt=c.wt/\S3 j d.1.nxt):=by
 refine T0 Tryz.func113 ?_
 iterate 2 refine Bq ?_
 refine Bu Dy ?_
 refine Bq<|.block ?_
 refine Bs 2 (fun i1 (y1:(List Fz)×(List Int)×(List Int))=>⟨[(1,.ptr 0 0),(2,.li g),(3,.ptr 3 0),(19,.li 2),(20,.li i1)],[.box 133 [.own 1 y1.1.length,.li g,.own 4 y1.2.2.length,.li c.wt],.row 185 2 false false (Ir y1.1),.row 3 1 false false (tI y1.2.1),.box 88 (j.a false),.row 3 1 false false (tI y1.2.2)]⟩) (fun i1 y1=>y1.1=c.lights/\S3 j y1.2.2) (c.lights,c.nxt,List.replicate 2 0) (wk Dy [0,1,2,3,4]) (⟨rfl,by simp,fun x hx=>by have:=hj.pos;simp at hx;omega⟩) fun i1 y1 hi1 hy1=>?_
 refine Bq<|.seq ?_
 refine Br ?_ ?_<;>intro h21
 ·refine Bp<|.seq<|.block<|.R ?_
  have hl2:=hy1.2.len
  obtain⟨e1,H1⟩:=gx y1.2.2 i1
  obtain⟨Y1,cY1,qY1⟩:=Eo (Of j i1 g 0 hj.len)
  refine Cp H1 cY1 ?_
  refine B0 H1 ?_
  refine⟨by omega,(y1.1,y1.2.1,(y1.2.2).set i1 Y1),?_,[0,1,2,3,4],En (by decide) ?_ ?_,Fu rfl⟩
  ·exact⟨hy1.1,hy1.2.set _ qY1⟩
  all_goals simp[go_sem,Dw ((i1:Int)+1),H1,hy1.2.len]
 refine Bt ?_
 refine⟨(⟨y1.1,g,y1.2.2,c.wt⟩,y1.2.1),Akj [0,1,2,4] (by simp[go_sem]) (by decide) (Fu rfl) (by simp[go_sem]) ?_,⟨hy1.1,rfl,rfl,hy1.2⟩⟩
 repeat' (first | exact .nil | refine .cons (by simp[go_sem]) ?_)
theorem I3 (j:Gc) (c:Nw) (p:Int) (hj:N5 j) (hl:c.lights.length=j.phs.length) (hn:S3 j c.nxt) (h0:0<=p) (h1:p<j.phs.length):Cx 228 [.box 133 [.own 1 c.lights.length,.li c.grp,.own 2 c.nxt.length,.li c.wt],.row 185 2 false false (Ir c.lights),.row 3 1 false false (tI c.nxt)] [j.g,.ptr 0 0,.li p] (fun d:Nw×Bool×(List Int)=>(bif d.2.1 then [.box 133 [.own 1 d.1.lights.length,.li d.1.grp,.own 3 d.1.nxt.length,.li d.1.wt],.row 185 2 false false (Ir d.1.lights),.row 3 1 false false (tI d.2.2),.row 3 1 false false (tI d.1.nxt)] else [.box 133 [.own 1 d.1.lights.length,.li d.1.grp,.own 2 d.1.nxt.length,.li d.1.wt],.row 185 2 false false (Ir d.1.lights),.row 3 1 false false (tI d.1.nxt)])) (fun d=>.tup []) (fun d=>d.1.lights.length=c.lights.length/\d.1.wt=c.wt/\S3 j d.1.nxt):=by
 refine T0 Tryz.func228 ?_
 have hjl:=hj.len
 have hjc:=hj.con
 have hnl:=hn.len
 refine Bq<|.seq ?_
 refine Bq<|.block ?_
 refine Bs c.lights.length (fun i1 (y1:Unit)=>⟨[(1,.ptr 0 0),(2,.li p),(3,.ptr 3 0),(12,.own 1 c.lights.length),(13,.li c.lights.length),(14,.li i1)],[.box 133 [.own 1 c.lights.length,.li c.grp,.own 2 c.nxt.length,.li c.wt],.row 185 2 false false (Ir c.lights),.row 3 1 false false (tI c.nxt),.box 88 (j.a false)]⟩) (fun i1 y1=>True) () (wk Dy [0,1,2,3]) (trivial) fun i1 y1 hi1 hy1=>?_
 refine Bq<|.seq ?_
 refine Br ?_ ?_<;>intro h15
 ·refine Bp<|.seq<|.block ?_
  obtain⟨e1,H1⟩:=gx c.lights i1
  refine Bu H1 ?_
  refine B4 (by rfl) fun K1 hK1=>?_
  simp[go_sem,H1]
  refine Qc ?_
  simp[go_sem,H1]
  refine .lo (Ik j.con p i1 (by assumption)) rfl (by simp[AV.cln,Ff]) ?_
  simp[go_sem,H1]
  refine hK1 _ ?_;clear hK1
  refine Br ?_ ?_<;>intro h28
  ·exact .ret ⟨(⟨c.lights,c.grp,c.nxt,c.wt⟩,false,[]),rW H1 [0,1,2],⟨rfl,rfl,hn⟩⟩
  refine Bp<|.H1 H1 ?_
  exact⟨by omega,(),trivial,wk (Fe (Dw ((i1:Int)+1)) H1) [0,1,2,3]⟩
 refine Bt ?_
 obtain⟨e2,H2⟩:=gx j.phs p.toNat
 refine Bu H2 ?_
 have hrg:=hj.ring e2 (Ac H2)
 obtain⟨e3,H3⟩:=gx c.lights p.toNat
 refine Bu (Fe H2 H3)<|.seq ?_
 refine C9 (Fe H2 H3) ?_
 refine Br ?_ ?_<;>intro h48
 ·obtain⟨N,hN,hqN⟩:=Qx j ⟨(c.lights).set p.toNat ⟨1,0⟩,c.grp,c.nxt,c.wt⟩ e2.grp hj
  refine C6 (Fe H2 H3) [0,1,2] hN ?_
  (try have hnl2:=hqN.2.2.2.len)
  have hw4:=Dw (p+1:Int)
  obtain⟨e5,H5⟩:=gx N.1.nxt e2.ring.toNat
  obtain⟨Y1,cY1,qY1⟩:=Eo (Of j e2.ring e2.grp (p+1) hj.len)
  refine Cp (O4 H2 H3 hw4 H5) cY1 ?_
  refine⟨(⟨N.1.lights,N.1.grp,(N.1.nxt).set e2.ring.toNat Y1,N.1.wt⟩,true,N.2),Akj [0,1,2,5] (by simp[go_sem]) (by decide) (Fu rfl) (by simp[go_sem,H2,H3,hw4,H5]) ?_,⟨by dsimp only;rw[hqN.1];simp,hqN.2.2.1,hqN.2.2.2.set _ qY1⟩⟩
  repeat' (first | exact .nil | refine .cons (by simp[go_sem,H2,H3,hw4,H5]) ?_)
 refine Bp ?_
 (try have hnl2:=hqN.2.2.2.len)
 have hw6:=Dw (p+1:Int)
 obtain⟨e7,H7⟩:=gx c.nxt e2.ring.toNat
 obtain⟨Y2,cY2,qY2⟩:=Eo (Of j e2.ring e2.grp (p+1) hj.len)
 refine Cp (O4 H2 H3 hw6 H7) cY2 ?_
 refine⟨(⟨(c.lights).set p.toNat ⟨1,0⟩,c.grp,(c.nxt).set e2.ring.toNat Y2,c.wt⟩,false,[]),Akj [0,1,2] (by simp[go_sem]) (by decide) (Fu rfl) (by simp[go_sem,H2,H3,hw6,H7]) ?_,⟨by simp,rfl,hn.set _ qY2⟩⟩
 repeat' (first | exact .nil | refine .cons (by simp[go_sem,H2,H3,hw6,H7]) ?_)
theorem Aez (j:Gc) (c:Nw) (t:Int) (hj:N5 j) (hl:c.lights.length=j.phs.length) (hn:S3 j c.nxt) (h0:0<=t) (h1:t<j.phs.length):Cx 203 [.box 133 [.own 1 c.lights.length,.li c.grp,.own 2 c.nxt.length,.li c.wt],.row 185 2 false false (Ir c.lights),.row 3 1 false false (tI c.nxt)] [j.g,.ptr 0 0,.li t] (fun d:Nw×Bool×(List Int)=>(bif d.2.1 then [.box 133 [.own 1 d.1.lights.length,.li d.1.grp,.own 3 d.1.nxt.length,.li d.1.wt],.row 185 2 false false (Ir d.1.lights),.row 3 1 false false (tI d.2.2),.row 3 1 false false (tI d.1.nxt)] else [.box 133 [.own 1 d.1.lights.length,.li d.1.grp,.own 2 d.1.nxt.length,.li d.1.wt],.row 185 2 false false (Ir d.1.lights),.row 3 1 false false (tI d.1.nxt)])) (fun d=>.tup []) (fun d=>d.1.lights.length=c.lights.length/\d.1.wt=c.wt/\S3 j d.1.nxt):=by
 refine T0 Tryz.func203 ?_
 have hjl:=hj.len
 have hjc:=hj.con
 have hnl:=hn.len
 refine Bq ?_
 refine Bq<|.block ?_
 refine Bs 2 (fun i1 (y1:Int×Int×(List Fz)×(List Int)×Bool×(List Int))=>⟨[(1,.ptr 0 0),(2,.li t),(3,.ptr 3 0),(8,.li i1)],bif y1.2.2.2.2.1 then [.box 133 [.own 1 y1.2.2.1.length,.li y1.1,.own 4 y1.2.2.2.1.length,.li y1.2.1],.row 185 2 false false (Ir y1.2.2.1),.row 3 1 false false (tI y1.2.2.2.2.2),.box 88 (j.a false),.row 3 1 false false (tI y1.2.2.2.1)] else [.box 133 [.own 1 y1.2.2.1.length,.li y1.1,.own 2 y1.2.2.2.1.length,.li y1.2.1],.row 185 2 false false (Ir y1.2.2.1),.row 3 1 false false (tI y1.2.2.2.1),.box 88 (j.a false)]⟩) (fun i1 y1=>y1.2.2.1.length=j.phs.length/\y1.2.1=c.wt/\S3 j y1.2.2.2.1) (c.grp,c.wt,c.lights,c.nxt,false,[]) (wk Dy [0,1,2,3]) (⟨hl,rfl,hn⟩) fun i1 y1 hi1 hy1=>?_
 cases hb1:y1.2.2.2.2.1
 ·
  simp only[hb1,cond_false]
  refine Bq<|.seq ?_
  refine Br ?_ ?_<;>intro h9
  ·refine Bp<|.seq<|.block<|.R<|.seq ?_
   have hnl1:=hy1.2.2.len
   have hll1:=hy1.1
   obtain⟨Y1,cY1,qY1⟩:=Eo (Pc j ⟨y1.2.2.1,y1.1,y1.2.2.2.1,y1.2.1⟩ i1 (by assumption) (by assumption))
   refine Dd Dy cY1 ?_
   refine Br ?_ ?_<;>intro h17
   ·refine Bt<|.R1 ?_
    refine⟨by omega,(y1.1,y1.2.1,y1.2.2.1,y1.2.2.2.1,false,[]),?_,wk (Dw ((i1:Int)+1)) [0,1,2,3]⟩
    exact hy1
   refine Bp<|.R<|.seq ?_
   obtain⟨e1,H1⟩:=gx j.phs t.toNat
   refine Bu H1 ?_
   refine Br ?_ ?_<;>intro h26
   ·have hri:0<=(i1:Int)/\(i1:Int)<2:=by omega
    obtain⟨Y2,cY2,qY2⟩:=Eo (S8 j ⟨y1.2.2.1,y1.1,y1.2.2.2.1,y1.2.1⟩ i1 t hj.len hnl1 hri hj.con)
    have hvc:=cY2
    have hqc:=qY2
    generalize Y2=Q at hvc hqc
    refine Cp H1 (hvc) ?_
    refine Bu H1 ?_
    refine Br ?_ ?_<;>intro h35
    ·have hp:0<=Q/\Q<j.phs.length:=by first | exact⟨h0,h1⟩ | (rcases hqc with hqc | hqc;exact absurd hqc h35;exact hqc)
     obtain⟨⟨N,b,o⟩,hN,hqN⟩:=I3 j ⟨y1.2.2.1,y1.1,y1.2.2.2.1,y1.2.1⟩ Q hj (by exact hy1.1) (by exact hy1.2.2) hp.1 hp.2
     by_cases hc9:b=true
     ·subst hc9
      simp only[cond_true] at hN hqN
      refine C6 H1 [0,1,2] hN ?_
      refine B0 H1 ?_
      refine⟨by omega,(N.grp,N.wt,N.lights,N.nxt,true,o),?_,wk (Fe (Dw ((i1:Int)+1)) H1) [0,1,2,3,4]⟩
      first | exact hy1 | exact⟨by dsimp only;rw[hqN.1];exact hy1.1,hqN.2.1.trans hy1.2.1,hqN.2.2⟩
     have hc9:b=false:=by simpa using hc9
     subst hc9
     simp only[cond_false] at hN hqN
     refine C6 H1 [0,1,2] hN ?_
     refine B0 H1 ?_
     refine⟨by omega,(N.grp,N.wt,N.lights,N.nxt,false,[]),?_,wk (Fe (Dw ((i1:Int)+1)) H1) [0,1,2,3]⟩
     first | exact hy1 | exact⟨by dsimp only;rw[hqN.1];exact hy1.1,hqN.2.1.trans hy1.2.1,hqN.2.2⟩
    refine Bp<|.H1 H1 ?_
    refine⟨by omega,(y1.1,y1.2.1,y1.2.2.1,y1.2.2.2.1,false,[]),?_,wk (Fe (Dw ((i1:Int)+1)) H1) [0,1,2,3]⟩
    exact hy1
   refine Bp<|.H H1 ?_
   refine Br ?_ ?_<;>intro h35
   ·have hp:0<=t/\t<j.phs.length:=by exact⟨h0,h1⟩
    obtain⟨⟨N,b,o⟩,hN,hqN⟩:=I3 j ⟨y1.2.2.1,y1.1,y1.2.2.2.1,y1.2.1⟩ t hj (by exact hy1.1) (by exact hy1.2.2) hp.1 hp.2
    by_cases hc9:b=true
    ·subst hc9
     simp only[cond_true] at hN hqN
     refine C6 H1 [0,1,2] hN ?_
     refine B0 H1 ?_
     refine⟨by omega,(N.grp,N.wt,N.lights,N.nxt,true,o),?_,wk (Fe (Dw ((i1:Int)+1)) H1) [0,1,2,3,4]⟩
     first | exact hy1 | exact⟨by dsimp only;rw[hqN.1];exact hy1.1,hqN.2.1.trans hy1.2.1,hqN.2.2⟩
    have hc9:b=false:=by simpa using hc9
    subst hc9
    simp only[cond_false] at hN hqN
    refine C6 H1 [0,1,2] hN ?_
    refine B0 H1 ?_
    refine⟨by omega,(N.grp,N.wt,N.lights,N.nxt,false,[]),?_,wk (Fe (Dw ((i1:Int)+1)) H1) [0,1,2,3]⟩
    first | exact hy1 | exact⟨by dsimp only;rw[hqN.1];exact hy1.1,hqN.2.1.trans hy1.2.1,hqN.2.2⟩
   refine Bp<|.H1 H1 ?_
   refine⟨by omega,(y1.1,y1.2.1,y1.2.2.1,y1.2.2.2.1,false,[]),?_,wk (Fe (Dw ((i1:Int)+1)) H1) [0,1,2,3]⟩
   exact hy1
  refine Bt ?_
  refine⟨(⟨y1.2.2.1,y1.1,y1.2.2.2.1,y1.2.1⟩,false,[]),Akj [0,1,2] (by simp[go_sem]) (by decide) (Fu rfl) (by simp[go_sem]) ?_,⟨hy1.1.trans hl.symm,hy1.2⟩⟩
  repeat' (first | exact .nil | refine .cons (by simp[go_sem]) ?_)
 -- the row is a new one
 simp only[hb1,cond_true]
 refine Bq<|.seq ?_
 refine Br ?_ ?_<;>intro h9
 ·refine Bp<|.seq<|.block<|.R<|.seq ?_
  have hnl1:=hy1.2.2.len
  have hll1:=hy1.1
  obtain⟨Y3,cY3,qY3⟩:=Eo (Pc j ⟨y1.2.2.1,y1.1,y1.2.2.2.1,y1.2.1⟩ i1 (by assumption) (by assumption))
  refine Dd Dy cY3 ?_
  refine Br ?_ ?_<;>intro h17
  ·refine Bt<|.R1 ?_
   refine⟨by omega,(y1.1,y1.2.1,y1.2.2.1,y1.2.2.2.1,true,y1.2.2.2.2.2),?_,wk (Dw ((i1:Int)+1)) [0,1,2,3,4]⟩
   exact hy1
  refine Bp<|.R<|.seq ?_
  obtain⟨e2,H2⟩:=gx j.phs t.toNat
  refine Bu H2 ?_
  refine Br ?_ ?_<;>intro h26
  ·have hri:0<=(i1:Int)/\(i1:Int)<2:=by omega
   obtain⟨Y4,cY4,qY4⟩:=Eo (S8 j ⟨y1.2.2.1,y1.1,y1.2.2.2.1,y1.2.1⟩ i1 t hj.len hnl1 hri hj.con)
   have hvc:=cY4
   have hqc:=qY4
   generalize Y4=Q at hvc hqc
   refine Cp H2 (hvc) ?_
   refine Bu H2 ?_
   refine Br ?_ ?_<;>intro h35
   ·have hp:0<=Q/\Q<j.phs.length:=by first | exact⟨h0,h1⟩ | (rcases hqc with hqc | hqc;exact absurd hqc h35;exact hqc)
    obtain⟨⟨N,b,o⟩,hN,hqN⟩:=I3 j ⟨y1.2.2.1,y1.1,y1.2.2.2.1,y1.2.1⟩ Q hj (by exact hy1.1) (by exact hy1.2.2) hp.1 hp.2
    by_cases hc9:b=true
    ·subst hc9
     simp only[cond_true] at hN hqN
     refine C6 H2 [0,1,4] hN ?_
     refine B0 H2 ?_
     refine⟨by omega,(N.grp,N.wt,N.lights,N.nxt,true,y1.2.2.2.2.2),?_,wk (Fe (Dw ((i1:Int)+1)) H2) [0,1,2,3,5]⟩
     first | exact hy1 | exact⟨by dsimp only;rw[hqN.1];exact hy1.1,hqN.2.1.trans hy1.2.1,hqN.2.2⟩
    have hc9:b=false:=by simpa using hc9
    subst hc9
    simp only[cond_false] at hN hqN
    refine C6 H2 [0,1,4] hN ?_
    refine B0 H2 ?_
    refine⟨by omega,(N.grp,N.wt,N.lights,N.nxt,true,y1.2.2.2.2.2),?_,wk (Fe (Dw ((i1:Int)+1)) H2) [0,1,2,3,4]⟩
    first | exact hy1 | exact⟨by dsimp only;rw[hqN.1];exact hy1.1,hqN.2.1.trans hy1.2.1,hqN.2.2⟩
   refine Bp<|.H1 H2 ?_
   refine⟨by omega,(y1.1,y1.2.1,y1.2.2.1,y1.2.2.2.1,true,y1.2.2.2.2.2),?_,wk (Fe (Dw ((i1:Int)+1)) H2) [0,1,2,3,4]⟩
   exact hy1
  refine Bp<|.H H2 ?_
  refine Br ?_ ?_<;>intro h35
  ·have hp:0<=t/\t<j.phs.length:=by exact⟨h0,h1⟩
   obtain⟨⟨N,b,o⟩,hN,hqN⟩:=I3 j ⟨y1.2.2.1,y1.1,y1.2.2.2.1,y1.2.1⟩ t hj (by exact hy1.1) (by exact hy1.2.2) hp.1 hp.2
   by_cases hc9:b=true
   ·subst hc9
    simp only[cond_true] at hN hqN
    refine C6 H2 [0,1,4] hN ?_
    refine B0 H2 ?_
    refine⟨by omega,(N.grp,N.wt,N.lights,N.nxt,true,y1.2.2.2.2.2),?_,wk (Fe (Dw ((i1:Int)+1)) H2) [0,1,2,3,5]⟩
    first | exact hy1 | exact⟨by dsimp only;rw[hqN.1];exact hy1.1,hqN.2.1.trans hy1.2.1,hqN.2.2⟩
   have hc9:b=false:=by simpa using hc9
   subst hc9
   simp only[cond_false] at hN hqN
   refine C6 H2 [0,1,4] hN ?_
   refine B0 H2 ?_
   refine⟨by omega,(N.grp,N.wt,N.lights,N.nxt,true,y1.2.2.2.2.2),?_,wk (Fe (Dw ((i1:Int)+1)) H2) [0,1,2,3,4]⟩
   first | exact hy1 | exact⟨by dsimp only;rw[hqN.1];exact hy1.1,hqN.2.1.trans hy1.2.1,hqN.2.2⟩
  refine Bp<|.H1 H2 ?_
  refine⟨by omega,(y1.1,y1.2.1,y1.2.2.1,y1.2.2.2.1,true,y1.2.2.2.2.2),?_,wk (Fe (Dw ((i1:Int)+1)) H2) [0,1,2,3,4]⟩
  exact hy1
 refine Bt ?_
 refine⟨(⟨y1.2.2.1,y1.1,y1.2.2.2.1,y1.2.1⟩,true,y1.2.2.2.2.2),Akj [0,1,2,4] (by simp[go_sem]) (by decide) (Fu rfl) (by simp[go_sem]) ?_,⟨hy1.1.trans hl.symm,hy1.2⟩⟩
 repeat' (first | exact .nil | refine .cons (by simp[go_sem]) ?_)
theorem V4 (j:Gc) (hj:N5 j):Ct 222 [j.g] (fun d:Int=>.li d) (fun d=>1<=d/\d<=4):=by
 refine Ev Tryz.func222 ?_
 have hjl:=hj.len
 refine Bq ?_
 refine Bq<|.seq ?_
 refine Bq<|.block ?_
 refine Bs j.phs.length (fun i1 (y1:Int)=>⟨[(3,.li y1),(7,.mPhase j.phs),(8,.li j.phs.length),(9,.li i1)],[]⟩) (fun i1 y1=>0<=y1/\y1<=4/\(0<i1->1<=y1)) (0) (wk Dy []) (⟨by omega,by omega,fun h=>by omega⟩) fun i1 y1 hi1 hy1=>?_
 refine Bq<|.seq ?_
 refine Br ?_ ?_<;>intro h10
 ·refine Bp<|.seq<|.block ?_
  obtain⟨e1,H1⟩:=gx j.phs i1
  refine Bu H1 ?_
  have hg:=hj.grp e1 (Ac H1)
  have hw2:=Dw (e1.grp+1:Int)
  refine B0 (Fe H1 hw2) ?_
  refine B0 (Fe H1 hw2) ?_
  refine⟨by omega,((if y1<(e1.grp+1) then (e1.grp+1) else y1)),?_,wk (I1 (Dw ((i1:Int)+1)) H1 hw2) []⟩
  (split<;>omega)
 refine Bt<|.R ?_
 exact .ret (Eu Dy y1 (by have:=hj.pos;omega))
theorem Ae0 (j:Gc) (c:Nw) (hj:N5 j) (hl:c.lights.length=j.phs.length) (hn:S3 j c.nxt):Cx 204 [.box 133 [.own 1 c.lights.length,.li c.grp,.own 2 c.nxt.length,.li c.wt],.row 185 2 false false (Ir c.lights),.row 3 1 false false (tI c.nxt)] [j.g,.ptr 0 0] (fun d:Nw×Bool×(List Int)=>(bif d.2.1 then [.box 133 [.own 1 d.1.lights.length,.li d.1.grp,.own 3 d.1.nxt.length,.li d.1.wt],.row 185 2 false false (Ir d.1.lights),.row 3 1 false false (tI d.2.2),.row 3 1 false false (tI d.1.nxt)] else [.box 133 [.own 1 d.1.lights.length,.li d.1.grp,.own 2 d.1.nxt.length,.li d.1.wt],.row 185 2 false false (Ir d.1.lights),.row 3 1 false false (tI d.1.nxt)])) (fun d=>.tup []) (fun d=>d.1.lights.length=c.lights.length/\d.1.wt=c.wt/\S3 j d.1.nxt):=by
 refine T0 Tryz.func204 ?_
 have hjl:=hj.len
 have hjc:=hj.con
 have hnl:=hn.len
 have hll:c.lights.length<=1000000:=by omega
 refine Bq ?_
 obtain⟨Y1,cY1,qY1⟩:=Eo (X8 c hll)
 refine B8 Dy cY1<|.seq ?_
 refine Bq<|.block ?_
 refine Bs c.nxt.length (fun i1 (y1:Bool)=>⟨[(1,.ptr 0 0),(2,.ptr 3 0),(4,.lb y1),(15,.own 2 c.nxt.length),(16,.li c.nxt.length),(17,.li i1)],[.box 133 [.own 1 c.lights.length,.li c.grp,.own 2 c.nxt.length,.li c.wt],.row 185 2 false false (Ir c.lights),.row 3 1 false false (tI c.nxt),.box 88 (j.a false)]⟩) (fun i1 y1=>True) (Y1) (wk Dy [0,1,2,3]) (trivial) fun i1 y1 hi1 hy1=>?_
 refine Bq<|.seq ?_
 refine Br ?_ ?_<;>intro h18
 ·refine Bp<|.seq<|.block ?_
  obtain⟨e1,H1⟩:=gx c.nxt i1
  refine Bu H1 ?_
  refine Bu H1 ?_
  refine Br ?_ ?_<;>intro h22
  ·refine B0 H1 ?_
   refine B0 H1 ?_
   exact⟨by omega,(false),trivial,wk (Fe (Dw ((i1:Int)+1)) H1) [0,1,2,3]⟩
  refine Bp<|.H1 H1 ?_
  exact⟨by omega,(y1),trivial,wk (Fe (Dw ((i1:Int)+1)) H1) [0,1,2,3]⟩
 refine Bt<|.seq<|.R ?_
 refine Br ?_ ?_<;>intro h24
 ·obtain⟨Y2,cY2,qY2⟩:=Eo (V4 j hj)
  have hvg:=cY2
  have hqg:=qY2
  generalize Y2=G at hvg hqg
  obtain⟨E,hE,hqE⟩:=Qx j ⟨c.lights,c.grp,c.nxt,c.wt⟩ (Int.tmod (IntKind.i64.wrap (c.grp+1)) G) hj
  refine Dg (fun K kk=>by simp[go_sem];refine .l (hvg) ?_;simp[go_sem];(repeat refine aK ?_);refine .o [0,1,2] (hE) ?_;simp[go_sem];exact kk) ?_
  refine Bq<|.block ?_
  refine Bs 2 (fun i2 (y2:Int×Int×(List Fz)×(List Int)×(List Int))=>⟨[(1,.ptr 0 0),(2,.ptr 3 0),(36,.li i2)],[.box 133 [.own 1 y2.2.2.1.length,.li y2.1,.own 4 y2.2.2.2.2.length,.li y2.2.1],.row 185 2 false false (Ir y2.2.2.1),.row 3 1 false false (tI y2.2.2.2.1),.box 88 (j.a false),.row 3 1 false false (tI y2.2.2.2.2)]⟩) (fun i2 y2=>y2.2.2.1.length=j.phs.length/\y2.2.1=c.wt/\S3 j y2.2.2.2.2) (E.1.grp,E.1.wt,E.1.lights,E.2,E.1.nxt) (wk Dy [0,1,2,3,4]) (⟨by rw[hqE.1];exact hl,hqE.2.2.1,hqE.2.2.2⟩) fun i2 y2 hi2 hy2=>?_
  refine Bq<|.seq ?_
  refine Br ?_ ?_<;>intro h37
  ·refine Bp<|.seq<|.block<|.R ?_
   (have hnl1:=hy2.2.2.len;have hll1:=hy2.1)
   obtain⟨e2,H2⟩:=gx y2.2.2.2.2 i2
   obtain⟨Y3,cY3,qY3⟩:=Eo (Pc j ⟨y2.2.2.1,y2.1,y2.2.2.2.2,y2.2.1⟩ i2 (by assumption) (by assumption))
   refine Dd H2 cY3 ?_
   refine Br ?_ ?_<;>intro h54
   ·have hp:0<=e2/\e2<j.phs.length:=by (have hq:=S3.ok (by first | exact hy3.2.2 | exact hy2.2.2) _ (Ac H2);rcases hq with hq | hq;exact absurd hq h54.2;exact hq)
    obtain⟨⟨N,b,o⟩,hN,hqN⟩:=I3 j ⟨y2.2.2.1,y2.1,y2.2.2.2.2,y2.2.1⟩ e2 hj (by first | exact hy3.1 | exact hy2.1) (by first | exact hy3.2.2 | exact hy2.2.2) hp.1 hp.2
    by_cases hc14:b=true
    ·subst hc14
     simp only[cond_true] at hN hqN
     refine Dg (fun K kk=>by simp[go_sem,H2];(repeat refine aK ?_);refine .o [0,1,4] (hN) ?_;simp[go_sem,H2];exact kk) ?_
     refine B0 H2 ?_
     refine⟨by omega,(N.grp,N.wt,N.lights,y2.2.2.2.1,N.nxt),?_,wk (Fe (Dw ((i2:Int)+1)) H2) [0,1,2,3,5]⟩
     first | exact hy2 | exact⟨by dsimp only;rw[hqN.1];exact hy2.1,hqN.2.1.trans hy2.2.1,hqN.2.2⟩
    have hc14:b=false:=by simpa using hc14
    subst hc14
    simp only[cond_false] at hN hqN
    refine Dg (fun K kk=>by simp[go_sem,H2];(repeat refine aK ?_);refine .o [0,1,4] (hN) ?_;simp[go_sem,H2];exact kk) ?_
    refine B0 H2 ?_
    refine⟨by omega,(N.grp,N.wt,N.lights,y2.2.2.2.1,N.nxt),?_,wk (Fe (Dw ((i2:Int)+1)) H2) [0,1,2,3,4]⟩
    first | exact hy2 | exact⟨by dsimp only;rw[hqN.1];exact hy2.1,hqN.2.1.trans hy2.2.1,hqN.2.2⟩
   refine Bp<|.H1 H2 ?_
   refine⟨by omega,(y2.1,y2.2.1,y2.2.2.1,y2.2.2.2.1,y2.2.2.2.2),?_,wk (Fe (Dw ((i2:Int)+1)) H2) [0,1,2,3,4]⟩
   exact hy2
  refine Bt ?_
  refine⟨(⟨y2.2.2.1,y2.1,y2.2.2.2.2,y2.2.1⟩,true,y2.2.2.2.1),Akj [0,1,2,4] (by simp[go_sem]) (by decide) (Fu rfl) (by simp[go_sem]) ?_,⟨hy2.1.trans hl.symm,hy2.2⟩⟩
  repeat' (first | exact .nil | refine .cons (by simp[go_sem]) ?_)
 refine Bp<|.R<|.block ?_
 refine Bs 2 (fun i3 (y3:Int×Int×(List Fz)×(List Int)×Bool×(List Int))=>⟨[(1,.ptr 0 0),(2,.ptr 3 0),(36,.li i3)],bif y3.2.2.2.2.1 then [.box 133 [.own 1 y3.2.2.1.length,.li y3.1,.own 4 y3.2.2.2.1.length,.li y3.2.1],.row 185 2 false false (Ir y3.2.2.1),.row 3 1 false false (tI y3.2.2.2.2.2),.box 88 (j.a false),.row 3 1 false false (tI y3.2.2.2.1)] else [.box 133 [.own 1 y3.2.2.1.length,.li y3.1,.own 2 y3.2.2.2.1.length,.li y3.2.1],.row 185 2 false false (Ir y3.2.2.1),.row 3 1 false false (tI y3.2.2.2.1),.box 88 (j.a false)]⟩) (fun i3 y3=>y3.2.2.1.length=j.phs.length/\y3.2.1=c.wt/\S3 j y3.2.2.2.1) (c.grp,c.wt,c.lights,c.nxt,false,[]) (wk Dy [0,1,2,3]) (⟨hl,rfl,hn⟩) fun i3 y3 hi3 hy3=>?_
 cases hb3:y3.2.2.2.2.1
 ·
  simp only[hb3,cond_false]
  refine Bq<|.seq ?_
  refine Br ?_ ?_<;>intro h37
  ·refine Bp<|.seq<|.block<|.R ?_
   first | (have hnl1:=hy2.2.2.len;have hll1:=hy2.1) | (have hnl1:=hy3.2.2.len;have hll1:=hy3.1)
   obtain⟨e3,H3⟩:=gx y3.2.2.2.1 i3
   obtain⟨Y4,cY4,qY4⟩:=Eo (Pc j ⟨y3.2.2.1,y3.1,y3.2.2.2.1,y3.2.1⟩ i3 (by assumption) (by assumption))
   refine Dd H3 cY4 ?_
   refine Br ?_ ?_<;>intro h54
   ·have hp:0<=e3/\e3<j.phs.length:=by (have hq:=S3.ok (by exact hy3.2.2) _ (Ac H3);rcases hq with hq | hq;exact absurd hq h54.2;exact hq)
    obtain⟨⟨N,b,o⟩,hN,hqN⟩:=I3 j ⟨y3.2.2.1,y3.1,y3.2.2.2.1,y3.2.1⟩ e3 hj (by exact hy3.1) (by exact hy3.2.2) hp.1 hp.2
    by_cases hc14:b=true
    ·subst hc14
     simp only[cond_true] at hN hqN
     refine Dg (fun K kk=>by simp[go_sem,H3];(repeat refine aK ?_);refine .o [0,1,2] (hN) ?_;simp[go_sem,H3];exact kk) ?_
     refine B0 H3 ?_
     refine⟨by omega,(N.grp,N.wt,N.lights,N.nxt,true,o),?_,wk (Fe (Dw ((i3:Int)+1)) H3) [0,1,2,3,4]⟩
     first | exact hy3 | exact⟨by dsimp only;rw[hqN.1];exact hy3.1,hqN.2.1.trans hy3.2.1,hqN.2.2⟩
    have hc14:b=false:=by simpa using hc14
    subst hc14
    simp only[cond_false] at hN hqN
    refine Dg (fun K kk=>by simp[go_sem,H3];(repeat refine aK ?_);refine .o [0,1,2] (hN) ?_;simp[go_sem,H3];exact kk) ?_
    refine B0 H3 ?_
    refine⟨by omega,(N.grp,N.wt,N.lights,N.nxt,false,[]),?_,wk (Fe (Dw ((i3:Int)+1)) H3) [0,1,2,3]⟩
    first | exact hy3 | exact⟨by dsimp only;rw[hqN.1];exact hy3.1,hqN.2.1.trans hy3.2.1,hqN.2.2⟩
   refine Bp<|.H1 H3 ?_
   refine⟨by omega,(y3.1,y3.2.1,y3.2.2.1,y3.2.2.2.1,false,[]),?_,wk (Fe (Dw ((i3:Int)+1)) H3) [0,1,2,3]⟩
   exact hy3
  refine Bt ?_
  refine⟨(⟨y3.2.2.1,y3.1,y3.2.2.2.1,y3.2.1⟩,false,[]),Akj [0,1,2] (by simp[go_sem]) (by decide) (Fu rfl) (by simp[go_sem]) ?_,⟨hy3.1.trans hl.symm,hy3.2⟩⟩
  repeat' (first | exact .nil | refine .cons (by simp[go_sem]) ?_)
 -- the row is a new one
 simp only[hb3,cond_true]
 refine Bq<|.seq ?_
 refine Br ?_ ?_<;>intro h37
 ·refine Bp<|.seq<|.block<|.R ?_
  first | (have hnl1:=hy2.2.2.len;have hll1:=hy2.1) | (have hnl1:=hy3.2.2.len;have hll1:=hy3.1)
  obtain⟨e4,H4⟩:=gx y3.2.2.2.1 i3
  obtain⟨Y5,cY5,qY5⟩:=Eo (Pc j ⟨y3.2.2.1,y3.1,y3.2.2.2.1,y3.2.1⟩ i3 (by assumption) (by assumption))
  refine Dd H4 cY5 ?_
  refine Br ?_ ?_<;>intro h54
  ·have hp:0<=e4/\e4<j.phs.length:=by (have hq:=S3.ok (by exact hy3.2.2) _ (Ac H4);rcases hq with hq | hq;exact absurd hq h54.2;exact hq)
   obtain⟨⟨N,b,o⟩,hN,hqN⟩:=I3 j ⟨y3.2.2.1,y3.1,y3.2.2.2.1,y3.2.1⟩ e4 hj (by exact hy3.1) (by exact hy3.2.2) hp.1 hp.2
   by_cases hc14:b=true
   ·subst hc14
    simp only[cond_true] at hN hqN
    refine Dg (fun K kk=>by simp[go_sem,H4];(repeat refine aK ?_);refine .o [0,1,4] (hN) ?_;simp[go_sem,H4];exact kk) ?_
    refine B0 H4 ?_
    refine⟨by omega,(N.grp,N.wt,N.lights,N.nxt,true,y3.2.2.2.2.2),?_,wk (Fe (Dw ((i3:Int)+1)) H4) [0,1,2,3,5]⟩
    first | exact hy3 | exact⟨by dsimp only;rw[hqN.1];exact hy3.1,hqN.2.1.trans hy3.2.1,hqN.2.2⟩
   have hc14:b=false:=by simpa using hc14
   subst hc14
   simp only[cond_false] at hN hqN
   refine Dg (fun K kk=>by simp[go_sem,H4];(repeat refine aK ?_);refine .o [0,1,4] (hN) ?_;simp[go_sem,H4];exact kk) ?_
   refine B0 H4 ?_
   refine⟨by omega,(N.grp,N.wt,N.lights,N.nxt,true,y3.2.2.2.2.2),?_,wk (Fe (Dw ((i3:Int)+1)) H4) [0,1,2,3,4]⟩
   first | exact hy3 | exact⟨by dsimp only;rw[hqN.1];exact hy3.1,hqN.2.1.trans hy3.2.1,hqN.2.2⟩
  refine Bp<|.H1 H4 ?_
  refine⟨by omega,(y3.1,y3.2.1,y3.2.2.1,y3.2.2.2.1,true,y3.2.2.2.2.2),?_,wk (Fe (Dw ((i3:Int)+1)) H4) [0,1,2,3,4]⟩
  exact hy3
 refine Bt ?_
 refine⟨(⟨y3.2.2.1,y3.1,y3.2.2.2.1,y3.2.1⟩,true,y3.2.2.2.2.2),Akj [0,1,2,4] (by simp[go_sem]) (by decide) (Fu rfl) (by simp[go_sem]) ?_,⟨hy3.1.trans hl.symm,hy3.2⟩⟩
 repeat' (first | exact .nil | refine .cons (by simp[go_sem]) ?_)
theorem Zl (j:Gc) (r g:Int):∀(i:Nat) (x:Int),x∈Ke j r g i->0<=x/\x<i
 | 0,x,h=>by simp[Ke] at h
 | i+1,x,h=>by
  unfold Ke at h
  split at h
  ·rcases A0.1 h with h | h
   ·have:=Zl j r g i x h;omega
   simp at h;omega
  have:=Zl j r g i x h;omega
theorem Au9 {j:Gc} {r g x:Int} (h:x∈Anc j r g):0<=x/\x<j.phs.length:=Zl j r g _ x h
section
variable (c:List Int) (s:Int) (hl:c.length<=1000000)
include s hl
theorem V1:∃res,PP 220 [] [.mI c,.li s] [] res/\IsD (fun d:Int×Int=>.tup [.li d.1,.li d.2]) (fun _=>True) res:=by
 obtain⟨res,h,a,b,rfl⟩:=Ae1 c s hl
 exact⟨_,h,(a,b),rfl,trivial⟩
def Wz:Int×Int:=(Eo (V1 c s hl)).choose
theorem Afc:PP 220 [] [.mI c,.li s] [] (.tup [.lit (.int .i64 (Wz c s hl).1),.lit (.int .i64 (Wz c s hl).2)]):=(Eo (V1 c s hl)).choose_spec.1
end
theorem Alr (j:Gc) (hj:N5 j):Ct 83 [j.g] (fun d:Nw=>d.g) (fun d=>d.lights.length=j.phs.length/\S3 j d.nxt):=by
 refine Ev Tryz.func83 ?_
 have hjl:=hj.len
 refine Bq ?_
 refine C9 Dy ?_
 obtain⟨E,hE,hqE⟩:=Qx j ⟨List.replicate j.phs.length ⟨0,0⟩,0,[],j.start⟩ 0 hj
 refine Cl 3 2 3 1 (by decide) rfl rfl ?_
 simp[go_sem,-Prod.exists]
 refine Cv 2 rfl ?_
 simp[go_sem,-Prod.exists]
 refine Cv 4 rfl ?_
 simp[go_sem,-Prod.exists]
 refine Da Dy [3,2,4] hE ?_
 refine Bq ?_
 refine B2 Dy 2 ?_
 refine B2 Dy 5 ?_
 exact .ret (Eu Dy ⟨E.1.lights,E.1.grp,E.1.nxt,E.1.wt⟩ ⟨by rw[hqE.1];simp,hqE.2.2.2⟩)
section
variable (j:Gc) (c:Nw) (hj:N5 j) (h1:c.lights.length<=1000000) (h2:c.nxt.length<=1000000)
include hj h1 h2
theorem Ub:Ct 201 [j.g,c.g] (fun d:Bool=>.lb d) (fun d=>d=true->c.lights.length=j.phs.length/\S3 j c.nxt):=by
 refine Ev Tryz.func201 ?_
 have hjl:=hj.len
 have hjc:=hj.con
 have hpl:∀r g,(Anc j r g).length<=1000000:=fun r g=>Ak (Zm j r g _) hj.len
 refine Bq<|.seq ?_
 refine Bq ?_
 refine Br ?_ ?_<;>intro h23
 ·refine Bq ?_
  exact .ret (Eu Dy false (by exact fun h=>Bool.noConfusion h))
 obtain⟨hA,hB⟩:c.lights.length=j.phs.length/\c.nxt.length=2:=by omega
 refine Bp<|.seq<|.R<|.block ?_
 refine Bs j.phs.length (fun i1 (y1:Unit)=>⟨[(2,.ptr 0 0),(3,.ptr 1 0),(25,.mPhase j.phs),(26,.li j.phs.length),(27,.li i1)],[.box 88 (j.a false),.box 133 (c.a false)]⟩) (fun i1 y1=>True) () (wk Dy [0,1]) (trivial) fun i1 y1 hi1 hy1=>?_
 refine Bq<|.seq ?_
 refine Br ?_ ?_<;>intro h28
 ·refine Bp<|.seq<|.block ?_
  obtain⟨e1,H1⟩:=gx j.phs i1
  refine Bu H1 ?_
  obtain⟨e2,H2⟩:=gx c.lights i1
  obtain⟨Y1,cY1,qY1⟩:=Eo (Ajk e1 e2)
  refine Dd (Fe H1 H2) cY1 ?_
  refine Br ?_ ?_<;>intro h39
  ·refine Bu (Fe H1 H2) ?_
   exact .ret (Eu (Fe H1 H2) false (by exact fun h=>Bool.noConfusion h))
  refine Bp<|.H1 (Fe H1 H2) ?_
  exact⟨by omega,(),trivial,wk (I1 (Dw ((i1:Int)+1)) H1 H2) [0,1]⟩
 refine Bt<|.seq ?_
 obtain⟨Y2,cY2,qY2⟩:=Eo (Aoq c h1)
 refine Cw (fun K kk=>by simp[go_sem];refine .l cY2 ?_;simp[go_sem];refine .l (Afc j.con Y2 hjc) ?_;simp[go_sem];exact kk) ?_
 refine Bq ?_
 refine Br ?_ ?_<;>intro h50
 ·refine Bq ?_
  exact .ret (Eu Dy false (by exact fun h=>Bool.noConfusion h))
 refine Bp<|.seq ?_
 refine Dc (by kernel_rfl) (by rfl) (by kernel_rfl) fun K1 hK1=>?_
 simp[go_sem]
 refine O5 (by simp[go_sem]) (by simp[go_sem]) ?_
 simp[go_sem]
 obtain⟨Y3,cY3,qY3⟩:=Eo (V4 j hj)
 refine .lo cY3 rfl (by simp[AV.cln,Ff]) ?_
 simp[go_sem]
 refine hK1 _ _ (by kernel_rfl) ?_;clear hK1
 refine Br ?_ ?_<;>intro h60
 ·refine Bq ?_
  exact .ret (Eu Dy false (by exact fun h=>Bool.noConfusion h))
 refine Bp<|.seq<|.R<|.block ?_
 refine Bs c.nxt.length (fun i2 (y2:Unit)=>⟨[(2,.ptr 0 0),(3,.ptr 1 0),(62,.mI c.nxt),(63,.li c.nxt.length),(64,.li i2)],[.box 88 (j.a false),.box 133 (c.a false)]⟩) (fun i2 y2=>∀k x,k<i2->c.nxt[k]? = some x->(x = -1\/(0<=x/\x<j.phs.length))) () (wk Dy [0,1]) (fun k x h=>by omega) fun i2 y2 hi2 hy2=>?_
 refine Bq<|.seq ?_
 refine Br ?_ ?_<;>intro h65
 ·refine Bp<|.seq<|.block ?_
  obtain⟨e3,H3⟩:=gx c.nxt i2
  refine Bu H3 ?_
  refine B4 (by rfl) fun K1 hK1=>?_
  simp[go_sem,H3]
  refine Qc ?_
  simp[go_sem,H3]
  refine .lo (Ars j i2 c.grp (by assumption)) rfl (by simp[AV.cln,Ff]) ?_
  simp[go_sem,H3]
  refine Qc ?_
  simp[go_sem,H3]
  obtain⟨Y4,cY4,qY4⟩:=Eo (Ade (Anc j i2 c.grp) e3 (hpl _ _))
  refine .lo cY4 rfl (by simp[AV.cln,Ff]) ?_
  simp[go_sem,H3]
  refine hK1 _ ?_;clear hK1
  refine Br ?_ ?_<;>intro h80
  ·refine Bu H3 ?_
   exact .ret (Eu H3 false (by exact fun h=>Bool.noConfusion h))
  refine Bp<|.H1 H3 ?_
  exact⟨by omega,(),(At7 hy2 H3 (by by_cases he:e3 = -1;exact .inl he;exact .inr (Au9 (qY4 (by simpa[he] using h80))))),wk (Fe (Dw ((i2:Int)+1)) H3) [0,1]⟩
 refine Bt<|.seq<|.R ?_
 refine Br ?_ ?_<;>intro h91
 ·refine Bq ?_
  exact .ret (Eu Dy false (by exact fun h=>Bool.noConfusion h))
 refine Bp ?_
 refine B4 (by rfl) fun K1 hK1=>?_
 simp[go_sem]
 refine Qc ?_
 simp[go_sem]
 obtain⟨Y5,cY5,qY5⟩:=Eo (X8 c h1)
 refine .lo cY5 rfl (by simp[AV.cln,Ff]) ?_
 simp[go_sem]
 refine hK1 _ ?_;clear hK1
 refine Bz (Fl ?_);simp[go_sem]
 exact⟨_,by rfl,(by first | exact fun h=>Bool.noConfusion h | (refine fun _=>⟨hA,hB,fun x hx=>?_⟩;obtain⟨k,hk⟩:=A3.1 hx;have hk2:=(Ab.1 hk).1;exact hy2 k x (by omega) hk))⟩
def Aai:Bool:=(Eo (Ub j c hj h1 h2)).choose
theorem Zx:PP 201 [] [j.g,c.g] [] (.lb (Aai j c hj h1 h2)):=(Eo (Ub j c hj h1 h2)).choose_spec.1
theorem Ako:(Aai j c hj h1 h2)=true->c.lights.length=j.phs.length/\S3 j c.nxt:=(Eo (Ub j c hj h1 h2)).choose_spec.2
end
theorem Awk {n:Nat} {f:Nat->Bool} (h:N9 n f=true):∀i,i<n->f i=true:=by
 intro i hi
 exact Am.1 h i (List.mem_range.2 hi)
theorem Ax6 {j:Gc} (h:Ri j=true):N5 j:=by
 simp only[Ri,Ah,decide_eq_true_eq] at h
 obtain⟨⟨⟨⟨⟨⟨⟨h1,h2⟩,h3⟩,h4⟩,h5⟩,h6⟩,h7⟩,h8⟩:=h
 have hp:∀p∈j.phs,Jh p=true:=fun p hp=>by
  obtain⟨i,hi⟩:=A3.1 hp
  have:=Awk h6 i (Ab.1 hi).1
  simpa[Nz,hi] using this
 exact⟨by omega,h1,by omega,fun p hq=>by have:=Sb (hp p hq);omega,fun p hq=>by have:=Sb (hp p hq);omega⟩
theorem Alq (j:Gc) (c:Nw) (t:Int) (h1:j.phs.length<=1000000) (h2:j.con.length<=1000000) (h3:c.lights.length<=1000000) (h4:c.nxt.length<=1000000):Ct 175 [j.g,c.g,.li t] (fun d:Nw=>d.g) (fun d=>d=⟨[],0,[],0⟩\/(d.lights.length=j.phs.length/\S3 j d.nxt/\N5 j)):=by
 refine Ev Tryz.func175 ?_
 refine Bq<|.seq ?_
 by_cases hc1:Ri j=true
 ·have hj:=Ax6 hc1
  have hjl:=hj.len
  have hqv:=Ako j c hj h3 h4
  refine B4 (by rfl) fun K1 hK1=>?_
  simp[go_sem,hc1]
  refine .l (P0 j (by assumption) (by assumption)) ?_
  simp[go_sem,hc1]
  refine Qc ?_
  simp[go_sem,hc1]
  refine .lo (Zx j c hj h3 h4) rfl (by simp[AV.cln,Ff]) ?_
  simp[go_sem,hc1]
  refine hK1 _ ?_;clear hK1
  refine Br ?_ ?_<;>intro h20
  ·refine Bu hc1 ?_
   exact .ret (Eu hc1 ⟨[],0,[],0⟩ (.inl rfl))
  obtain⟨hA,hB⟩:=hqv (by simpa using h20)
  have hBl:=hB.len
  refine Bp<|.E (fun K kk=>by simp[go_sem,hc1];refine .lo (Sv _ (by (simp;omega)) (by (simp[T.plain,Fz.t];done))) rfl (by simp[AV.cln,Ff]) ?_;simp[go_sem,hc1];refine .lo (Hp _ (by (simp;omega)) (by (simp[T.plain];done))) rfl (by simp[AV.cln,Ff]) ?_;simp[go_sem,hc1];exact kk)<|.seq ?_
  refine Bu hc1 ?_
  refine Br ?_ ?_<;>intro h35
  ·refine Bu hc1 ?_
   refine Bu hc1 ?_
   refine B2 Dy 3 ?_
   refine B2 Dy 4 ?_
   exact .ret (Eu hc1 ⟨c.lights,c.grp,c.nxt,IntKind.i64.wrap (c.wt - 1)⟩ (.inr ⟨hA,hB,hj⟩))
  refine Bp<|.H hc1<|.seq ?_
  refine Bu hc1<|.block ?_
  refine Bs j.phs.length (fun i1 (y1:(List Fz)×(List Int))=>⟨[(2,.li t),(3,.ptr 0 0),(4,.ptr 1 0),(6,.ptr 2 0),(7,.ptr 5 0),(8,.lb (decide ((0:Int)<=t)&&decide (t<(j.phs.length:Int)))),(51,.mPhase j.phs),(52,.li j.phs.length),(53,.li i1)],[.box 88 (j.a false),.box 133 (c.a false),.box 133 [.nil 2,.li 0,.nil 1,.li 0],.row 185 2 false false (Ir y1.1),.row 3 1 false false (tI y1.2),.box 133 [.own 3 y1.1.length,.li c.grp,.own 4 y1.2.length,.li c.wt]]⟩) (fun i1 y1=>y1.1.length=j.phs.length/\y1.2=c.nxt) (c.lights,c.nxt) (wk hc1 [0,1,2,3,4,5]) (⟨hA,rfl⟩) fun i1 y1 hi1 hy1=>?_
  refine Bu hc1<|.seq ?_
  refine Br ?_ ?_<;>intro h54
  ·refine Bp<|.seq<|.block ?_
   obtain⟨e1,H1⟩:=gx j.phs i1
   refine Bu (Fe hc1 H1) ?_
   obtain⟨e2,H2⟩:=gx c.lights i1
   refine C9 (I1 hc1 H1 H2)<|.seq ?_
   refine Bu (I1 hc1 H1 H2) ?_
   refine Br ?_ ?_<;>intro h68
   ·refine C4 (by rfl) fun K1 hK1=>?_
    simp +contextual[go_sem,hc1,H1,H2]
    refine Qc ?_
    simp +contextual[go_sem,hc1,H1,H2]
    refine .lo (Ik j.con i1 t (by assumption)) rfl (by simp[AV.cln,Ff]) ?_
    simp +contextual[go_sem,hc1,H1,H2]
    refine hK1 _ ?_;clear hK1
    obtain⟨e3,H3⟩:=gx y1.1 i1
    refine Dg (fun K kk=>by simp[go_sem,hc1,H1,H2,H3];(repeat refine aK ?_);refine .lo (Al9 e1 e2 _) rfl (by simp[AV.cln,Ff]) ?_;simp[go_sem,hc1,H1,H2,H3];(repeat first | exact kk | refine aK ?_)) ?_
    refine Ds 3 rfl (by simp) Fz.t j.phs.length ?_ fun R hR=>?_
    ·apply Kx
     ·repeat' first | exact Mt | exact Ms | exact Mr (x:=(⟨0,0⟩:Fz)) rfl | apply Ku | apply Kw | apply Kv | apply Qp | apply (fun h=>Qo (x:=(⟨_,_⟩:Fz)) h rfl)
     first | rfl | omega
    simp[go_sem,-Prod.exists]
    refine B0 (Yo hc1 H1 H2 H3 hR) ?_
    refine⟨by omega,(R,y1.2),?_,wQ [0,1,2,3,4,5] ?_ ?_⟩
    ·exact⟨hR,hy1.2⟩
    all_goals simp[go_sem,Dw ((i1:Int)+1),hc1,H1,H2,H3,hR,hy1.1]
   refine Bp ?_
   obtain⟨e4,H4⟩:=gx y1.1 i1
   obtain⟨Y1,cY1,qY1⟩:=Eo (V6 e1 e2 (decide ((e1.ma:Int)<=(IntKind.i64.wrap (e2.n+1)))))
   refine Cp (O4 hc1 H1 H2 H4) cY1 ?_
   refine Ds 3 rfl (by simp) Fz.t j.phs.length ?_ fun R hR=>?_
   ·apply Kx
    ·repeat' first | exact Mt | exact Ms | exact Mr (x:=(⟨0,0⟩:Fz)) rfl | apply Ku | apply Kw | apply Kv | apply Qp | apply (fun h=>Qo (x:=(⟨_,_⟩:Fz)) h rfl)
    first | rfl | omega
   simp[go_sem,-Prod.exists]
   refine B0 (Yo hc1 H1 H2 H4 hR) ?_
   refine⟨by omega,(R,y1.2),?_,wQ [0,1,2,3,4,5] ?_ ?_⟩
   ·exact⟨hR,hy1.2⟩
   all_goals simp[go_sem,Dw ((i1:Int)+1),hc1,H1,H2,H4,hR,hy1.1]
  refine Bt<|.seq<|.H hc1 ?_
  refine Br ?_ ?_<;>intro h95
  ·obtain⟨⟨N,b,o⟩,hN,hqN⟩:=Aez j ⟨y1.1,c.grp,y1.2,c.wt⟩ t hj hy1.1 (hy1.2.symm▸hB) (by omega) (by omega)
   by_cases hc17:b=true
   ·subst hc17
    simp only[cond_true] at hN hqN
    refine Cv 3 rfl ?_
    simp[go_sem,-Prod.exists,hc1]
    refine Cv 4 rfl ?_
    simp[go_sem,-Prod.exists,hc1]
    refine C6 hc1 [5,3,4] hN ?_
    refine Bu hc1 ?_
    refine B2 Dy 3 ?_
    refine B2 Dy 6 ?_
    exact .ret (Eu hc1 ⟨N.lights,N.grp,N.nxt,N.wt⟩ (.inr ⟨hqN.1.trans hy1.1,hqN.2.2,hj⟩))
   have hc17:b=false:=by simpa using hc17
   subst hc17
   simp only[cond_false] at hN hqN
   refine Cv 3 rfl ?_
   simp[go_sem,-Prod.exists,hc1]
   refine Cv 4 rfl ?_
   simp[go_sem,-Prod.exists,hc1]
   refine C6 hc1 [5,3,4] hN ?_
   refine Bu hc1 ?_
   refine B2 Dy 3 ?_
   refine B2 Dy 4 ?_
   exact .ret (Eu hc1 ⟨N.lights,N.grp,N.nxt,N.wt⟩ (.inr ⟨hqN.1.trans hy1.1,hqN.2.2,hj⟩))
  obtain⟨⟨N,b,o⟩,hN,hqN⟩:=Ae0 j ⟨y1.1,c.grp,y1.2,c.wt⟩ hj hy1.1 (hy1.2.symm▸hB)
  by_cases hc18:b=true
  ·subst hc18
   simp only[cond_true] at hN hqN
   refine Cv 3 rfl ?_
   simp[go_sem,-Prod.exists,hc1]
   refine Cv 4 rfl ?_
   simp[go_sem,-Prod.exists,hc1]
   refine C6 hc1 [5,3,4] hN ?_
   refine Bu hc1 ?_
   refine B2 Dy 3 ?_
   refine B2 Dy 6 ?_
   exact .ret (Eu hc1 ⟨N.lights,N.grp,N.nxt,N.wt⟩ (.inr ⟨hqN.1.trans hy1.1,hqN.2.2,hj⟩))
  have hc18:b=false:=by simpa using hc18
  subst hc18
  simp only[cond_false] at hN hqN
  refine Cv 3 rfl ?_
  simp[go_sem,-Prod.exists,hc1]
  refine Cv 4 rfl ?_
  simp[go_sem,-Prod.exists,hc1]
  refine C6 hc1 [5,3,4] hN ?_
  refine Bu hc1 ?_
  refine B2 Dy 3 ?_
  refine B2 Dy 4 ?_
  exact .ret (Eu hc1 ⟨N.lights,N.grp,N.nxt,N.wt⟩ (.inr ⟨hqN.1.trans hy1.1,hqN.2.2,hj⟩))
 have hcf:Ri j=false:=by simpa using hc1
 refine B4 (by rfl) fun K1 hK1=>?_
 simp[go_sem,hc1,hcf]
 refine .l (P0 j (by assumption) (by assumption)) ?_
 simp[go_sem,hc1,hcf]
 refine Qc ?_
 simp[go_sem,hc1,hcf]
 first | refine .lo (Zx j c hj h3 h4) rfl (by simp[AV.cln,Ff]) ?_ | refine .skip ?_
 simp[go_sem,hc1,hcf]
 refine hK1 _ ?_;clear hK1
 refine Ck ?_ ?_<;>intro h20<;>simp[go_sem] at h20
 refine Bu (Fe hc1 hcf) ?_
 exact .ret (Eu (Fe hc1 hcf) ⟨[],0,[],0⟩ (.inl rfl))
theorem A0v:tok Tryz.prog 306=true/\Tl Tryz.prog 306=false/\Gg Tryz.prog 306=1/\zok Tryz.prog 306=true/\Hk Tryz.prog 306=[.lit .nilFunc]:=⟨by kernel_rfl,by kernel_rfl,by kernel_rfl,by kernel_rfl,by kernel_rfl⟩
attribute [go_sem] A0v
theorem A07:tok Tryz.prog 169=true/\Tl Tryz.prog 169=false/\Gg Tryz.prog 169=1/\zok Tryz.prog 169=true/\Hk Tryz.prog 169=[.lit .nilFunc]:=⟨by kernel_rfl,by kernel_rfl,by kernel_rfl,by kernel_rfl,by kernel_rfl⟩
attribute [go_sem] A07
theorem Aqx (ts:List T) (off:Nat):Aa2 [.iptr false ts off]:=by
 constructor<;>intros<;>first | rfl | exact⟨trivial,trivial⟩
theorem V7 (j:Gc) (hj:N5 j):Ct 56 [j.g] (fun d:Ij=>d.g) (fun d=>d.lat=false/\d.ctl.lights.length=j.phs.length/\d.ctl.nxt.length=2):=by
 refine Ev Tryz.func56 ?_
 obtain⟨Y1,cY1,qY1⟩:=Eo (Alr j hj)
 have hq:=qY1
 refine Bq ?_
 refine B8 Dy cY1 ?_
 exact .ret (Eu Dy ⟨Y1,false⟩ ⟨rfl,hq.1,hq.2.len⟩)
theorem Abe (j:Gc) (s:Ij) (hj:N5 j) (hj8:j.phs.length<=8) (h1:s.ctl.lights.length<=8) (h2:s.ctl.nxt.length<=2):Ct 96 [j.g,s.g] (fun d:Ij×Bool=>.tup [d.1.g,.lb d.2]) (fun d=>d.1.ctl.lights.length<=8/\d.1.ctl.nxt.length<=2):=by
 refine Ev Tryz.func96 ?_
 have h1M:s.ctl.lights.length<=1000000:=by omega
 have h2M:s.ctl.nxt.length<=1000000:=by omega
 obtain⟨Y1,cY1,qY1⟩:=Eo (V7 j hj)
 have hq:=qY1
 refine Bq<|.seq ?_
 refine Bq ?_
 refine Br ?_ ?_<;>intro h7
 ·refine B8 Dy cY1 ?_
  exact .ret (Eu Dy (Y1,true) ⟨by rw[hq.2.1];exact hj8,by rw[hq.2.2];decide⟩)
 refine Bp<|.L Dy (Tj s h1M h2M) ?_
 exact .ret (Eu Dy (s,false) ⟨h1,h2⟩)
section
variable (j:Gc) (s:Ij) (t:Int) (k:Int) (hj8:j.phs.length<=8) (hcM:j.con.length<=1000000) (h1:s.ctl.lights.length<=8) (h2:s.ctl.nxt.length<=2)
include t k hj8 hcM h1 h2
theorem Pq:Ct 153 [j.g,s.g,.li t,.li k] (fun d:Ij=>d.g) (fun d=>d.ctl.lights.length<=8/\d.ctl.nxt.length<=2):=by
 refine Ev Tryz.func153 ?_
 have h1M:s.ctl.lights.length<=1000000:=by omega
 have h2M:s.ctl.nxt.length<=1000000:=by omega
 have hjM:j.phs.length<=1000000:=by omega
 refine Bq<|.seq ?_
 refine Bq ?_
 refine Br ?_ ?_<;>intro h12
 ·refine B8 Dy (Tj s h1M h2M) ?_
  exact .ret (Eu Dy s ⟨h1,h2⟩)
 obtain⟨Y1,cY1,qY1⟩:=Eo (Alq j s.ctl t hjM hcM h1M h2M)
 have hd:=qY1
 have hv:=cY1
 generalize Y1=D at hd hv
 have hd2:D.lights.length<=8/\D.nxt.length<=2:=by rcases hd with rfl | ⟨q1,q2,q3⟩;exact⟨by simp,by simp⟩;exact⟨by omega,by rw[q2.len];decide⟩
 have hdM:D.lights.length<=1000000:=by omega
 have hsM:(Nn D.lights k hdM).length<=1000000:=by rw[Afz];exact hdM
 refine Bp<|.L Dy (hv) ?_
 refine B8 Dy (Afa D.lights k hdM) ?_
 obtain⟨Y2,cY2,qY2⟩:=Eo (X0 j.con (Nn D.lights k hdM) hsM hcM)
 refine Dd Dy cY2 ?_
 exact .ret (Eu Dy ⟨D,Y2⟩ hd2)
def Mb:Ij:=(Eo (Pq j s t k hj8 hcM h1 h2)).choose
theorem Adu:PP 153 [] [j.g,s.g,.li t,.li k] [] (.agg ((Mb j s t k hj8 hcM h1 h2).a false)):=(Eo (Pq j s t k hj8 hcM h1 h2)).choose_spec.1
theorem Ad7:(Mb j s t k hj8 hcM h1 h2).ctl.lights.length<=8/\(Mb j s t k hj8 hcM h1 h2).ctl.nxt.length<=2:=(Eo (Pq j s t k hj8 hcM h1 h2)).choose_spec.2
end
section
variable (s:F4) (h:s.ended.length<=1000000)
include h
theorem X1:∃d:F4,PP 90 [] [s.g] [.row 3 1 false false (tI d.ended)] (.agg [.li d.ph,.li d.gr,.own 0 d.ended.length])/\(d=s):=by
 refine Nr (D:=F4) (F:=fun d=>.agg [.li d.ph,.li d.gr,.own 0 d.ended.length]) (S:=fun d=>[.row 3 1 false false (tI d.ended)]) (Q:=fun d=>d=s) Tryz.func90 rfl rfl rfl (by simp[Tryz.ntmps90]) ?_
 refine Bq ?_
 refine B3 (fun K kk=>by simp[go_sem];refine .lo (Hp _ (by (simp;omega)) (by (simp[T.plain];done))) rfl (by simp[AV.cln,Ff]) ?_;simp[go_sem];exact kk) ?_
 refine Bq ?_
 exact .ret ⟨⟨s.ph,s.gr,s.ended⟩,rW Dy [2],rfl⟩
theorem Y9:PP 90 [] [s.g] [.row 3 1 false false (tI s.ended)] (.agg [.li s.ph,.li s.gr,.own 0 (s.ended).length]):=by
 obtain⟨Y1,cY1,qY1⟩:=X1 s h
 have:=cY1
 rwa[qY1] at this
end
section
variable (s:F4) (now:Int) (h:s.ended.length<=1000000)
include now h
theorem O6:Ct 151 [s.g,.li now] (fun d:F4=>d.g) (fun d=>d.ended.length=s.ended.length):=by
 refine Ev Tryz.func151 ?_
 refine Bq ?_
 refine B8 Dy (Y9 s h)<|.seq ?_
 refine Bq ?_
 refine Br ?_ ?_<;>intro h22
 ·obtain⟨e1,H1⟩:=gx s.ended s.ph.toNat
  refine B0 H1 ?_
  refine Bu H1 ?_
  refine Bu H1 ?_
  refine B2 Dy 2 ?_
  exact .ret (Eu H1 ⟨(-1),0,(s.ended).set s.ph.toNat now⟩ (by first | rfl | (simp;done)))
 refine Bp<|.R ?_
 refine Bq ?_
 refine B2 Dy 2 ?_
 exact .ret (Eu Dy ⟨(-1),0,s.ended⟩ (by rfl))
def O9:F4:=(Eo (O6 s now h)).choose
theorem Yh:PP 151 [] [s.g,.li now] [] (.agg ((O9 s now h).a false)):=(Eo (O6 s now h)).choose_spec.1
theorem Ym:(O9 s now h).ended.length=s.ended.length:=(Eo (O6 s now h)).choose_spec.2
end
theorem Tk (s:F4) (c:Fa):PP 195 [] [c.g,.iptr false [.li s.ph,.li s.gr,.sl 1 (tI s.ended)] 0] [] (.lb (c.ph == s.ph)):=by
 refine El Tryz.func195 ?_
 iterate 2 refine Bw ?_
 exact .ret (rL Dy)
theorem Abo (s:F4) (c:Fa):PP 196 [] [c.g,.iptr false [.fn 195 [.li s.ph,.li s.gr,.sl 1 (tI s.ended)] 0] 0] [] (.lb (c.ph == s.ph&&Ow c)):=by
 refine El Tryz.func196 ?_
 refine Bw ?_
 refine Cc (fun K kk=>by simp[go_sem];refine .l (Tk s c) ?_;simp[go_sem];refine Qc ?_;simp[go_sem];refine .l (Jo c) ?_;simp[go_sem];exact kk) ?_
 exact .ret (rL Dy)
theorem Ae2 (g:E6) (s:F4) (l:List Fa) (hl:l.length<=1000000):Ct 173 [g.g,s.g,.mClaim l] (fun d:Bool=>.lb d) (fun d=>True):=by
 refine Ev Tryz.func173 ?_
 refine Bq ?_
 refine VX.sel1 1 rfl rfl (by simp) ?_
 simp[go_sem,-Prod.exists]
 refine Bq ?_
 refine VX.sel1 2 rfl rfl (by simp) ?_
 simp[go_sem,-Prod.exists]
 refine Bq ?_
 refine B4 (by rfl) fun K1 hK1=>?_
 simp +contextual[go_sem]
 refine .lo (Kt l _ [.iptr false [.li s.ph,.li s.gr,.sl 1 (tI s.ended)] 0] (fun c:Fa=>c.ph == s.ph) hl (Aqx _ _) (Tk s)) (by simp[go_sem]) (by simp[AV.cln,Ff]) ?_
 simp +contextual[go_sem]
 refine Qc ?_
 simp +contextual[go_sem]
 refine .lo (Kt l _ [] Ow hl Tm Jo) rfl (by simp[AV.cln,Ff]) ?_
 simp +contextual[go_sem]
 refine Qc ?_
 simp +contextual[go_sem]
 refine .lo (Kt l _ [.iptr false [.fn 195 [.li s.ph,.li s.gr,.sl 1 (tI s.ended)] 0] 0] (fun c:Fa=>c.ph == s.ph&&Ow c) hl (Aqx _ _) (Abo s)) rfl (by simp[AV.cln,Ff]) ?_
 simp +contextual[go_sem]
 refine hK1 _ ?_;clear hK1
 refine Bz (Fl ?_);simp[go_sem]
 exact⟨_,by rfl,trivial⟩
section
variable (g:E6) (s:F4) (l:List Fa) (now:Int) (h:s.ended.length<=1000000) (hl:l.length<=1000000)
include g now h hl
theorem Ol:Ct 152 [g.g,s.g,.mClaim l,.li now] (fun d:F4=>d.g) (fun d=>d.ended.length=s.ended.length):=by
 refine Ev Tryz.func152 ?_
 refine Bq ?_
 refine B8 Dy (La s h)<|.seq ?_
 refine B4 (by rfl) fun K1 hK1=>?_
 simp[go_sem]
 refine Qc ?_
 simp[go_sem]
 obtain⟨Y1,cY1,qY1⟩:=Eo (Ae2 g s l hl)
 refine .lo cY1 rfl (by simp[AV.cln,Ff]) ?_
 simp[go_sem]
 refine hK1 _ ?_;clear hK1
 refine Br ?_ ?_<;>intro h20
 ·obtain⟨Y2,cY2,qY2⟩:=Eo (O6 s now h)
  refine Dr Dy cY2<|.seq ?_
  refine Bq ?_
  refine Br ?_ ?_<;>intro h26
  ·obtain⟨B,hvb⟩:∃B:Int,PP 174 [] [g.g,.agg (F4.a false Y2),.li now,.mClaim l] [] (.li B):=⟨_,Acn g Y2 now l hl⟩
   refine B8 Dy (hvb) ?_
   refine Bq ?_
   refine Br ?_ ?_<;>intro h39
   ·obtain⟨e1,H1⟩:=gx l B.toNat
    refine B0 H1 ?_
    refine Bu H1 ?_
    exact .ret (Eu H1 ⟨e1.ph,0,Y2.ended⟩ (by first | rfl | exact qY2))
   refine Bp<|.R ?_
   exact .ret (Eu Dy Y2 (by first | rfl | exact qY2))
  refine Bp<|.R ?_
  exact .ret (Eu Dy Y2 (by first | rfl | exact qY2))
 refine Bp<|.seq<|.R ?_
 refine Br ?_ ?_<;>intro h26
 ·obtain⟨B,hvb⟩:∃B:Int,PP 174 [] [g.g,.agg (F4.a false s),.li now,.mClaim l] [] (.li B):=⟨_,Acn g s now l hl⟩
  refine B8 Dy (hvb) ?_
  refine Bq ?_
  refine Br ?_ ?_<;>intro h39
  ·obtain⟨e2,H2⟩:=gx l B.toNat
   refine B0 H2 ?_
   refine Bu H2 ?_
   exact .ret (Eu H2 ⟨e2.ph,0,s.ended⟩ (by rfl))
  refine Bp<|.R ?_
  exact .ret (Eu Dy s (by rfl))
 refine Bp<|.R ?_
 exact .ret (Eu Dy s (by rfl))
def Ox:F4:=(Eo (Ol g s l now h hl)).choose
theorem Abp:PP 152 [] [g.g,s.g,.mClaim l,.li now] [] (.agg ((Ox g s l now h hl).a false)):=(Eo (Ol g s l now h hl)).choose_spec.1
theorem Aby:(Ox g s l now h hl).ended.length=s.ended.length:=(Eo (Ol g s l now h hl)).choose_spec.2
end
section
variable (g:E6) (j:Gc) (s:Ij) (v:F4) (l:List Fa) (k:Int) (now:Int) (hj8:j.phs.length<=8) (hcM:j.con.length<=1000000) (h1:s.ctl.lights.length<=8) (h2:s.ctl.nxt.length<=2) (h3:v.ended.length<=1000000) (hl:l.length<=1000000)
include g k now hj8 hcM h1 h2 h3 hl
theorem Ue:Ct 127 [g.g,j.g,s.g,v.g,.mClaim l,.li k,.li now] (fun d:Ij×F4=>.tup [d.1.g,d.2.g]) (fun d=>d.1.ctl.lights.length<=8/\d.1.ctl.nxt.length<=2/\d.2.ended.length=v.ended.length):=by
 refine Ev Tryz.func127 ?_
 have h1M:s.ctl.lights.length<=1000000:=by omega
 have h2M:s.ctl.nxt.length<=1000000:=by omega
 have hqv:=Aby g v l now h3 hl
 have hvv:=Abp g v l now h3 hl
 generalize Ox g v l now h3 hl=D at hqv hvv
 have hDM:D.ended.length<=1000000:=by omega
 refine Bq<|.seq ?_
 refine Bq ?_
 refine Br ?_ ?_<;>intro h19
 ·refine Cw (fun K kk=>by simp[go_sem];refine .l (P1 s h1M h2M) ?_;simp[go_sem];refine .l (Yh v now h3) ?_;simp[go_sem];exact kk) ?_
  refine Bz (Fl ?_);simp[go_sem]
  exact⟨(s,(O9 v now h3)),by rfl,⟨h1,h2,Ym v now h3⟩⟩
 refine Bp<|.S (fun K kk=>by simp[go_sem];refine .l (hvv) ?_;simp[go_sem];exact kk) ?_
 have hqs:=Ad7 j s D.ph k hj8 hcM h1 h2
 have hvs:=Adu j s D.ph k hj8 hcM h1 h2
 generalize Mb j s D.ph k hj8 hcM h1 h2=G at hqs hvs
 refine B3 (fun K kk=>by simp[go_sem];refine .l (hvs) ?_;simp[go_sem];exact kk)<|.seq ?_
 refine Bq ?_
 refine Br ?_ ?_<;>intro h37
 ·refine Cw (fun K kk=>by simp[go_sem];refine .l (Yh D now hDM) ?_;simp[go_sem];exact kk) ?_
  refine Bz (Fl ?_);simp[go_sem]
  exact⟨(G,(O9 D now hDM)),by rfl,⟨hqs.1,hqs.2,(Ym D now hDM).trans hqv⟩⟩
 refine Bp<|.R ?_
 by_cases hc8:0<=D.ph/\D.ph<G.ctl.lights.length
 ·have hg1:(0:Int)<=D.ph:=hc8.1
  have hg2:D.ph<(G.ctl.lights.length:Int):=hc8.2
  obtain⟨e1,H1⟩:=gx G.ctl.lights D.ph.toNat
  refine B3 (fun K kk=>by simp[go_sem,hg1,hg2,H1];repeat first | exact kk | refine aK ?_) ?_
  refine Cw (fun K kk=>by simp[go_sem,hg1,hg2,H1];refine .lo (Vr D _ hDM) rfl (by simp[AV.cln,Ff]) ?_;simp[go_sem,hg1,hg2,H1];exact kk) ?_
  refine Bz (Fl ?_);simp[go_sem,hg1,hg2,H1]
  exact⟨(G,(Mc D _ hDM)),by rfl,⟨hqs.1,hqs.2,by rw[Vt];exact hqv⟩⟩
 have hgf:(decide ((0:Int)<=D.ph)&&decide (D.ph<(G.ctl.lights.length:Int)))=false:=by simpa using hc8
 refine B3 (fun K kk=>by simp[go_sem,hgf];repeat first | exact kk | refine aK ?_) ?_
 refine Cw (fun K kk=>by simp[go_sem,hgf];refine .lo (Vr D _ hDM) rfl (by simp[AV.cln,Ff]) ?_;simp[go_sem,hgf];exact kk) ?_
 refine Bz (Fl ?_);simp[go_sem,hgf]
 exact⟨(G,(Mc D _ hDM)),by rfl,⟨hqs.1,hqs.2,by rw[Vt];exact hqv⟩⟩
def Ld:Ij×F4:=(Eo (Ue g j s v l k now hj8 hcM h1 h2 h3 hl)).choose
theorem Aj3:PP 127 [] [g.g,j.g,s.g,v.g,.mClaim l,.li k,.li now] [] (.tup [.agg ((Ld g j s v l k now hj8 hcM h1 h2 h3 hl).1.a false),.agg ((Ld g j s v l k now hj8 hcM h1 h2 h3 hl).2.a false)]):=(Eo (Ue g j s v l k now hj8 hcM h1 h2 h3 hl)).choose_spec.1
theorem Akr:(Ld g j s v l k now hj8 hcM h1 h2 h3 hl).1.ctl.lights.length<=8/\(Ld g j s v l k now hj8 hcM h1 h2 h3 hl).1.ctl.nxt.length<=2/\(Ld g j s v l k now hj8 hcM h1 h2 h3 hl).2.ended.length=v.ended.length:=(Eo (Ue g j s v l k now hj8 hcM h1 h2 h3 hl)).choose_spec.2
end
section
variable {l:List Int}
theorem By.drop (h:By l) (n:Nat):By (l.drop n):=fun x hx=>h x (Ay hx)
theorem By.take (h:By l) (n:Nat):By (l.take n):=fun x hx=>h x (Aq hx)
variable {b:List Int}
theorem U5 (hb:By b) (h:(Ez b).2.2=true):1<=(Ez b).2.1/\(Ez b).2.1<=b.length:=by
 unfold Ez at h ⊢
 split
 ·simp at h
 ·split<;>simp_all
 rename_i b0 b1 r
 split
 ·simp;omega
 rename_i h1
 simp only[h1,if_false] at h
 split
 ·rename_i b2 b3 b4 b5 r
  simp only at h ⊢
  have h4:=hb b4 (by simp)
  have h5:=hb b5 (by simp)
  by_cases hn:200<b4*256+b5
  ·simp[hn];omega
  rw[if_neg hn] at h ⊢
  by_cases hl:(r.length:Int)<b4*256+b5+4
  ·rw[if_pos hl] at h;simp at h
  rw[if_neg hl] at h ⊢
  repeat' split
  all_goals simp
  all_goals omega
 simp at h
def U2 (b:List Int):List Int:=b.drop (Ez b).2.1.toNat
def Ig (b:List Int):Nat->List Int
 | 0=>b
 | k+1=>U2 (Ig b k)
def Af1:Nat->List Int->List (E7×Int)
 | 0,_=>[]
 | n+1,b=>if (Ez b).2.2 then ((Ez b).1,(Ez b).2.1)::Af1 n (U2 b) else []
def J1 (b:List Int):List (E7×Int):=Af1 b.length b
def Tt (b:List Int):Nat->Int
 | 0=>0
 | k+1=>Tt b k+(Ez (Ig b k)).2.1
theorem W8 (b:List Int):∀k,Ig (U2 b) k=Ig b (k+1)
 | 0=>rfl
 | k+1=>by rw[Ig,W8 b k];rfl
theorem Xu {b:List Int} (h:By b):∀k,By (Ig b k)
 | 0=>h
 | k+1=>(Xu h k).drop _
theorem Tu:∀(n:Nat) (b:List Int) (k:Nat) (x:E7×Int),(Af1 n b)[k]? = some x->(Ez (Ig b k)).2.2=true/\x=((Ez (Ig b k)).1,(Ez (Ig b k)).2.1)
 | 0,b,k,x,h=>by simp[Af1] at h
 | n+1,b,k,x,h=>by
  unfold Af1 at h
  split at h
  ·rename_i hp
   cases k with
   | zero=>simp at h;exact⟨hp,h.symm⟩
   | succ k =>
    simp at h
    have:=Tu n (U2 b) k x h
    rwa[W8] at this
  simp at h
theorem Zk {b:List Int} (hb:By b):∀(k:Nat),(∀j,j<k->(Ez (Ig b j)).2.2=true)->Tt b k+(Ig b k).length=b.length/\(k:Int)<=Tt b k
 | 0,_=>by simp[Tt,Ig]
 | k+1,h=>by
  obtain⟨h1,h2⟩:=Zk hb k fun j hj=>h j (by omega)
  have h3:=U5 (Xu hb k) (h k (by omega))
  simp only[Tt,Ig,U2,Bc]
  omega
theorem Anb:∀(n:Nat) (b:List Int),By b->b.length<=n->(Ez (Ig b (Af1 n b).length)).2.2=false
 | 0,b,_,h=>by
  have:b=[]:=List.eq_nil_of_length_eq_zero (by omega)
  subst this;rfl
 | n+1,b,hb,h=>by
  unfold Af1
  split
  ·rename_i hp
   have h3:=U5 hb hp
   have:=Anb n (U2 b) (hb.drop _) (by simp only[U2,Bc];omega)
   rw[W8] at this
   simpa using this
  rename_i hp
  simpa[Ig] using hp
variable {k:Nat}
theorem Af2 (h:k<(J1 b).length):(Ez (Ig b k)).2.2=true:=(Tu _ _ _ _ (Aa h)).1
theorem Asc (hb:By b):(Ez (Ig b (J1 b).length)).2.2=false:=Anb _ _ hb (Aj _)
theorem Ts (hb:By b) (h:k<=(J1 b).length):0<=Tt b k/\Tt b k<=b.length/\(k:Int)<=b.length:=by
 have:=Zk hb k fun j hj=>Af2 (by omega)
 omega
theorem Abz (hb:By b) (h:k<=(J1 b).length):(Ig b k).length<=b.length:=by
 have:=Zk hb k fun j hj=>Af2 (by omega)
 omega
theorem Acq (b:List Int) (hl:b.length<=1000000) (hb:By b):Ys Tryz.prog 139 [.iptr false [.sl 1 (tY b)] 0] ((J1 b).map fun a=>[a.1.g,.li a.2]):=by
 refine Aeq Tryz.func139 rfl rfl rfl (by simp[Tryz.ntmps139]) rfl fun yl=>?_
 refine Ca (by rfl) fun K1 hK1=>?_
 simp[go_sem]
 refine hK1 _ ?_;clear hK1
 refine Cy ?_
 refine Dp (J1 b).length (fun k=>⟨[(0,.lit (.func (.yield yl) #[] #[])),(3,.mY (Ig b k))],[]⟩) (fun k=>k)
  (fun k=>True) (wQ [] ?_ ?_) ⟨rfl,rfl,trivial⟩ fun k hk _=>?_
 ·simp[go_sem,Ig]
 ·simp[go_sem]
 have hr:=Abz hb hk
 refine Cy ?_
 refine Ca (by rfl) fun K1 hK1=>?_
 simp[go_sem]
 refine .l (Ahn (Ig b k) (by omega) (Xu hb k)) ?_
 simp[go_sem]
 refine hK1 _ ?_;clear hK1
 refine C3 ?_
 refine C3 (Dt ?_)
 refine U9.first 6 (by rfl) fun K1 hK1=>?_
 by_cases hlt:k<(J1 b).length
 ·have hok:=Af2 hlt
  have hit:(J1 b)[k]? = some ((Ez (Ig b k)).1,(Ez (Ig b k)).2.1):=by
   have h1:=Aa hlt
   rw[h1,(Tu _ _ _ _ h1).2]
  have hsz:=U5 (Xu hb k) hok
  simp[go_sem,hok]
  refine hK1 _ ?_;clear hK1
  refine U9.yield (vs:=[.agg ((Ez (Ig b k)).1.a false),.lit (.int .i64 (Ez (Ig b k)).2.1)]) (by simp[go_sem]) (by simp[go_sem]) (by decide) (by simp[go_sem]) (by simp[go_sem]) (by simp[go_sem]) (by simp[hit]) (by simp[go_sem]) rfl fun c=>?_
  refine U9.rest (by rfl) fun K1 hK1=>?_
  cases c with
  | true =>
   simp[go_sem]
   refine hK1 _ ?_;clear hK1
   refine C5 (by simp[go_sem]) (by simp[go_sem]) (fun h17=>?_) (fun h17=>?_)<;>simp[go_sem] at h17
   exact VI.ret ⟨.inr rfl,fun h=>by cases h⟩
  | false =>
   simp[go_sem]
   refine hK1 _ ?_;clear hK1
   refine C5 (by simp[go_sem]) (by simp[go_sem]) (fun h17=>?_) (fun h17=>?_)<;>simp[go_sem] at h17
   refine De ?_
   refine Cs (by rfl) fun K1 hK1=>?_
   simp[go_sem]
   repeat' with_reducible refine Ax ?_ ?_
   all_goals try (intros;(repeat' refine Ax ?_ ?_)<;>omega)
   refine hK1 _ ?_;clear hK1
   refine⟨hlt,rfl,rfl,trivial,wQ [] ?_ ?_⟩
   ·simp[go_sem,Ig,U2]
   simp[go_sem]
 have he:k=(J1 b).length:=by omega
 have hno:=Asc hb
 rw[<- he] at hno
 simp[go_sem,hno]
 refine hK1 _ ?_;clear hK1
 refine U9.noyield (d:=20) rfl (by simp[go_sem]) (by simp[go_sem]) (by decide) ?_
 refine U9.rest (by rfl) fun K1 hK1=>?_
 simp[go_sem]
 refine hK1 _ ?_;clear hK1
 refine C5 (by simp[go_sem]) (by simp[go_sem]) (fun h17=>?_) (fun h17=>?_)<;>simp[go_sem] at h17
 exact VI.ret ⟨.inr rfl,fun _=>by simp[he]⟩
theorem Vk (b:List Int):PP 104 [] [.mY b] [] (.fn 139 [.iptr false [.sl 1 (tY b)] 0]):=by
 refine E4.boxes (σr:=[.box 44 [.mY b]]) (res:=.fn 139 [.ptr 0 0]) ?_ (by simp[go_sem,St.o])
 refine El Tryz.func104 ?_
 iterate 2 refine Bw ?_
 exact .ret (rW Dy [0])
end
end Go.Proofs.YtkkimgjinbaemaaGreat
