/- The walk. -/
import Derived.Test.YtkkimgjinbaemaaGreatKam
noncomputable section
namespace Go.Proofs.YtkkimgjinbaemaaGreat
open Go.RowKit
set_option linter.unusedVariables false
set_option linter.unusedSimpArgs false
set_option linter.defProp false
set_option linter.unusedSectionVars false
set_option maxRecDepth 100000
set_option maxHeartbeats 4000000
theorem Sl (k:Int) (p:List Int) (h:p.length<=10000):∃d:List Int×Int,PP 68 [] [.li k,.mY p] [.row 5 1 false false (tY d.1)] (.tup [.own 0 d.1.length,.li d.2])/\(d.1.length<=210/\(By p->By d.1)/\(0<=k->k<=255->p.length<=200->d.1=Gn k p)):=by
 refine Oh (D:=List Int×Int) (F:=fun d=>.tup [.own 0 d.1.length,.li d.2]) (S:=fun d=>[.row 5 1 false false (tY d.1)]) (Q:=fun d=>d.1.length<=210/\(By p->By d.1)/\(0<=k->k<=255->p.length<=200->d.1=Gn k p)) Tryz.func68 rfl rfl rfl (by simp[Tryz.ntmps68]) ?_
 have h7:(6+(p.length:Int)).toNat - 2=p.length+4:=by omega
 refine Bq<|.seq<|.block ?_
 refine Bq ?_
 refine Br ?_ ?_<;>intro h9
 ·refine Bq ?_
  refine Cg 4 5 1 (by decide) (k':=1) (by simp[go_sem]) ?_
  simp[go_sem,-Prod.exists]
  exact .ret ⟨([],8),rW Dz [0],⟨Ae _,fun _=>Qz,fun _ _ _=>by omega⟩⟩
 refine Bq ?_
 refine Br ?_ ?_<;>intro h16
 ·refine Bq ?_
  refine Cg 4 5 1 (by decide) (k':=1) (by simp[go_sem]) ?_
  simp[go_sem,-Prod.exists]
  exact .ret ⟨([],7),rW Dz [0],⟨Ae _,fun _=>Qz,fun _ _ _=>by omega⟩⟩
 refine Bp<|.R ?_
 refine Bt Dz ?_
 obtain⟨B,hBe⟩:∃B,B=(([90,165,1,IntKind.u8.wrap k,IntKind.u8.wrap (Int.fdiv p.length (2 ^ min (Int.toNat 8) 64)),IntKind.u8.wrap p.length])++p):=⟨_,rfl⟩
 have hB:B.length=6+p.length:=by rw[hBe];simp;omega
 have hBy:By p->By B:=fun h=>by rw[hBe];exact By.app (fun x hx=>by simp at hx;rcases hx with rfl | rfl | rfl | rfl | rfl | rfl<;>first | exact Rt _ | omega) h
 refine VX.rowIs 0 (tY B) rfl (by simp[go_sem,hBe]) ?_
 simp[go_sem,-Prod.exists]
 obtain⟨Y1,cY1,qY1⟩:=Ep (Ug (B.drop 2) (by simp;omega))
 refine B3 (fun K kk=>by simp[go_sem,hB];(repeat refine aK ?_);refine .lo cY1 (by simp[go_sem,hB,h7];rw[Bf (by simp;omega)]) (by simp[AV.cln,Fu]) ?_;simp[go_sem,hB];exact kk) ?_
 refine Bt hB ?_
 exact .ret ⟨(B++([IntKind.u8.wrap (Int.fdiv Y1 (2 ^ min (Int.toNat 24) 32)),IntKind.u8.wrap (Int.fdiv Y1 (2 ^ min (Int.toNat 16) 32)),IntKind.u8.wrap (Int.fdiv Y1 (2 ^ min (Int.toNat 8) 32)),IntKind.u8.wrap Y1]),0),rW hB [0],⟨by simp;omega,fun h=>(hBy h).app (fun x hx=>by simp at hx;rcases hx with rfl | rfl | rfl | rfl<;>exact Rt _),fun _ _ _=>by rw[qY1,hBe];unfold Gn Im J5;simp⟩⟩
section
variable (m:Ea) (h1:m.tok.length<=10000) (h2:m.args.length<=10000) (h3:m.data.length<=10000)
include h1 h2 h3
theorem Sk:∃d:List Int×Int,PP 46 [] [m.g] [.row 5 1 false false (tY d.1)] (.tup [.own 0 d.1.length,.li d.2])/\(d.1.length<=210/\(By m.tok->By m.data->By d.1)/\FrQ m d.1):=by
 refine Oh (D:=List Int×Int) (F:=fun d=>.tup [.own 0 d.1.length,.li d.2]) (S:=fun d=>[.row 5 1 false false (tY d.1)]) (Q:=fun d=>d.1.length<=210/\(By m.tok->By m.data->By d.1)/\FrQ m d.1) Tryz.func46 rfl rfl rfl (by simp[Tryz.ntmps46]) ?_
 obtain⟨Y1,cY1,qY1⟩:=Ep (Rm m h1 h2 h3)
 have hq:=qY1
 have hq2:Y1.1.length<=10000:=by omega
 obtain⟨Y2,cY2,qY2⟩:=Sl m.kind Y1.1 hq2
 have hXv:=cY2
 have hXq:=qY2
 generalize Y2=X at hXv hXq
 refine Bq ?_
 refine B8 Dz cY1<|.seq ?_
 refine Bq ?_
 refine Br ?_ ?_<;>intro h12
 ·refine Bq ?_
  refine Cg 2 5 1 (by decide) (k':=1) (by simp[go_sem]) ?_
  simp[go_sem,-Prod.exists]
  exact .ret ⟨([],Y1.2),rW Dz [1],⟨Ae _,fun _ _=>Qz,fun _ _ _ _ _=>.inl rfl⟩⟩
 refine Bp<|.L Dz (hXv) ?_
 exact .ret ⟨(X.1,X.2),rW Dz [1],⟨hXq.1,fun a b=>hXq.2.1 (hq.2.1 a b),fun s hs hv hl ho=>by have hb:=X4 hs;rw[hXq.2.2 (by omega) (by omega) (by omega),qY1.2.2 (by omega),(K8 m h1 h2 h3).2.2 s hs hv hl ho];exact .inr rfl⟩⟩
theorem Me:∃d:List Int,PP 18 [] [m.g] [.row 5 1 false false (tY d)] (.own 0 d.length)/\(d.length<=210/\(By m.tok->By m.data->By d)/\FrQ m d):=by
 refine Oh (D:=List Int) (F:=fun d=>.own 0 d.length) (S:=fun d=>[.row 5 1 false false (tY d)]) (Q:=fun d=>d.length<=210/\(By m.tok->By m.data->By d)/\FrQ m d) Tryz.func18 rfl rfl rfl (by simp[Tryz.ntmps18]) ?_
 obtain⟨Y1,cY1,qY1⟩:=Sk m h1 h2 h3
 have hXv:=cY1
 have hXq:=qY1
 generalize Y1=X at hXv hXq
 refine Bq ?_
 refine B8 Dz (hXv) ?_
 refine Bq ?_
 exact .ret ⟨X.1,rW Dz [1],hXq⟩
end
theorem Px (k:E6) (n:Int) (h:k.l.length<=300) (h0:0<=k.pos) (h1:0<=n) (h2:n<=1000):Cx 59 [.box 84 (k.a false)] [.ptr 0 0,.li n] (fun d:List Int×E6=>[.box 84 (d.2.a false),.row 5 1 false false (tY d.1)]) (fun d=>.own 1 d.1.length) (fun d=>d.2.l=k.l/\(0<=d.2.pos/\k.pos<=d.2.pos)/\d.1.length<=n.toNat/\By d.1):=by
 refine U3 Tryz.func59 ?_
 refine Bq ?_
 refine Bq<|.seq ?_
 obtain⟨N1,hN1,hq1⟩:=Dw k (n+1) h h0 (by omega) (by omega)
 have hw1:=Dx (n+1:Int)
 refine Dc hw1 [0] hN1<|.block ?_
 refine Cg 5 5 1 (by decide) (k':=1) (by simp[go_sem]) ?_
 simp[go_sem,-Prod.exists]
 refine Cj (fun (y1:(List Int)×Int×(List Int)×Int)=>⟨[(0,.ptr 0 0),(5,.own 1 y1.2.2.1.length),(6,.li y1.2.2.2)],[.box 84 [.mI y1.1,.li y1.2.1],.row 5 1 false false (tY y1.2.2.1)]⟩) (fun y1=>y1.1=k.l/\k.pos<=y1.2.1/\y1.2.2.1.length+y1.2.2.2<=n/\0<=y1.2.2.2/\By y1.2.2.1) (fun y1=>y1.2.2.2.toNat) (N1.2.l,N1.2.pos,[],N1.1) (wk hw1 [0,1]) (⟨hq1.1,hq1.2.1.1,by simp;omega,hq1.2.2.1,Qz⟩) fun y1 hy1=>?_
 refine Ca<|.H hw1 ?_
 refine Br ?_ ?_<;>intro h12
 ·refine Bp<|.seq<|.block ?_
  obtain⟨N2,hN2,hq2⟩:=Dw ⟨y1.1,y1.2.1⟩ 256 (by show y1.1.length<=300;rw[hy1.1];exact h) (by show 0<=y1.2.1;omega) (by omega) (by omega)
  dsimp only at hq2
  refine C8 hw1 [0] hN2 ?_
  have hw2:=Dx (y1.2.2.2 - 1:Int)
  refine B0 (Fa hw1 hw2) ?_
  refine⟨(N2.2.l,N2.2.pos,y1.2.2.1++([IntKind.u8.wrap N2.1]),(y1.2.2.2 - 1)),?_,?_,wQ [0,1] ?_ ?_⟩
  ·dsimp only;omega
  ·exact⟨hq2.1.trans hy1.1,by dsimp only;omega,by simp;omega,by dsimp only;omega,hy1.2.2.2.2.app (Yf _)⟩
  all_goals simp[go_sem,hw1,hw2]
 refine Bu<|.H hw1 ?_
 exact .ret ⟨(y1.2.2.1,⟨y1.1,y1.2.1⟩),rW hw1 [0,1],⟨hy1.1,⟨by have:=hy1.2.1;dsimp only;omega,hy1.2.1⟩,by dsimp only;omega,hy1.2.2.2.2⟩⟩
def Sm (l:List Int):Prop:=∀a∈l,0<=a/\a<90
theorem Sm.app {a b:List Int} (ha:Sm a) (hb:Sm b):Sm (a++b):=fun x hx=>(A0.1 hx).elim (ha x) (hb x)
theorem Oz (k:E6) (c:E5) (l:List Int) (h:k.l.length<=300) (h0:0<=k.pos) (hj:1<=c.juns.length/\c.juns.length<=2) (hp:∀j∈c.juns,j.phs.length<=8/\1<=j.phs.length) (hl:l.length<=1000):Cx 45 [.box 84 [.mI k.l,.li k.pos],.row 3 1 true false (tI l)] [.ptr 0 0,c.g,.own 1 l.length] (fun d:List Int×E6=>[.box 84 (d.2.a false),.row 3 1 false false (tI d.1)]) (fun d=>.own 1 d.1.length) (fun d=>d.2.l=k.l/\0<=d.2.pos/\d.1.length<=l.length+8/\k.pos<=d.2.pos/\(d.1.length=l.length+4\/d.1.length=l.length+8)/\(Sm l->Sm d.1)):=by
 refine U3 Tryz.func45 ?_
 refine Cw 1 rfl ?_
 simp[go_sem,-Prod.exists]
 refine Bq ?_
 obtain⟨D1,hD1,hd1⟩:=Dw k 2 (by assumption) (by assumption) (by omega) (by omega)
 have hl1:D1.2.l.length<=300:=by rw[hd1.1];assumption
 have hp1:0<=D1.2.pos:=by omega
 have hw1:=Dx (1+D1.1)
 refine Dc hw1 [0] hD1<|.seq ?_
 refine Bq<|.block ?_
 refine Bs ((1+D1.1).toNat) (fun i1 (y1:(List Int)×Int×(List Int))=>⟨[(0,.ptr 0 0),(2,.own 1 y1.2.2.length),(4,.ptr 2 0),(15,.li (1+D1.1)),(16,.li i1)],[.box 84 [.mI y1.1,.li y1.2.1],.row 3 1 false false (tI y1.2.2),.box 30 (c.a false)]⟩) (fun i1 y1=>y1.1=k.l/\(0<=y1.2.1/\k.pos<=y1.2.1)/\y1.2.2.length=l.length+4*i1/\(Sm l->Sm y1.2.2)) (D1.2.l,D1.2.pos,l) (wk Dz [0,1,2]) (⟨hd1.1,⟨hp1,hd1.2.1.1⟩,by simp,fun h=>h⟩) fun i1 y1 hi1 hy1=>?_
 refine Bq<|.seq ?_
 refine Br ?_ ?_<;>intro h17
 ·refine Bp<|.seq<|.block<|.R ?_
  have hyl:(⟨y1.1,y1.2.1⟩:E6).l.length<=300:=by show y1.1.length<=300;rw[hy1.1];exact h
  have hyp:0<=(⟨y1.1,y1.2.1⟩:E6).pos:=hy1.2.1.1
  obtain⟨D2,hD2,hd2⟩:=Dw ⟨y1.1,y1.2.1⟩ 3 (by assumption) (by assumption) (by omega) (by omega)
  have hl2:D2.2.l.length<=300:=by rw[hd2.1];assumption
  have hp2:0<=D2.2.pos:=by omega
  obtain⟨D3,hD3,hd3⟩:=Dw D2.2 12 (by assumption) (by assumption) (by omega) (by omega)
  have hl3:D3.2.l.length<=300:=by rw[hd3.1];assumption
  have hp3:0<=D3.2.pos:=by omega
  have hE:0<=Int.tdiv D3.1 11/\Int.tdiv D3.1 11<=1:=by rw[Int.tdiv_eq_ediv_of_nonneg (by omega)];omega
  have hq1:=Dx (D2.1+i1)
  have hq2:=Dx (Int.tdiv D3.1 11)
  have hq3:=Dx ((c.juns.length:Int)+Int.tdiv D3.1 11)
  obtain⟨JJ,hJJ⟩:∃JJ,Int.tmod (D2.1+i1) (if 1<(c.juns.length:Int)+Int.tdiv D3.1 11 then (c.juns.length:Int)+Int.tdiv D3.1 11 else 1)=JJ:=⟨_,rfl⟩
  have hJ0:0<=JJ:=by rw[<- hJJ];exact Int.tmod_nonneg _ (by omega)
  have hJ1:JJ<90:=by rw[<- hJJ];split<;>exact Int.lt_of_lt_of_le (Int.tmod_lt_of_pos _ (by omega)) (by omega)
  refine Dh (by kernel_rfl) (by rfl) (by kernel_rfl) fun K1 hK1=>?_
  simp[go_sem,hq1,hq2,hq3,hJJ]
  refine .o [0] (hD2) ?_
  simp[go_sem,hq1,hq2,hq3,hJJ]
  refine .o [0] (hD3) ?_
  simp[go_sem,hq1,hq2,hq3,hJJ]
  repeat' with_reducible refine Ax ?_ ?_
  all_goals try (intros;(repeat' refine Ax ?_ ?_)<;>omega)
  all_goals try (split<;>omega)
  refine hK1 _ _ (by kernel_rfl) ?_;clear hK1
  refine Bq<|.seq ?_
  refine Bq ?_
  refine Br ?_ ?_<;>intro h36
  ·obtain⟨e1,H1⟩:=gx c.juns JJ.toNat
   refine B0 H1 ?_
   obtain⟨D4,hD4,hd4⟩:=Dw D3.2 3 (by assumption) (by assumption) (by omega) (by omega)
   have hl4:D4.2.l.length<=300:=by rw[hd4.1];assumption
   have hp4:0<=D4.2.pos:=by omega
   refine Dc H1 [0] hD4 ?_
   obtain⟨D5,hD5,hd5⟩:=Dw D4.2 12 (by assumption) (by assumption) (by omega) (by omega)
   have hl5:D5.2.l.length<=300:=by rw[hd5.1];assumption
   have hp5:0<=D5.2.pos:=by omega
   have hF:0<=Int.tdiv D5.1 11/\Int.tdiv D5.1 11<=1:=by rw[Int.tdiv_eq_ediv_of_nonneg (by omega)];omega
   have hq4:=Dx (Int.tdiv D5.1 11)
   have hpb:1<=(e1.phs.length:Int)/\(e1.phs.length:Int)<=8:=by (have:=hp e1 (Ac H1);omega)
   obtain⟨PN,hPN⟩:∃PN,((e1.phs.length:Int)+Int.tdiv D5.1 11)=PN:=⟨_,rfl⟩
   have hq5:=Dx PN
   obtain⟨D6,hD6,hd6⟩:=Dw D5.2 PN (by assumption) (by assumption) (by omega) (by omega)
   have hl6:D6.2.l.length<=300:=by rw[hd6.1];assumption
   have hp6:0<=D6.2.pos:=by omega
   obtain⟨D7,hD7,hd7⟩:=Dw D6.2 50 (by assumption) (by assumption) (by omega) (by omega)
   have hl7:D7.2.l.length<=300:=by rw[hd7.1];assumption
   have hp7:0<=D7.2.pos:=by omega
   have hq6:=Dx (D4.1+D7.1)
   refine Ck (fun K kk=>by simp[go_sem,H1,hq4,hq5,hPN,hq6];refine .o [0] (hD5) ?_;simp[go_sem,H1,hq4,hq5,hPN,hq6];(repeat refine aK ?_);refine .o [0] (hD6) ?_;simp[go_sem,H1,hq4,hq5,hPN,hq6];refine .o [0] (hD7) ?_;simp[go_sem,H1,hq4,hq5,hPN,hq6];(repeat first | exact kk | refine aK ?_)) ?_
   refine B0 H1 ?_
   exact⟨by omega,(D7.2.l,D7.2.pos,y1.2.2++([JJ,D6.1,D4.1,(D4.1+D7.1)])),⟨by rw[hd7.1,hd6.1,hd5.1,hd4.1,hd3.1,hd2.1];exact hy1.1,⟨hp7,by have:=hy1.2.1.2;dsimp only at *;omega⟩,by simp;omega,fun h=>(hy1.2.2.2 h).app fun x hx=>by simp at hx;rcases hx with rfl | rfl | rfl | rfl<;>constructor<;>omega⟩,wk (Fa (Dx ((i1:Int)+1)) H1) [0,1,2]⟩
  refine Bp ?_
  obtain⟨D4,hD4,hd4⟩:=Dw D3.2 3 (by assumption) (by assumption) (by omega) (by omega)
  have hl4:D4.2.l.length<=300:=by rw[hd4.1];assumption
  have hp4:0<=D4.2.pos:=by omega
  refine Dc Dz [0] hD4 ?_
  obtain⟨D5,hD5,hd5⟩:=Dw D4.2 12 (by assumption) (by assumption) (by omega) (by omega)
  have hl5:D5.2.l.length<=300:=by rw[hd5.1];assumption
  have hp5:0<=D5.2.pos:=by omega
  have hF:0<=Int.tdiv D5.1 11/\Int.tdiv D5.1 11<=1:=by rw[Int.tdiv_eq_ediv_of_nonneg (by omega)];omega
  have hq4:=Dx (Int.tdiv D5.1 11)
  have hpb:1<=(2:Int)/\(2:Int)<=8:=by first | (have:=hp e1 (Ac H1);omega) | omega
  obtain⟨PN,hPN⟩:∃PN,((2:Int)+Int.tdiv D5.1 11)=PN:=⟨_,rfl⟩
  have hq5:=Dx PN
  obtain⟨D6,hD6,hd6⟩:=Dw D5.2 PN (by assumption) (by assumption) (by omega) (by omega)
  have hl6:D6.2.l.length<=300:=by rw[hd6.1];assumption
  have hp6:0<=D6.2.pos:=by omega
  obtain⟨D7,hD7,hd7⟩:=Dw D6.2 50 (by assumption) (by assumption) (by omega) (by omega)
  have hl7:D7.2.l.length<=300:=by rw[hd7.1];assumption
  have hp7:0<=D7.2.pos:=by omega
  have hq6:=Dx (D4.1+D7.1)
  refine Ck (fun K kk=>by simp[go_sem,hq4,hq5,hPN,hq6];refine .o [0] (hD5) ?_;simp[go_sem,hq4,hq5,hPN,hq6];(repeat refine aK ?_);refine .o [0] (hD6) ?_;simp[go_sem,hq4,hq5,hPN,hq6];refine .o [0] (hD7) ?_;simp[go_sem,hq4,hq5,hPN,hq6];(repeat first | exact kk | refine aK ?_)) ?_
  refine Ci ?_
  exact⟨by omega,(D7.2.l,D7.2.pos,y1.2.2++([JJ,D6.1,D4.1,(D4.1+D7.1)])),⟨by rw[hd7.1,hd6.1,hd5.1,hd4.1,hd3.1,hd2.1];exact hy1.1,⟨hp7,by have:=hy1.2.1.2;dsimp only at *;omega⟩,by simp;omega,fun h=>(hy1.2.2.2 h).app fun x hx=>by simp at hx;rcases hx with rfl | rfl | rfl | rfl<;>constructor<;>omega⟩,wk (Dx ((i1:Int)+1)) [0,1,2]⟩
 refine Bu<|.R ?_
 exact .ret ⟨(y1.2.2,⟨y1.1,y1.2.1⟩),rW Dz [0,1],⟨hy1.1,hy1.2.1.1,by dsimp only;omega,hy1.2.1.2,by dsimp only;omega,hy1.2.2.2⟩⟩
def MkQ (m:Ea):Prop:=m.tok.length=10/\By m.tok/\m.args.length<=20/\m.data=[]
theorem An4 {a s:Int} {n:Int} {h:(Eb n).length<=1000}:(En a s (Eb n) h).length=10/\By (En a s (Eb n) h):=by
 have h1:=L5 a s (Eb n) h
 have h2:=Hy n
 exact⟨by rw[h1.1,h2.1],h1.2.1 h2.2.1⟩
theorem Aqo {l:List Int} {i:Nat} {e:Int} (h:l[i]? = some e):(l.map fun x=>[T.lit (Value.int IntKind.i64 x)])[i]? = some [T.lit (Value.int IntKind.i64 e)]:=by rw[Ap,h];rfl
theorem Aoe (n:Int):(Eb n).length<=1000:=by rw[(Hy n).1];decide
theorem Hg (k:E6) (c:E5) (ag:Int) (cal:Bool) (h:k.l.length<=300) (h0:0<=k.pos) (hj:1<=c.juns.length/\c.juns.length<=2) (hp:∀j∈c.juns,j.phs.length<=8/\1<=j.phs.length):Cx 17 [.box 84 (k.a false)] [.ptr 0 0,c.g,.li ag,.lb cal] (fun d:Ea×E6=>[.box 84 (d.2.a false)]) (fun d=>d.1.g) (fun d=>d.2.l=k.l/\(0<=d.2.pos/\Th k.pos k.l (if cal=true then 5 else 4) d.2.pos/\(0<=ag->ag<=2->MkX d.1))/\MkQ d.1):=by
 refine U3 Tryz.func17 ?_
 refine Bq ?_
 obtain⟨D1,hD1,hd1⟩:=Dw k 12 (by assumption) (by assumption) (by omega) (by omega)
 have hl1:D1.2.l.length<=300:=by rw[hd1.1];assumption
 have hp1:0<=D1.2.pos:=by omega
 have hw1:=Dx (1+D1.1)
 refine B3 (fun K kk=>by simp[go_sem,hw1];refine .o [0] (hD1) ?_;simp[go_sem,hw1];refine .l (Ge (IntKind.i64.wrap (1000+ag))) ?_;simp[go_sem,hw1];refine .lo (Hx ag 0 (Eb (IntKind.i64.wrap (1000+ag))) (Aoe _)) rfl (by simp[AV.cln,Fu]) ?_;simp[go_sem,hw1];exact kk) ?_
 refine Dp (fun s=>∃(DL1:List Int) (DP1:Int) (TK:List Int),(DL1=k.l/\(0<=DP1/\Th k.pos k.l 2 DP1)/\TK.length=10/\By TK/\(0<=ag->ag<=2->TkQ TK))/\s=⟨[(0,.ptr 0 0),(3,.lb cal),(5,.ptr 1 0),(8,.ptr 2 0),(9,.ptr 3 0)],[.box 84 [.mI DL1,.li DP1],.box 30 (c.a false),.box 56 [.li 0,.nil 1,.nil 1,.nil 1],.box 56 [.li (1+D1.1),.mY TK,.nil 1,.nil 1]]⟩) ?_ ?_
 ·obtain⟨D2,hD2,hd2⟩:=Dw D1.2 9 (by assumption) (by assumption) (by omega) (by omega)
  have hl2:D2.2.l.length<=300:=by rw[hd2.1];assumption
  have hp2:0<=D2.2.pos:=by omega
  refine Dc Dz [0] hD2<|.block ?_
  refine Bq ?_
  refine Br ?_ ?_<;>intro h24
  ·obtain⟨D3,hD3,hd3⟩:=Dw D2.2 4 (by assumption) (by assumption) (by omega) (by omega)
   have hl3:D3.2.l.length<=300:=by rw[hd3.1];assumption
   have hp3:0<=D3.2.pos:=by omega
   obtain⟨D4,hD4,hd4⟩:=Dw D3.2 3 (by assumption) (by assumption) (by omega) (by omega)
   have hl4:D4.2.l.length<=300:=by rw[hd4.1];assumption
   have hp4:0<=D4.2.pos:=by omega
   refine Ck (fun K kk=>by simp[go_sem];refine .o [0] (hD3) ?_;simp[go_sem];refine .o [0] (hD4) ?_;simp[go_sem];refine .l (Ge (IntKind.i64.wrap (IntKind.i64.wrap (2000+(IntKind.i64.wrap (10*ag)))+D4.1))) ?_;simp[go_sem];refine .lo (Hx ag D3.1 (Eb (IntKind.i64.wrap (IntKind.i64.wrap (2000+(IntKind.i64.wrap (10*ag)))+D4.1))) (Aoe _)) rfl (by simp[AV.cln,Fu]) ?_;simp[go_sem];exact kk) ?_
   refine⟨[0,1,2,3],_,Es (by decide) ?_ ?_,by simp,D4.2.l,D4.2.pos,(En ag D3.1 (Eb (IntKind.i64.wrap (IntKind.i64.wrap (2000+(IntKind.i64.wrap (10*ag)))+D4.1))) (Aoe _)),⟨hd4.1.trans (hd3.1.trans (hd2.1.trans hd1.1)),⟨hp4,Th.mono ((hd1.2.1.2 k.l rfl).trans (hd2.2.1.2 k.l hd1.1)) (Int.le_trans hd3.2.1.1 hd4.2.1.1)⟩,An4.1,An4.2,fun g1 g2=>tkQ rfl ⟨by omega,by omega⟩ ⟨by omega,by omega⟩ (by rw[Dx (10*ag),Dx (2000+10*ag),Dx (2000+10*ag+D4.1)];omega)⟩,rfl⟩
   all_goals simp[go_sem]
  refine Bq ?_
  refine Br ?_ ?_<;>intro h38
  ·obtain⟨D5,hD5,hd5⟩:=Dw D2.2 3 (by assumption) (by assumption) (by omega) (by omega)
   have hl5:D5.2.l.length<=300:=by rw[hd5.1];assumption
   have hp5:0<=D5.2.pos:=by omega
   obtain⟨D6,hD6,hd6⟩:=Dw D5.2 3 (by assumption) (by assumption) (by omega) (by omega)
   have hl6:D6.2.l.length<=300:=by rw[hd6.1];assumption
   have hp6:0<=D6.2.pos:=by omega
   refine Ck (fun K kk=>by simp[go_sem];refine .o [0] (hD5) ?_;simp[go_sem];refine .o [0] (hD6) ?_;simp[go_sem];refine .l (Ge (IntKind.i64.wrap (1000+D6.1))) ?_;simp[go_sem];refine .lo (Hx D5.1 0 (Eb (IntKind.i64.wrap (1000+D6.1))) (Aoe _)) rfl (by simp[AV.cln,Fu]) ?_;simp[go_sem];exact kk) ?_
   refine⟨[0,1,2,3],_,Es (by decide) ?_ ?_,by simp,D6.2.l,D6.2.pos,(En D5.1 0 (Eb (IntKind.i64.wrap (1000+D6.1))) (Aoe _)),⟨hd6.1.trans (hd5.1.trans (hd2.1.trans hd1.1)),⟨hp6,Th.mono ((hd1.2.1.2 k.l rfl).trans (hd2.2.1.2 k.l hd1.1)) (Int.le_trans hd5.2.1.1 hd6.2.1.1)⟩,An4.1,An4.2,fun g1 g2=>tkQ rfl ⟨by omega,by omega⟩ ⟨by omega,by omega⟩ (by rw[Dx (1000+D6.1)];omega)⟩,rfl⟩
   all_goals simp[go_sem]
  refine Bp ?_
  refine⟨[0,1,2,3],_,Es (by decide) ?_ ?_,by simp,D2.2.l,D2.2.pos,(En ag 0 (Eb (IntKind.i64.wrap (1000+ag))) (Aoe _)),⟨hd2.1.trans hd1.1,⟨hp2,Th.mono ((hd1.2.1.2 k.l rfl).trans (hd2.2.1.2 k.l hd1.1)) (Int.le_refl _)⟩,An4.1,An4.2,fun g1 g2=>tkQ rfl ⟨by omega,by omega⟩ ⟨by omega,by omega⟩ (by rw[Dx (1000+ag)];omega)⟩,rfl⟩
  all_goals simp[go_sem]
 rintro _ ⟨DL1,DP1,TK,hc1,rfl⟩
 refine Dp (fun s=>∃(DL2:List Int) (DP2:Int) (KD:Int),(DL2=k.l/\0<=DP2/\Th k.pos k.l 3 DP2/\1<=KD/\KD<=12)/\s=⟨[(0,.ptr 0 0),(3,.lb cal),(5,.ptr 1 0),(8,.ptr 2 0),(9,.ptr 3 0)],[.box 84 [.mI DL2,.li DP2],.box 30 (c.a false),.box 56 [.li 0,.nil 1,.nil 1,.nil 1],.box 56 [.li KD,.mY TK,.nil 1,.nil 1]]⟩) ?_ ?_
 ·have hyl:(⟨DL1,DP1⟩:E6).l.length<=300:=by show DL1.length<=300;rw[hc1.1];exact h
  have hyp:0<=(⟨DL1,DP1⟩:E6).pos:=hc1.2.1.1
  obtain⟨D7,hD7,hd7⟩:=Dw ⟨DL1,DP1⟩ 2 (by assumption) (by assumption) (by omega) (by omega)
  have hl7:D7.2.l.length<=300:=by rw[hd7.1];assumption
  have hp7:0<=D7.2.pos:=by omega
  refine Dc Dz [0] hD7 ?_
  refine Br ?_ ?_<;>intro h50
  ·obtain⟨D8,hD8,hd8⟩:=Dw D7.2 4 (by assumption) (by assumption) (by omega) (by omega)
   have hl8:D8.2.l.length<=300:=by rw[hd8.1];assumption
   have hp8:0<=D8.2.pos:=by omega
   obtain⟨e1,H1⟩:=gx ([6,4,6,7]:List Int) D8.1.toNat
   have hxte1:[[T.lit (Value.int IntKind.i64 6)],[T.lit (Value.int IntKind.i64 4)],[T.lit (Value.int IntKind.i64 6)],[T.lit (Value.int IntKind.i64 7)]][D8.1.toNat]? = some [T.lit (Value.int IntKind.i64 e1)]:=Aqo (l:=[6,4,6,7]) H1
   refine C8 (Fa H1 hxte1) [0] hD8 ?_
   refine⟨[0,1,2,3],_,Es (by decide) ?_ ?_,by simp,D8.2.l,D8.2.pos,e1,⟨hd8.1.trans (hd7.1.trans hc1.1),hp8,Th.mono (hc1.2.1.2.trans (hd7.2.1.2 k.l hc1.1)) hd8.2.1.1,by have h9:=Ac H1;simp at h9;omega⟩,rfl⟩
   all_goals simp[go_sem,H1,hxte1]
  refine Bp ?_
  refine⟨[0,1,2,3],_,Es (by decide) ?_ ?_,by simp,D7.2.l,D7.2.pos,(1+D1.1),⟨hd7.1.trans hc1.1,hp7,hc1.2.1.2.trans (hd7.2.1.2 k.l hc1.1),by omega,by omega⟩,rfl⟩
  all_goals simp[go_sem]
 rintro _ ⟨DL2,DP2,KD,hc2,rfl⟩
 have hyl:(⟨DL2,DP2⟩:E6).l.length<=300:=by show DL2.length<=300;rw[hc2.1];exact h
 have hyp:0<=(⟨DL2,DP2⟩:E6).pos:=hc2.2.1
 obtain⟨D9,hD9,hd9⟩:=Dw ⟨DL2,DP2⟩ 4 (by assumption) (by assumption) (by omega) (by omega)
 have hl9:D9.2.l.length<=300:=by rw[hd9.1];assumption
 have hp9:0<=D9.2.pos:=by omega
 refine Dc Dz [0] hD9 ?_
 refine Dp (fun s=>∃(CL:Int) (DL3:List Int) (DP3:Int),(DL3=k.l/\0<=DP3/\Th k.pos k.l (if cal=true then 5 else 4) DP3/\0<=CL/\CL<4)/\s=⟨[(0,.ptr 0 0),(5,.ptr 1 0),(8,.ptr 2 0),(9,.ptr 3 0),(10,.li CL)],[.box 84 [.mI DL3,.li DP3],.box 30 (c.a false),.box 56 [.li 0,.nil 1,.nil 1,.nil 1],.box 56 [.li KD,.mY TK,.nil 1,.nil 1]]⟩) ?_ ?_
 ·refine Bq ?_
  refine Br ?_ ?_<;>intro h59
  ·obtain⟨D10,hD10,hd10⟩:=Dw D9.2 2 (by assumption) (by assumption) (by omega) (by omega)
   have hl10:D10.2.l.length<=300:=by rw[hd10.1];assumption
   have hp10:0<=D10.2.pos:=by omega
   refine C8 Dz [0] hD10 ?_
   refine⟨[0,1,2,3],_,Es (by decide) ?_ ?_,by simp,D10.1,D10.2.l,D10.2.pos,⟨hd10.1.trans (hd9.1.trans hc2.1),hp10,((hc2.2.2.1.trans (hd9.2.1.2 k.l hc2.1)).trans (hd10.2.1.2 k.l (hd9.1.trans hc2.1))).le (by rw[if_pos h59];decide),by omega,by omega⟩,rfl⟩
   all_goals simp[go_sem]
  refine Bp ?_
  refine⟨[0,1,2,3],_,Es (by decide) ?_ ?_,by simp,D9.1,D9.2.l,D9.2.pos,⟨hd9.1.trans hc2.1,hp9,(hc2.2.2.1.trans (hd9.2.1.2 k.l hc2.1)).le (by rw[if_neg (by simp[h59])];decide),by omega,by omega⟩,rfl⟩
  all_goals simp[go_sem]
 rintro _ ⟨CL,DL3,DP3,hc3,rfl⟩
 refine Ca<|.R<|.block ?_
 refine Bq ?_
 refine Br ?_ ?_<;>intro h64
 ·have hyl:(⟨DL3,DP3⟩:E6).l.length<=300:=by show DL3.length<=300;rw[hc3.1];exact h
  have hyp:0<=(⟨DL3,DP3⟩:E6).pos:=hc3.2.1
  obtain⟨D11,hD11,hd11⟩:=Dw ⟨DL3,DP3⟩ 5 (by assumption) (by assumption) (by omega) (by omega)
  have hl11:D11.2.l.length<=300:=by rw[hd11.1];assumption
  have hp11:0<=D11.2.pos:=by omega
  obtain⟨D12,hD12,hd12⟩:=Dw D11.2 5 (by assumption) (by assumption) (by omega) (by omega)
  have hl12:D12.2.l.length<=300:=by rw[hd12.1];assumption
  have hp12:0<=D12.2.pos:=by omega
  obtain⟨D13,hD13,hd13⟩:=Dw D12.2 4 (by assumption) (by assumption) (by omega) (by omega)
  have hl13:D13.2.l.length<=300:=by rw[hd13.1];assumption
  have hp13:0<=D13.2.pos:=by omega
  obtain⟨e2,H2⟩:=gx ([63,1,3,47,64]:List Int) D11.1.toNat
  have hxte2:[[T.lit (Value.int IntKind.i64 63)],[T.lit (Value.int IntKind.i64 1)],[T.lit (Value.int IntKind.i64 3)],[T.lit (Value.int IntKind.i64 47)],[T.lit (Value.int IntKind.i64 64)]][D11.1.toNat]? = some [T.lit (Value.int IntKind.i64 e2)]:=Aqo (l:=[63,1,3,47,64]) H2
  obtain⟨e3,H3⟩:=gx ([0,5,30,700]:List Int) D13.1.toNat
  have hxte3:[[T.lit (Value.int IntKind.i64 0)],[T.lit (Value.int IntKind.i64 5)],[T.lit (Value.int IntKind.i64 30)],[T.lit (Value.int IntKind.i64 700)]][D13.1.toNat]? = some [T.lit (Value.int IntKind.i64 e3)]:=Aqo (l:=[0,5,30,700]) H3
  refine Dg (fun K kk=>by simp[go_sem,H2,hxte2,H3,hxte3];refine .o [0] (hD11) ?_;simp[go_sem,H2,hxte2,H3,hxte3];(repeat refine aK ?_);refine .o [0] (hD12) ?_;simp[go_sem,H2,hxte2,H3,hxte3];refine .o [0] (hD13) ?_;simp[go_sem,H2,hxte2,H3,hxte3];(repeat first | exact kk | refine aK ?_)) ?_
  refine Bt (Tf H2 hxte2 H3 hxte3) ?_
  refine B2 Dz 6 ?_
  exact .ret ⟨(⟨KD,TK,[e2,D12.1,e3],[]⟩,D13.2),rW (Tf H2 hxte2 H3 hxte3) [0],⟨by first | exact hc3.1 | exact hd14.1.trans hc3.1 | exact hd15.1.trans hc3.1 | exact hy1.1 | exact hlg.1.trans (hd18.1.trans (hd17.1.trans (hd16.1.trans hc3.1))) | exact hd13.1.trans (hd12.1.trans (hd11.1.trans hc3.1)),⟨by first | exact hc3.2.1 | exact hp14 | exact hp15 | exact hp13,Th.mono hc3.2.2.1 (Int.le_trans hd11.2.1.1 (Int.le_trans hd12.2.1.1 hd13.2.1.1)),fun g1 g2=>by have h8:=Ac H2;have h9:=Ac H3;simp at h8 h9;exact A44 (hc1.2.2.2.2 g1 g2) (by omega) (by omega) (by omega) (by omega)⟩,hc1.2.2.1,hc1.2.2.2.1,by (simp;done),rfl⟩⟩
 refine Cf (by rfl) fun K1 hK1=>?_
 simp[go_sem]
 refine hK1 _ ⟨_,_,_,_,_,_,_,_,rfl,.more (by decide) rfl rfl (.more (by decide) rfl rfl (.more (by decide) rfl rfl (.one (by decide) rfl rfl))),by decide,rfl,by simp[go_sem];rfl,by simp[go_sem];rfl,by simp[go_sem],?_⟩;clear hK1
 refine Br ?_ ?_<;>intro h80
 ·have hyl:(⟨DL3,DP3⟩:E6).l.length<=300:=by show DL3.length<=300;rw[hc3.1];exact h
  have hyp:0<=(⟨DL3,DP3⟩:E6).pos:=hc3.2.1
  obtain⟨D14,hD14,hd14⟩:=Dw ⟨DL3,DP3⟩ 4 (by assumption) (by assumption) (by omega) (by omega)
  have hl14:D14.2.l.length<=300:=by rw[hd14.1];assumption
  have hp14:0<=D14.2.pos:=by omega
  refine C8 Dz [0] hD14 ?_
  refine Bq ?_
  refine B2 Dz 4 ?_
  exact .ret ⟨(⟨KD,TK,[D14.1],[]⟩,D14.2),rW Dz [0],⟨by first | exact hc3.1 | exact hd14.1.trans hc3.1,⟨by first | exact hc3.2.1 | exact hp14,Th.mono hc3.2.2.1 hd14.2.1.1,fun g1 g2=>Ac2 (hc1.2.2.2.2 g1 g2) (A7a (by omega)) (fun a ha=>by simp at ha;omega) (by simp)⟩,hc1.2.2.1,hc1.2.2.2.1,by (simp;done),rfl⟩⟩
 refine Bq ?_
 refine Br ?_ ?_<;>intro h90
 ·have hyl:(⟨DL3,DP3⟩:E6).l.length<=300:=by show DL3.length<=300;rw[hc3.1];exact h
  have hyp:0<=(⟨DL3,DP3⟩:E6).pos:=hc3.2.1
  obtain⟨D15,hD15,hd15⟩:=Dw ⟨DL3,DP3⟩ 4 (by assumption) (by assumption) (by omega) (by omega)
  have hl15:D15.2.l.length<=300:=by rw[hd15.1];assumption
  have hp15:0<=D15.2.pos:=by omega
  refine C8 Dz [0] hD15 ?_
  refine Bq ?_
  refine B2 Dz 4 ?_
  exact .ret ⟨(⟨KD,TK,[D15.1,CL],[]⟩,D15.2),rW Dz [0],⟨by first | exact hc3.1 | exact hd14.1.trans hc3.1 | exact hd15.1.trans hc3.1,⟨by first | exact hc3.2.1 | exact hp14 | exact hp15,Th.mono hc3.2.2.1 hd15.2.1.1,fun g1 g2=>Ac2 (hc1.2.2.2.2 g1 g2) (A4n (by omega)) (fun a ha=>by simp at ha;omega) (by simp)⟩,hc1.2.2.1,hc1.2.2.2.1,by (simp;done),rfl⟩⟩
 refine Bq ?_
 refine Br ?_ ?_<;>intro h97
 ·have hyl:(⟨DL3,DP3⟩:E6).l.length<=300:=by show DL3.length<=300;rw[hc3.1];exact h
  have hyp:0<=(⟨DL3,DP3⟩:E6).pos:=hc3.2.1
  obtain⟨D16,hD16,hd16⟩:=Dw ⟨DL3,DP3⟩ 4 (by assumption) (by assumption) (by omega) (by omega)
  have hl16:D16.2.l.length<=300:=by rw[hd16.1];assumption
  have hp16:0<=D16.2.pos:=by omega
  obtain⟨D17,hD17,hd17⟩:=Dw D16.2 4 (by assumption) (by assumption) (by omega) (by omega)
  have hl17:D17.2.l.length<=300:=by rw[hd17.1];assumption
  have hp17:0<=D17.2.pos:=by omega
  obtain⟨D18,hD18,hd18⟩:=Ej D17.2 1 60 (by assumption) (by assumption) (by omega) (by omega) (by omega)
  have hl18:D18.2.l.length<=300:=by rw[hd18.1];assumption
  have hp18:0<=D18.2.pos:=by omega
  obtain⟨LG,hLG,hlg⟩:=Oz D18.2 c [D16.1,D17.1,D18.1] (by assumption) (by assumption) hj hp (by simp)
  refine Dg (fun K kk=>by simp[go_sem];refine .o [0] (hD16) ?_;simp[go_sem];refine .o [0] (hD17) ?_;simp[go_sem];refine .o [0] (hD18) ?_;simp[go_sem];refine .o [0,4] (hLG) ?_;simp[go_sem];exact kk) ?_
  refine Bq ?_
  refine B2 Dz 4 ?_
  exact .ret ⟨(⟨KD,TK,LG.1,[]⟩,LG.2),rW Dz [0],⟨by first | exact hc3.1 | exact hd14.1.trans hc3.1 | exact hd15.1.trans hc3.1 | exact hy1.1 | exact hlg.1.trans (hd18.1.trans (hd17.1.trans (hd16.1.trans hc3.1))),⟨by first | exact hc3.2.1 | exact hp14 | exact hp15 | exact hp13 | exact hlg.2.1,Th.mono hc3.2.2.1 (Int.le_trans hd16.2.1.1 (Int.le_trans hd17.2.1.1 (Int.le_trans hd18.2.1.1 hlg.2.2.2.1))),fun g1 g2=>by have h9:=hlg.2.2.2.2.1;simp at h9;exact Ac2 (hc1.2.2.2.2 g1 g2) (A68 (by omega) (by omega)) (hlg.2.2.2.2.2 fun a ha=>by simp at ha;omega) (by omega)⟩,hc1.2.2.1,hc1.2.2.2.1,by first | (simp;done) | (have h9:=hlg.2.2.1;simp at h9;dsimp only;omega),rfl⟩⟩
 refine Bq ?_
 refine Br ?_ ?_<;>intro h110
 ·have hyl:(⟨DL3,DP3⟩:E6).l.length<=300:=by show DL3.length<=300;rw[hc3.1];exact h
  have hyp:0<=(⟨DL3,DP3⟩:E6).pos:=hc3.2.1
  obtain⟨D19,hD19,hd19⟩:=Dw ⟨DL3,DP3⟩ 4 (by assumption) (by assumption) (by omega) (by omega)
  have hl19:D19.2.l.length<=300:=by rw[hd19.1];assumption
  have hp19:0<=D19.2.pos:=by omega
  refine Dc Dz [0] hD19 ?_
  obtain⟨D20,hD20,hd20⟩:=Dw D19.2 2 (by assumption) (by assumption) (by omega) (by omega)
  have hl20:D20.2.l.length<=300:=by rw[hd20.1];assumption
  have hp20:0<=D20.2.pos:=by omega
  have hw27:=Dx (1+D20.1)
  refine Dc hw27 [0] hD20<|.block ?_
  refine Cj (fun (y1:(List Int)×Int×(List Int)×Int)=>⟨[(0,.ptr 0 0),(8,.ptr 1 0),(9,.ptr 2 0),(11,.li y1.2.2.2)],[.box 84 [.mI y1.1,.li y1.2.1],.box 56 [.li 0,.nil 1,.nil 1,.nil 1],.box 56 [.li KD,.mY TK,.own 3 y1.2.2.1.length,.nil 1],.row 3 1 false false (tI y1.2.2.1)]⟩) (fun y1=>y1.1=k.l/\(0<=y1.2.1/\DP3<=y1.2.1)/\y1.2.2.1.length+2*y1.2.2.2<=10/\0<=y1.2.2.2/\(y1.2.2.1.length:Int)+2*y1.2.2.2=3+2*D20.1/\Sm y1.2.2.1) (fun y1=>y1.2.2.2.toNat) (D20.2.l,D20.2.pos,[D19.1],(1+D20.1)) (wk Dz [0,2,3,4]) (⟨hd20.1.trans (hd19.1.trans hc3.1),⟨hp20,Int.le_trans hd19.2.1.1 hd20.2.1.1⟩,by simp;omega,by dsimp only;omega,by simp;omega,fun a ha=>by simp at ha;omega⟩) fun y1 hy1=>?_
  refine Ca<|.R ?_
  refine Br ?_ ?_<;>intro h120
  ·refine Bp<|.seq<|.block ?_
   have hyl:(⟨y1.1,y1.2.1⟩:E6).l.length<=300:=by show y1.1.length<=300;rw[hy1.1];exact h
   have hyp:0<=(⟨y1.1,y1.2.1⟩:E6).pos:=hy1.2.1.1
   obtain⟨D21,hD21,hd21⟩:=Dw ⟨y1.1,y1.2.1⟩ 3 (by assumption) (by assumption) (by omega) (by omega)
   have hl21:D21.2.l.length<=300:=by rw[hd21.1];assumption
   have hp21:0<=D21.2.pos:=by omega
   refine Dc Dz [0] hD21 ?_
   obtain⟨D22,hD22,hd22⟩:=Dw D21.2 40 (by assumption) (by assumption) (by omega) (by omega)
   have hl22:D22.2.l.length<=300:=by rw[hd22.1];assumption
   have hp22:0<=D22.2.pos:=by omega
   have hw4:=Dx (D21.1+D22.1:Int)
   refine Dg (fun K kk=>by simp[go_sem,hw4];refine .o [0] (hD22) ?_;simp[go_sem,hw4];(repeat first | exact kk | refine aK ?_)) ?_
   have hw5:=Dx (y1.2.2.2 - 1:Int)
   refine B0 (Fa hw4 hw5) ?_
   refine⟨(D22.2.l,D22.2.pos,y1.2.2.1++([D21.1,(D21.1+D22.1)]),(y1.2.2.2 - 1)),?_,?_,wQ [0,1,2,3] ?_ ?_⟩
   ·(dsimp only;omega)
   ·(exact⟨hd22.1.trans (hd21.1.trans hy1.1),⟨hp22,Int.le_trans hy1.2.1.2 (Int.le_trans hd21.2.1.1 hd22.2.1.1)⟩,by simp;omega,by dsimp only;omega,by simp;omega,hy1.2.2.2.2.2.app fun a ha=>by simp at ha;omega⟩)
   all_goals simp[go_sem,hw4,hw5]
  refine Bu<|.R ?_
  refine B2 Dz 3 ?_
  exact .ret ⟨(⟨KD,TK,y1.2.2.1,[]⟩,⟨y1.1,y1.2.1⟩),rW Dz [0],⟨by first | exact hc3.1 | exact hd14.1.trans hc3.1 | exact hd15.1.trans hc3.1 | exact hy1.1,⟨by first | exact hc3.2.1 | exact hp14 | exact hp15 | exact hp13 | exact hlg.2.1 | exact hy1.2.1.1,Th.mono hc3.2.2.1 hy1.2.1.2,fun g1 g2=>Ac2 (hc1.2.2.2.2 g1 g2) (A67 (by omega) (by omega)) hy1.2.2.2.2.2 (by omega)⟩,hc1.2.2.1,hc1.2.2.2.1,by first | (simp;done) | (have h9:=hlg.2.2.1;simp at h9;dsimp only;omega) | (dsimp only;omega),rfl⟩⟩
 refine Bp<|.R ?_
 exact .ret ⟨(⟨KD,TK,[],[]⟩,⟨DL3,DP3⟩),rW Dz [0],⟨by exact hc3.1,⟨by exact hc3.2.1,Th.mono hc3.2.2.1 (Int.le_refl _),fun g1 g2=>Ac2 (hc1.2.2.2.2 g1 g2) (A7b (by omega)) (fun a ha=>by simp at ha) (by simp)⟩,hc1.2.2.1,hc1.2.2.2.1,by (simp;done),rfl⟩⟩
section
def skJ (s:List (Int×Int)) (x:Bool):F9:=⟨s.map fun p=>⟨p.1,p.2,0,0,0,0,0,0⟩,(List.range s.length).map fun t=>Xm s x t s.length,0⟩
def Azo (s:List (Int×Int)) (x:Bool):Bool:=Vx (skJ s x).con&&(Ey .and .i64 (Abl (skJ s x) s.length) (IntKind.i64.wrap (Abl (skJ s x) s.length+1)) == 0)&&Yo (skJ s x)
theorem A1y:(Yk.all fun s=>Azo s true&&Azo s false)=true:=by decide +kernel
variable {s:List (Int×Int)} {j:F9}
theorem Awb {x:Bool} (h:Zt s j.phs) (hl:j.phs.length=s.length) (p:Nat):(Oo j p).ring=(Oo (skJ s x) p).ring/\(Oo j p).grp=(Oo (skJ s x) p).grp:=by
 unfold Oo skJ
 by_cases hp:p<j.phs.length
 ·have h1:=Aa hp
  obtain⟨t,ht,h2,h3,_⟩:=h p _ h1
  rw[h1,Ap,ht]
  exact⟨h2,h3⟩
 rw[Ar (by omega),Ap,Ar (by omega)]
 exact⟨rfl,rfl⟩
theorem Ass {s:List (Int×Int)} {x:Bool} {j:F9} (h:Zt s j.phs) (hl:j.phs.length=s.length):∀n,Abl j n=Abl (skJ s x) n
 | 0=>rfl
 | n+1=>by rw[Abl,Abl,Ass h hl n,(Awb (x:=x) h hl n).2]
theorem Aq2 {x:Bool} (h:Zt s j.phs) (hl:j.phs.length=s.length) (hc:j.con=(skJ s x).con):Yo j=Yo (skJ s x):=by
 unfold Yo
 have e:(skJ s x).phs.length=j.phs.length:=by rw[hl];simp[skJ]
 rw[e]
 congr 1
 funext p
 congr 1
 funext q
 unfold Abm
 rw[(Awb (x:=x) h hl p).1,(Awb (x:=x) h hl p).2,(Awb (x:=x) h hl q).1,(Awb (x:=x) h hl q).2,hc]
theorem Avi.ok (h:Avi j):R7 j=true/\Ou j/\j.phs.length<=8:=by
 obtain⟨s,hs,x,h1,h2,h3,h4,h5⟩:=h
 have hsl:=Asm hs
 have hsk:Azo s x=true:=by
  have:=Am.1 A1y s hs
  simp only[Ah] at this
  cases x
  ·exact this.2
  exact this.1
 simp only[Azo,Ah] at hsk
 have hcl:j.con.length=j.phs.length:=by rw[h3,h2];simp
 have hph:∀p,p<j.phs.length->Jf (Oo j p)=true:=fun p hp=>by
  have hq:=Aa hp
  obtain⟨t,ht,g1,g2,g3,g4,g5,g6,g7,g8,g9⟩:=h1 p _ hq
  have hw:=Dx (j.phs[p].wa+j.phs[p].cl)
  have htr:∀s∈Yk,∀t∈s,0<=t.1/\t.1<=1/\0<=t.2/\t.2<=3:=by decide
  have htb:=htr s hs t (Ac ht)
  have hwc:((j.phs[p].wa == 0) == (j.phs[p].cl == 0))=true:=by
   rcases g6 with⟨a,b⟩ | g6
   ·rw[a,b];rfl
   have a:(j.phs[p].wa == 0)=false:=by simp;omega
   have b:(j.phs[p].cl == 0)=false:=by simp;omega
   rw[a,b];rfl
  unfold Oo
  rw[hq]
  simp only[Bh,Jf,Ev,Ah,decide_eq_true_eq,hw]
  exact⟨⟨⟨⟨⟨by omega,by omega⟩,by omega,by omega⟩,⟨⟨by omega,by omega⟩,by omega,by omega⟩,by omega,by omega⟩,⟨⟨by omega,by omega⟩,by omega,by omega⟩,by omega,by omega⟩,⟨by omega,by omega⟩,hwc⟩
 have hcon:j.con=(skJ s x).con:=h3
 refine⟨?_,⟨by omega,by omega,by omega,fun p hp=>?_,fun p hp=>?_⟩,by omega⟩
 ·simp only[R7,Ah,decide_eq_true_eq]
  refine⟨⟨⟨⟨⟨⟨⟨by omega,by omega⟩,hcl⟩,by rw[hcon];exact hsk.1.1⟩,?_⟩,No hph⟩,?_⟩,by rw[Aq2 h1 h2 hcon];exact hsk.2⟩
  ·simp only[Ev,Ah,decide_eq_true_eq];omega
  rw[h2,Ass (x:=x) h1 h2];exact hsk.1.2
 all_goals
  obtain⟨i,hi⟩:=A3.1 hp
  have hil:=(Ab.1 hi).1
  have hq:=S9 (hph i hil)
  unfold Oo at hq
  rw[hi] at hq
  simp only[Bh] at hq
  omega
variable {ri:Int}
theorem AgQ.ok (hr:0<=ri/\ri<=63) {a:G2} (h:AgQ ri a):Ae6 a=true:=by
 obtain⟨h1,h2,h3,h4,h5,h6,h7,h8,h9,h10,_⟩:=h
 simp only[Ae6,Ah,decide_eq_true_eq,Ev]
 refine⟨⟨⟨h1,h2⟩,No fun i hi=>?_⟩,⟨⟨⟨⟨⟨by omega,by omega⟩,by omega,by omega⟩,by omega,by omega⟩,by omega,by omega⟩,by omega,by omega⟩,by omega,by omega⟩
 have hq:=Aa hi
 have hb:=h3 _ (Ac hq)
 unfold Ua
 rw[hq]
 simp only[Bh,Ah,decide_eq_true_eq]
 omega
variable {c:E5}
theorem Afc.pl (hr:0<=ri/\ri<=63) (h:Afc ri c):L7 c=true:=by
 have h1:=h.per
 have h2:=h.cap
 have h3:=h.hold
 have h4:=h.lock
 have h5:=h.nj
 have h6:=h.na
 simp only[L7,Ah,decide_eq_true_eq,Ev]
 exact⟨⟨⟨⟨⟨by omega,by omega⟩,by omega,by omega⟩,Am.2 fun j hj=>(h.jun j hj).ok.1⟩,Am.2 fun a ha=>(h.ag a ha).ok hr⟩,⟨⟨⟨by omega,by omega⟩,by omega,by omega⟩,by omega,by omega⟩,by omega,by omega⟩
section
variable (h:Afc ri c)
include h
theorem Afc.b:Adg c:=⟨by have:=h.nj;omega,by have:=h.na;omega,fun j hj=>⟨(h.jun j hj).ok.2.1.len,(h.jun j hj).ok.2.1.con⟩,fun a ha=>⟨by rw[(h.ag a ha).1];decide,by rw[(h.ag a ha).2.1];decide⟩⟩
theorem Afc.hj:∀j∈c.juns,Ou j/\j.phs.length<=8:=fun j hj=>(h.jun j hj).ok.2
theorem Afc.ha:∀a∈c.ags,a.sec.length<=1000000/\a.lims.length<=1000000/\a.rq<=3:=fun a ha=>⟨by rw[(h.ag a ha).1];decide,by rw[(h.ag a ha).2.1];decide,by have:=(h.ag a ha).2.2.2.2.2.1;omega⟩
theorem Afc.hs:∀x∈c.ags,1<=x.se/\x.se<=2:=fun a ha=>(h.ag a ha).2.2.2.2.2.2.1
end
end
theorem Ay9 (n:Nat):By (List.replicate n (0:Int)):=fun x hx=>by rw[List.eq_of_mem_replicate hx];decide
theorem Hr {e:I5} (h:e.bytes=[]):Lo e:=by rw[Lo,h];exact⟨by simp,Qz⟩
theorem Afv {e:I5} {n:Int} (h:e.bytes=Eb n):Lo e:=by
 have hq:=Hy n
 rw[Lo,h];exact⟨by rw[hq.1];decide,hq.2.1⟩
theorem Ui (c:E5) (h:c.ags.length<=1000000) (hs:∀a∈c.ags,1<=a.se/\a.se<=2):Ct 31 [c.g] (fun d:Int=>.li d) (fun d=>0<=d/\d<=2*c.ags.length):=by
 refine Ex Tryz.func31 ?_
 refine Bq ?_
 refine Bq<|.seq ?_
 refine Bq<|.block ?_
 refine Bs c.ags.length (fun i1 (y1:Int)=>⟨[(3,.li y1),(7,.mAg c.ags),(8,.li c.ags.length),(9,.li i1)],[]⟩) (fun i1 y1=>0<=y1/\y1<=2*i1) (0) (wk Dz []) (⟨by decide,by decide⟩) fun i1 y1 hi1 hy1=>?_
 refine Bq<|.seq ?_
 refine Br ?_ ?_<;>intro h10
 ·refine Bp<|.seq<|.block ?_
  obtain⟨e1,H1⟩:=gx c.ags i1
  refine Bt H1 ?_
  have hse:=hs e1 (Ac H1)
  have hw2:=Dx (y1+e1.se:Int)
  refine B0 (Fa H1 hw2) ?_
  refine B0 (Fa H1 hw2) ?_
  exact⟨by omega,((y1+e1.se)),⟨by omega,by omega⟩,wk (Hq (Dx ((i1:Int)+1)) H1 hw2) []⟩
 refine Bu<|.R ?_
 exact .ret (fin Dz y1 ⟨hy1.1,by omega⟩)
theorem Pw (k:E6) (c:E5) (s:Int) (cal:Bool) (h:k.l.length<=300) (h0:0<=k.pos):Cx 35 [.box 84 (k.a false)] [.ptr 0 0,c.g,.li s,.lb cal] (fun d:I5×E6=>[.box 84 (d.2.a false)]) (fun d=>d.1.g) (fun d=>d.2.l=k.l/\(0<=d.2.pos/\k.pos<=d.2.pos/\(cal=true->d.1.kind≠3))/\Lo d.1):=by
 refine U3 Tryz.func35 ?_
 refine Bq<|.seq ?_
 obtain⟨D1,hD1,hd1⟩:=Dw k 6 (by assumption) (by assumption) (by omega) (by omega)
 have hl1:D1.2.l.length<=300:=by rw[hd1.1];assumption
 have hp1:0<=D1.2.pos:=by omega
 refine Dc Dz [0] hD1<|.block ?_
 refine Bq ?_
 refine Br ?_ ?_<;>intro h12
 ·refine Bq ?_
  exact .ret ⟨(⟨2,s,0,0,[]⟩,D1.2),rW Dz [0],⟨by first | exact hb1.1.trans hd1.1 | exact hd6.1.trans hd1.1 | exact hd5.1.trans (hd4.1.trans hd1.1) | exact hd3.1.trans (hd2.1.trans hd1.1) | exact hd1.1,⟨by first | exact hb1.2.1.1 | exact hp6 | exact hp5 | exact hp3 | exact hp1,hd1.2.1.1,fun _=>by dsimp only;decide⟩,by exact Hr rfl⟩⟩
 refine Bq ?_
 refine Br ?_ ?_<;>intro h17
 ·refine Bq ?_
  exact .ret ⟨(⟨1,s,0,0,[]⟩,D1.2),rW Dz [0],⟨by first | exact hb1.1.trans hd1.1 | exact hd6.1.trans hd1.1 | exact hd5.1.trans (hd4.1.trans hd1.1) | exact hd3.1.trans (hd2.1.trans hd1.1) | exact hd1.1,⟨by first | exact hb1.2.1.1 | exact hp6 | exact hp5 | exact hp3 | exact hp1,hd1.2.1.1,fun _=>by dsimp only;decide⟩,by exact Hr rfl⟩⟩
 refine Bq ?_
 refine Br ?_ ?_<;>intro h22
 ·obtain⟨D2,hD2,hd2⟩:=Dw D1.2 4 (by assumption) (by assumption) (by omega) (by omega)
  have hl2:D2.2.l.length<=300:=by rw[hd2.1];assumption
  have hp2:0<=D2.2.pos:=by omega
  obtain⟨D3,hD3,hd3⟩:=Dw D2.2 50 (by assumption) (by assumption) (by omega) (by omega)
  have hl3:D3.2.l.length<=300:=by rw[hd3.1];assumption
  have hp3:0<=D3.2.pos:=by omega
  refine B3 (fun K kk=>by simp[go_sem];refine .o [0] (hD2) ?_;simp[go_sem];refine .o [0] (hD3) ?_;simp[go_sem];refine .l (Ge D3.1) ?_;simp[go_sem];exact kk) ?_
  exact .ret ⟨(⟨4,0,D2.1,0,(Eb D3.1)⟩,D3.2),rW Dz [0],⟨by first | exact hb1.1.trans hd1.1 | exact hd6.1.trans hd1.1 | exact hd5.1.trans (hd4.1.trans hd1.1) | exact hd3.1.trans (hd2.1.trans hd1.1),⟨by first | exact hb1.2.1.1 | exact hp6 | exact hp5 | exact hp3,(Int.le_trans hd1.2.1.1 (Int.le_trans hd2.2.1.1 hd3.2.1.1)),fun _=>by dsimp only;decide⟩,by first | exact Hr rfl | exact Afv rfl⟩⟩
 refine Bq ?_
 refine Br ?_ ?_<;>intro h31
 ·refine Bq ?_
  exact .ret ⟨(⟨6,0,0,0,[]⟩,D1.2),rW Dz [0],⟨by first | exact hb1.1.trans hd1.1 | exact hd6.1.trans hd1.1 | exact hd5.1.trans (hd4.1.trans hd1.1) | exact hd3.1.trans (hd2.1.trans hd1.1) | exact hd1.1,⟨by first | exact hb1.2.1.1 | exact hp6 | exact hp5 | exact hp3 | exact hp1,hd1.2.1.1,fun _=>by dsimp only;decide⟩,by exact Hr rfl⟩⟩
 refine Bq ?_
 refine Br ?_ ?_<;>intro h34
 ·obtain⟨D4,hD4,hd4⟩:=Dw D1.2 3 (by assumption) (by assumption) (by omega) (by omega)
  have hl4:D4.2.l.length<=300:=by rw[hd4.1];assumption
  have hp4:0<=D4.2.pos:=by omega
  obtain⟨D5,hD5,hd5⟩:=Dw D4.2 9 (by assumption) (by assumption) (by omega) (by omega)
  have hl5:D5.2.l.length<=300:=by rw[hd5.1];assumption
  have hp5:0<=D5.2.pos:=by omega
  refine B3 (fun K kk=>by simp[go_sem];refine .o [0] (hD4) ?_;simp[go_sem];refine .o [0] (hD5) ?_;simp[go_sem];exact kk) ?_
  exact .ret ⟨(⟨5,0,D4.1,D5.1,[]⟩,D5.2),rW Dz [0],⟨by first | exact hb1.1.trans hd1.1 | exact hd6.1.trans hd1.1 | exact hd5.1.trans (hd4.1.trans hd1.1),⟨by first | exact hb1.2.1.1 | exact hp6 | exact hp5,(Int.le_trans hd1.2.1.1 (Int.le_trans hd4.2.1.1 hd5.2.1.1)),fun _=>by dsimp only;decide⟩,by exact Hr rfl⟩⟩
 refine Bq ?_
 refine Br ?_ ?_<;>intro h42
 ·obtain⟨D6,hD6,hd6⟩:=Dw D1.2 120 (by assumption) (by assumption) (by omega) (by omega)
  have hl6:D6.2.l.length<=300:=by rw[hd6.1];assumption
  have hp6:0<=D6.2.pos:=by omega
  have hw1:=Dx (150+D6.1)
  refine Dc hw1 [0] hD6 ?_
  refine Do 3 ?_
  simp[go_sem,-Prod.exists]
  exact .ret ⟨(⟨3,s,0,0,List.replicate ((150+D6.1).toNat) 0⟩,D6.2),rW Dz [0],⟨by first | exact hb1.1.trans hd1.1 | exact hd6.1.trans hd1.1,⟨by first | exact hb1.2.1.1 | exact hp6,(Int.le_trans hd1.2.1.1 hd6.2.1.1),fun h=>absurd h (by simp[h31])⟩,by first | exact Hr rfl | exact Afv rfl | exact⟨by simp;omega,Ay9 _⟩⟩⟩
 refine Bp ?_
 obtain⟨B1,hB1,hb1⟩:=Px D1.2 9 (by assumption) (by assumption) (by omega) (by omega)
 refine Dc Dz [0] hB1 ?_
 refine Do 3 ?_
 simp[go_sem,-Prod.exists]
 exact .ret ⟨(⟨3,s,0,0,B1.1⟩,B1.2),rW Dz [0],⟨by exact hb1.1.trans hd1.1,⟨by exact hb1.2.1.1,(Int.le_trans hd1.2.1.1 hb1.2.1.2),fun h=>absurd h (by simp[h31])⟩,by first | exact Hr rfl | exact Afv rfl | exact⟨by simp;omega,Ay9 _⟩ | exact⟨by have:=hb1.2.2.1;dsimp only;omega,hb1.2.2.2⟩⟩⟩
section
variable {P:Program} {f:FuncId}
theorem Akp {d:Option Tmp} {ty:TypeId} {os:List VO} {st:St} {K:St->Prop} {xs:List Operand} {ts:Array TypeId} {v:AV} {want:Bool} {args':List AV} {σa σr:List Ob} {res:AV} (sel:List Nat) (hp:E7 P f σa args' σr res) (hv:Ik v.sv=true/\(v.sb&&(Fh v.sv == want))=true) (hb:(xs.all fun x=>(st.raw x).sb)=true) (hσ:(sel.map fun id=>((st.o id).passR st.o fun id=>Nq id sel 0).low)=σa) (ha:Kq (G9 st.o (fun id=>Nq id sel 0) (xs.map fun x=>(st.raw x).sv))=args') (hc:Ad8 (xs.map fun x=>(st.raw x).sv) st sel σr res) (h:runs P os (st.after d (.gd true (Pp sel st.ob.length σr res).1) (Pp sel st.ob.length σr res).2) K) :
  Aap P d (.call ⟨.value (.func f),xs.toArray,ts⟩) ty v want os st K :=
 Apu hv ⟨_,⟨⟨rfl,by simpa using hb⟩,.inr ⟨f,[],sel,σr,res,rfl,by simpa using Zv.of sel hp hσ ha hc _,rfl⟩⟩,h⟩
theorem Lo.one {e:I5} (h:Lo e):∀x∈[e],Lo x:=fun x hx=>by simp at hx;rw[hx];exact h
theorem A64 {kd a s n:Int} {h:(Eb n).length<=1000} {args:List Int} (hl:args.length<=20):MkQ ⟨kd,En a s (Eb n) h,args,[]⟩:=⟨(An4 (h:=h)).1,(An4 (h:=h)).2,hl,rfl⟩
theorem A4v {j:F9} (h:Avi j):1<=j.phs.length:=by
 obtain⟨s,hs,x,_,hl,_⟩:=h
 rw[hl]
 have:∀s∈Yk,1<=s.length:=by decide +kernel
 exact this s hs
theorem Lo.app {l:List I5} {e:I5} (hl:∀x∈l,Lo x) (h:Lo e):∀x∈l++[e],Lo x:=fun x hx=>by
 rcases A0.1 hx with h1 | h1
 ·exact hl x h1
 exact Lo.one h x h1
theorem mkF {m:Ea} (h:MkQ m):∃d:List Int,PP 18 [] [m.g] [.row 5 1 false false (tY d)] (.own 0 d.length)/\d.length<=210/\By d/\(MkX m->d=[]\/FrP d):=by
 obtain⟨d,h1,h2,h3⟩:=Me m (by rw[h.1];decide) (Ak h.2.2.1 (by decide)) (by rw[h.2.2.2];exact Ae _)
 exact⟨d,h1,h2,h3.1 h.2.1 (by rw[h.2.2.2];exact Qz),fun hx=>A1j hx h3.2⟩
theorem E7.bright {σa:List Ob} {args:List AV} {ty k:Nat} {fr fz:Bool} {es:List (List T)} {res:AV} (h:E7 P f σa args [.row ty k fr fz es] res) (hp:es.all (fun e=>e.all T.plain)=true):E7 P f σa args [.row ty k true fz es] res :=
 ⟨h.1,fun E β us hn ho hβ r=>(h.2 E β us hn ho hβ r).mono fun e w' ⟨v,β',he,r'⟩=>⟨v,β',he,(r'.flag (id:=0) rfl (fun _=>.inr hp) (fun h=>h)).1⟩⟩
theorem A45 {m:Ea} (h:MkQ m):∃d:List Int,PP 18 [] [m.g] [] (.imm true 1 (tY d))/\d.length<=210/\By d/\(MkX m->d=[]\/FrP d):=by
 obtain⟨d,h1,h2⟩:=mkF h
 exact⟨d,E7.froz (es:=tY d) (by rw[A2];exact h1.bright (by simp[T.plain])),h2⟩
theorem Ns (k:E6) (c:E5) (cal:Bool) (h:k.l.length<=300) (h0:0<=k.pos) (hc:Afc 63 c):Cx 13 [.box 84 (k.a false)] [.ptr 0 0,c.g,.lb cal] (fun d:List I5×E6=>[.box 84 (d.2.a false)]) (fun d=>.mEv d.1) (fun d=>d.2.l=k.l/\(0<=d.2.pos/\(cal=true->ScE k d.1))/\(2<=d.1.length/\d.1.length<=200)/\∀e∈d.1,Lo e):=by
 refine U3 Tryz.func13 ?_
 have hag:c.ags.length<=1000000:=Ak hc.na.2 (by decide)
 have hna:=hc.na
 have hph:∀j∈c.juns,j.phs.length<=8/\1<=j.phs.length:=fun j hj=>⟨(hc.hj j hj).2,A4v (hc.jun j hj)⟩
 obtain⟨Y1,cY1,qY1⟩:=Ep (Ui c hag hc.hs)
 have hSv:=cY1
 have hSq:=qY1
 generalize Y1=NS at hSv hSq
 iterate 2 refine Bq ?_
 refine B8 Dz (hSv)<|.seq ?_
 refine Bq<|.block ?_
 refine Cg 7 46 5 (by decide) (k':=5) (by simp[go_sem]) ?_
 simp[go_sem,-Prod.exists]
 refine Bs NS.toNat (fun i1 (y1:(List I5))=>⟨[(0,.ptr 0 0),(2,.lb cal),(4,.ptr 1 0),(7,.own 2 y1.length),(8,.li NS),(17,.li NS),(18,.li i1)],[.box 84 [.mI k.l,.li k.pos],.box 30 (c.a false),.row 46 5 false false (tEv y1)]⟩) (fun i1 y1=>y1.length=i1/\(∀e∈y1,Lo e)/\Scr y1 (fun _=>0)) ([]) (wk Dz [0,1,2]) (⟨rfl,fun e he=>(by cases he),.nil _⟩) fun i1 y1 hi1 hy1=>?_
 refine Bq<|.seq ?_
 refine Br ?_ ?_<;>intro h19
 ·refine Bp<|.seq<|.block<|.R ?_
  refine B0 Dz ?_
  refine Ci ?_
  exact⟨by omega,(y1++([⟨1,i1,0,0,[]⟩])),⟨by simp;omega,Lo.app hy1.2.1 (Hr rfl),hy1.2.2.tick (by dsimp only;decide)⟩,wk (Dx ((i1:Int)+1)) [0,1,2]⟩
 refine Bu<|.seq<|.R<|.block ?_
 refine Bs c.ags.length (fun i2 (y2:(List I5))=>⟨[(0,.ptr 0 0),(2,.lb cal),(4,.ptr 1 0),(7,.own 2 y2.length),(8,.li NS),(29,.li c.ags.length),(30,.li i2)],[.box 84 [.mI k.l,.li k.pos],.box 30 (c.a false),.row 46 5 false false (tEv y2)]⟩) (fun i2 y2=>y2.length<=6+4*i2/\(∀e∈y2,Lo e)/\Scr y2 (bI (bsm c.ags i2 c.ags.length) 0)) (y1) (wk Dz [0,1,2]) (⟨by omega,hy1.2.1,hy1.2.2.mono fun s=>Ae _⟩) fun i2 y2 hi2 hy2=>?_
 refine Bq<|.seq ?_
 refine Br ?_ ?_<;>intro h31
 ·refine Bp<|.seq<|.block<|.R ?_
  refine B8 Dz (Ge (IntKind.i64.wrap (2000+(IntKind.i64.wrap (10*i2))))) ?_
  refine Bq<|.block ?_
  refine Bs 3 (fun i3 (y3:(List I5))=>⟨[(0,.ptr 0 0),(2,.lb cal),(4,.ptr 1 0),(7,.own 2 y3.length),(8,.li NS),(10,.li i2),(29,.li c.ags.length),(30,.li i2),(42,.li i3)],[.box 84 [.mI k.l,.li k.pos],.box 30 (c.a false),.row 46 5 false false (tEv y3)]⟩) (fun i3 y3=>y3.length<=7+4*i2+i3/\(∀e∈y3,Lo e)/\Scr y3 (bI (bsm c.ags i2 c.ags.length) i3)) (y2++([⟨4,0,i2,0,(Eb (IntKind.i64.wrap (2000+(IntKind.i64.wrap (10*i2)))))⟩])) (wk Dz [0,1,2]) (⟨by simp;omega,Lo.app hy2.2.1 (Afv rfl),hy2.2.2.tick (by dsimp only;decide)⟩) fun i3 y3 hi3 hy3=>?_
  refine Bq<|.seq ?_
  refine Br ?_ ?_<;>intro h43
  ·refine Bp<|.seq<|.block<|.R ?_
   obtain⟨FR,hFR,hfr⟩:=A45 (m:=⟨4,En i2 0 (Eb (IntKind.i64.wrap (1000+(i2:Int)))) (Aoe _),[(i3:Int),Int.tmod i3 2],[]⟩) (A64 (by simp))
   refine Ck (fun K kk=>by simp[go_sem];refine .l (Up c i2 hag) ?_;simp[go_sem];refine .l (Ge (IntKind.i64.wrap (1000+i2))) ?_;simp[go_sem];refine .lo (Hx i2 0 (Eb (IntKind.i64.wrap (1000+i2))) (Aoe _)) rfl (by simp[AV.cln,Fu]) ?_;simp[go_sem];(repeat refine aK ?_);refine .l (hFR) ?_;simp[go_sem];(repeat first | exact kk | refine aK ?_)) ?_
   refine Ci ?_
   exact⟨by omega,(y3++[⟨3,J3 c (i2:Int) hag,0,0,FR⟩]),⟨by simp;omega,Lo.app hy3.2.1 ⟨by dsimp only;omega,hfr.2.1⟩,hy3.2.2.app (A5a (hfr.2.2 (Ac2 (tkQ rfl ⟨by omega,by omega⟩ ⟨by decide,by decide⟩ (by rw[Dx (1000+(i2:Int))];omega)) (A4n rfl) (fun a ha=>by (have h9:0<=Int.tmod (i3:Int) 2/\Int.tmod (i3:Int) 2<2:=⟨Int.tmod_nonneg _ (by omega),Int.tmod_lt_of_pos _ (by decide)⟩);simp at ha;omega) (by simp)))) (fun s=>by dsimp only;rw[U0];exact A7l _ _ _)⟩,wk (Dx ((i3:Int)+1)) [0,1,2]⟩
  refine Bu<|.R1 ?_
  exact⟨by omega,(y3),⟨by omega,hy3.2.1,hy3.2.2.mono fun s=>A7m (A2j hc.hs hna.2 (by omega)) (by omega) s⟩,wk (Dx ((i2:Int)+1)) [0,1,2]⟩
 refine Bu<|.H Dz<|.seq<|.block ?_
 refine Cj (fun (y4:(List Int)×Int×(List I5))=>⟨[(0,.ptr 0 0),(2,.lb cal),(4,.ptr 1 0),(7,.own 2 y4.2.2.length),(8,.li NS)],[.box 84 [.mI y4.1,.li y4.2.1],.box 30 (c.a false),.row 46 5 false false (tEv y4.2.2)]⟩) (fun y4=>y4.1=k.l/\0<=y4.2.1/\(1<=y4.2.2.length/\y4.2.2.length<=160)/\(∀e∈y4.2.2,Lo e)/\(cal=true->ScW k y4.2.2 y4.2.1)) (fun y4=>150 - y4.2.2.length) (k.l,k.pos,y2++([⟨6,0,0,0,[]⟩])) (wk Dz [0,1,2]) (⟨rfl,h0,⟨by simp,by simp;omega⟩,Lo.app hy2.2.1 (Hr rfl),fun _=>.start ((hy2.2.2.mono fun s=>A7n _ s).tick (by dsimp only;decide))⟩) fun y4 hy4=>?_
 refine Ca ?_
 have hyl:(⟨y4.1,y4.2.1⟩:E6).l.length<=300:=by show y4.1.length<=300;rw[hy4.1];exact h
 have hyp:0<=(⟨y4.1,y4.2.1⟩:E6).pos:=hy4.2.1
 have hyk:(⟨y4.1,y4.2.1⟩:E6).l=k.l:=hy4.1
 obtain⟨⟨LB,LD⟩,hLF,hlf,hlb⟩:=O0 ⟨y4.1,y4.2.1⟩ hyl
 dsimp only at hlf hlb hLF
 subst hlf
 refine B3 (fun K kk=>by simp[go_sem];refine .o [0] (hLF) ?_;simp[go_sem];exact kk) ?_
 refine Br ?_ ?_<;>intro h75
 ·refine Bp<|.block ?_
  have hlt:y4.2.1<k.l.length:=by rw[hlb] at h75;have h9:=of_decide_eq_true h75.1;rwa[hy4.1] at h9
  obtain⟨NN,hNN⟩:∃NN,(if 1<NS then NS else 1)=NN:=⟨_,rfl⟩
  have hnb:1<=NN/\NN<=100:=by rw[<- hNN];split<;>omega
  obtain⟨D1,hD1,hd1⟩:=Dw ⟨y4.1,y4.2.1⟩ NN (by assumption) (by assumption) (by omega) (by omega)
  have hl1:D1.2.l.length<=300:=by rw[hd1.1];assumption
  have hp1:0<=D1.2.pos:=by omega
  have hk1:D1.2.l=k.l:=hd1.1.trans (by assumption)
  refine B3 (fun K kk=>by simp[go_sem,hNN];refine .o [0] (hD1) ?_;simp[go_sem,hNN];exact kk) ?_
  obtain⟨D2,hD2,hd2⟩:=Dw D1.2 12 (by assumption) (by assumption) (by omega) (by omega)
  have hl2:D2.2.l.length<=300:=by rw[hd2.1];assumption
  have hp2:0<=D2.2.pos:=by omega
  have hk2:D2.2.l=k.l:=hd2.1.trans (by assumption)
  refine B3 (fun K kk=>by simp[go_sem];refine .o [0] (hD2) ?_;simp[go_sem];exact kk)<|.block ?_
  refine Cf (by rfl) fun K1 hK1=>?_
  simp[go_sem]
  refine hK1 _ ⟨_,_,_,_,_,_,_,_,rfl,.more (by decide) rfl rfl (.more (by decide) rfl rfl (.one (by decide) rfl rfl)),by decide,rfl,by simp[go_sem];rfl,by simp[go_sem];rfl,by simp[go_sem],?_⟩;clear hK1
  refine Br ?_ ?_<;>intro h122
  ·refine B0 Dz ?_
   refine⟨(D2.2.l,D2.2.pos,y4.2.2++([⟨6,0,0,0,[]⟩])),?_,?_,wQ [0,1,2] ?_ ?_⟩
   ·((simp;omega))
   ·exact⟨hk2,hp2,⟨by simp,by simp;omega⟩,Lo.app hy4.2.2.2.1 (Hr rfl),fun hcal=>(hy4.2.2.2.2 hcal).tick (Int.le_trans hd1.2.1.1 hd2.2.1.1) (by dsimp only;decide)⟩
   all_goals simp[go_sem]
  refine Bq ?_
  refine Br ?_ ?_<;>intro h131
  ·obtain⟨D3,hD3,hd3⟩:=Dw D2.2 6 (by assumption) (by assumption) (by omega) (by omega)
   have hl3:D3.2.l.length<=300:=by rw[hd3.1];assumption
   have hp3:0<=D3.2.pos:=by omega
   have hk3:D3.2.l=k.l:=hd3.1.trans (by assumption)
   refine B3 (fun K kk=>by simp[go_sem];refine .o [0] (hD3) ?_;simp[go_sem];exact kk)<|.block ?_
   refine Cj (fun (y5:(List I5)×Int)=>⟨[(0,.ptr 0 0),(2,.lb cal),(4,.ptr 1 0),(7,.own 2 y5.1.length),(8,.li NS),(13,.li y5.2)],[.box 84 [.mI D3.2.l,.li D3.2.pos],.box 30 (c.a false),.row 46 5 false false (tEv y5.1)]⟩) (fun y5=>y5.1.length+y5.2=y4.2.2.length+D3.1 /\ -1<=y5.2/\(∀e∈y5.1,Lo e)/\(cal=true->ScW k y5.1 D3.2.pos)) (fun y5=>(y5.2+1).toNat) (y4.2.2,D3.1) (wk Dz [0,1,2]) (⟨by simp,by dsimp only;omega,hy4.2.2.2.1,fun hcal=>(hy4.2.2.2.2 hcal).mv (Int.le_trans hd1.2.1.1 (Int.le_trans hd2.2.1.1 hd3.2.1.1))⟩) fun y5 hy5=>?_
   refine Ca<|.R ?_
   refine Br ?_ ?_<;>intro h136
   ·refine Bp<|.seq<|.block<|.H1 Dz ?_
    have hw1:=Dx (y5.2 - 1:Int)
    refine B0 hw1 ?_
    refine⟨(y5.1++([⟨6,0,0,0,[]⟩]),(y5.2 - 1)),?_,?_,wQ [0,1,2] ?_ ?_⟩
    ·(dsimp only;omega)
    ·exact⟨by simp;omega,by dsimp only;omega,Lo.app hy5.2.2.1 (Hr rfl),fun hcal=>(hy5.2.2.2 hcal).tick (Int.le_refl _) (by dsimp only;decide)⟩
    all_goals simp[go_sem,hw1]
   refine Bu ?_
   refine⟨(D3.2.l,D3.2.pos,y5.1),?_,?_,wQ [0,1,2] ?_ ?_⟩
   ·((simp;omega))
   ·exact⟨hk3,hp3,⟨by dsimp only;omega,by dsimp only;omega⟩,hy5.2.2⟩
   all_goals simp[go_sem]
  refine Bq ?_
  refine Br ?_ ?_<;>intro h143
  ·obtain⟨O1,hO1,ho1⟩:=Pw D2.2 c D1.1 cal (by assumption) (by assumption)
   refine Ck (fun K kk=>by simp[go_sem];refine .o [0] (hO1) ?_;simp[go_sem];(repeat first | exact kk | refine aK ?_)) ?_
   refine⟨(O1.2.l,O1.2.pos,y4.2.2++([O1.1])),?_,?_,wQ [0,1,2] ?_ ?_⟩
   ·((simp;omega))
   ·exact⟨ho1.1.trans hk2,ho1.2.1.1,⟨by simp,by simp;omega⟩,Lo.app hy4.2.2.2.1 ho1.2.2,fun hcal=>(hy4.2.2.2.2 hcal).tick (Int.le_trans hd1.2.1.1 (Int.le_trans hd2.2.1.1 ho1.2.1.2.1)) (ho1.2.1.2.2 hcal)⟩
   all_goals simp[go_sem]
  obtain⟨Y2,cY2,qY2⟩:=Ep (Tk c D1.1 hag)
  obtain⟨M1,hM1,hm1⟩:=Hg D2.2 c Y2 cal (by assumption) (by assumption) hc.nj hph
  have hlM1:M1.2.l.length<=300:=by rw[hm1.1];assumption
  have hpM1:=hm1.2.1.1
  have hkM1:M1.2.l=k.l:=hm1.1.trans (by assumption)
  obtain⟨F1,hF1,hf1⟩:=mkF hm1.2.2
  refine Cy (fun K kk=>by simp[go_sem];refine .l cY2 ?_;simp[go_sem];refine .o [0] (hM1) ?_;simp[go_sem];refine .l (hF1) ?_;simp[go_sem];exact kk)<|.seq ?_
  obtain⟨D4,hD4,hd4⟩:=Dw M1.2 3 (by assumption) (by assumption) (by omega) (by omega)
  have hl4:D4.2.l.length<=300:=by rw[hd4.1];assumption
  have hp4:0<=D4.2.pos:=by omega
  have hk4:D4.2.l=k.l:=hd4.1.trans (by assumption)
  refine B3 (fun K kk=>by simp[go_sem];refine .o [0] (hD4) ?_;simp[go_sem];exact kk) ?_
  refine Br ?_ ?_<;>intro h92
  ·obtain⟨M2,hM2,hm2⟩:=Hg D4.2 c Y2 cal (by assumption) (by assumption) hc.nj hph
   have hlM2:M2.2.l.length<=300:=by rw[hm2.1];assumption
   have hpM2:=hm2.2.1.1
   have hkM2:M2.2.l=k.l:=hm2.1.trans (by assumption)
   obtain⟨F2,hF2,hf2⟩:=A45 hm2.2.2
   refine Dg (fun K kk=>by simp[go_sem];refine .l cY2 ?_;simp[go_sem];refine .o [0] (hM2) ?_;simp[go_sem];refine .l (hF2) ?_;simp[go_sem];(repeat first | exact kk | refine aK ?_))<|.seq ?_
   by_cases hc25:cal=false
   ·have hcl:(M2.2:E6).l.length<=300:=by assumption
    have hcp:0<=(M2.2:E6).pos:=by assumption
    have hck:(M2.2:E6).l=k.l:=by assumption
    have hB25:((F1++F2)).length<=1000/\By ((F1++F2)):=by first | exact⟨by omega,hf1.2.1⟩ | exact⟨by simp;omega,hf1.2.1.app hf2.2.1⟩
    obtain⟨D5,hD5,hd5⟩:=Dw M2.2 7 (by assumption) (by assumption) (by omega) (by omega)
    have hl5:D5.2.l.length<=300:=by rw[hd5.1];assumption
    have hp5:0<=D5.2.pos:=by omega
    have hk5:D5.2.l=k.l:=hd5.1.trans (by assumption)
    refine B2 hc25 3 ?_
    refine B3 (fun K kk=>by simp[go_sem,hc25];refine Akp [0] (hD5) (by simp[go_sem,hc25]) (by simp[go_sem,hc25]) (by simp[go_sem,hc25]) (by simp[go_sem,hc25]) (by constructor<;>simp[go_sem]) ?_;simp[go_sem,hc25];exact kk) ?_
    refine Br ?_ ?_<;>intro h109
    ·obtain⟨D6,hD6,hd6⟩:=Dw D5.2 99 (by assumption) (by assumption) (by omega) (by omega)
     have hl6:D6.2.l.length<=300:=by rw[hd6.1];assumption
     have hp6:0<=D6.2.pos:=by omega
     have hk6:D6.2.l=k.l:=hd6.1.trans (by assumption)
     obtain⟨D7,hD7,hd7⟩:=Dw D6.2 1024 (by assumption) (by assumption) (by omega) (by omega)
     have hl7:D7.2.l.length<=300:=by rw[hd7.1];assumption
     have hp7:0<=D7.2.pos:=by omega
     have hk7:D7.2.l=k.l:=hd7.1.trans (by assumption)
     have hq26:=L6 ((F1++F2)) D6.1 D7.1 hB25.1
     refine Ck (fun K kk=>by simp[go_sem,hc25];refine .o [0] (hD6) ?_;simp[go_sem,hc25];refine .o [0] (hD7) ?_;simp[go_sem,hc25];refine .lo (L4 (F1++F2) D6.1 D7.1 hB25.1) (by simp[go_sem]) (by simp[AV.cln,Fu]) ?_;simp[go_sem,hc25];exact kk) ?_
     refine B0 hc25 ?_
     refine⟨(D7.2.l,D7.2.pos,y4.2.2++([⟨3,D1.1,0,0,(G0 (F1++F2) D6.1 D7.1 hB25.1)⟩])),?_,?_,wQ [0,1,2] ?_ ?_⟩
     ·((simp;omega))
     ·exact⟨by assumption,by assumption,⟨by simp,by simp;omega⟩,Lo.app hy4.2.2.2.1 ⟨by dsimp only;omega,hq26.2 hB25.2⟩,fun h=>absurd h (by simp[hc25])⟩
     all_goals simp[go_sem,hc25]
    refine Bp<|.H1 hc25 ?_
    refine⟨(D5.2.l,D5.2.pos,y4.2.2++([⟨3,D1.1,0,0,F1++F2⟩])),?_,?_,wQ [0,1,2] ?_ ?_⟩
    ·((simp;omega))
    ·exact⟨by assumption,by assumption,⟨by simp,by simp;omega⟩,Lo.app hy4.2.2.2.1 ⟨by dsimp only;omega,hB25.2⟩,fun h=>absurd h (by simp[hc25])⟩
    all_goals simp[go_sem,hc25]
   have hcl:(M2.2:E6).l.length<=300:=by assumption
   have hcp:0<=(M2.2:E6).pos:=by assumption
   have hck:(M2.2:E6).l=k.l:=by assumption
   have hB25:((F1++F2)).length<=1000/\By ((F1++F2)):=by first | exact⟨by omega,hf1.2.1⟩ | exact⟨by simp;omega,hf1.2.1.app hf2.2.1⟩
   refine B2 hc25 3 ?_
   refine B3 (fun K kk=>by simp[go_sem,hc25];refine Ab1 (by simp[go_sem,hc25]) ?_;simp[go_sem,hc25];exact kk) ?_
   refine Cs ?_ ?_<;>intro h109<;>simp[go_sem] at h109
   refine Bp<|.H1 hc25 ?_
   refine⟨(M2.2.l,M2.2.pos,y4.2.2++([⟨3,D1.1,0,0,F1++F2⟩])),?_,?_,wQ [0,1,2] ?_ ?_⟩
   ·((simp;omega))
   ·exact⟨by assumption,by assumption,⟨by simp,by simp;omega⟩,Lo.app hy4.2.2.2.1 ⟨by dsimp only;omega,hB25.2⟩,fun hcal=>(hy4.2.2.2.2 hcal).fr hlt (A7i (hf1.2.2 (hm1.2.1.2.2 qY2.1 (by omega))) (hf2.2.2 (hm2.2.1.2.2 qY2.1 (by omega)))) (((((hd1.2.1.2 k.l hyk).trans (hd2.2.1.2 k.l hk1)).trans ((hm1.2.1.2.1).cast hk2 (if_pos hcal))).trans (hd4.2.1.2 k.l hkM1)).trans ((hm2.2.1.2.1).cast hk4 (if_pos hcal))) (by decide) (by decide)⟩
   all_goals simp[go_sem,hc25]
  refine Bp<|.seq ?_
  by_cases hc25:cal=false
  ·have hcl:(D4.2:E6).l.length<=300:=by assumption
   have hcp:0<=(D4.2:E6).pos:=by assumption
   have hck:(D4.2:E6).l=k.l:=by assumption
   have hB25:(F1).length<=1000/\By (F1):=by exact⟨by omega,hf1.2.1⟩
   obtain⟨D5,hD5,hd5⟩:=Dw D4.2 7 (by assumption) (by assumption) (by omega) (by omega)
   have hl5:D5.2.l.length<=300:=by rw[hd5.1];assumption
   have hp5:0<=D5.2.pos:=by omega
   have hk5:D5.2.l=k.l:=hd5.1.trans (by assumption)
   refine B2 hc25 3 ?_
   refine B3 (fun K kk=>by simp[go_sem,hc25];refine Akp [0] (hD5) (by simp[go_sem,hc25]) (by simp[go_sem,hc25]) (by simp[go_sem,hc25]) (by simp[go_sem,hc25]) (by constructor<;>simp[go_sem]) ?_;simp[go_sem,hc25];exact kk) ?_
   refine Br ?_ ?_<;>intro h109
   ·obtain⟨D6,hD6,hd6⟩:=Dw D5.2 99 (by assumption) (by assumption) (by omega) (by omega)
    have hl6:D6.2.l.length<=300:=by rw[hd6.1];assumption
    have hp6:0<=D6.2.pos:=by omega
    have hk6:D6.2.l=k.l:=hd6.1.trans (by assumption)
    obtain⟨D7,hD7,hd7⟩:=Dw D6.2 1024 (by assumption) (by assumption) (by omega) (by omega)
    have hl7:D7.2.l.length<=300:=by rw[hd7.1];assumption
    have hp7:0<=D7.2.pos:=by omega
    have hk7:D7.2.l=k.l:=hd7.1.trans (by assumption)
    have hq26:=L6 (F1) D6.1 D7.1 hB25.1
    refine Ck (fun K kk=>by simp[go_sem,hc25];refine .o [0] (hD6) ?_;simp[go_sem,hc25];refine .o [0] (hD7) ?_;simp[go_sem,hc25];refine .lo (L4 F1 D6.1 D7.1 hB25.1) (by simp[go_sem]) (by simp[AV.cln,Fu]) ?_;simp[go_sem,hc25];exact kk) ?_
    refine B0 hc25 ?_
    refine⟨(D7.2.l,D7.2.pos,y4.2.2++([⟨3,D1.1,0,0,(G0 F1 D6.1 D7.1 hB25.1)⟩])),?_,?_,wQ [0,1,2] ?_ ?_⟩
    ·((simp;omega))
    ·exact⟨by assumption,by assumption,⟨by simp,by simp;omega⟩,Lo.app hy4.2.2.2.1 ⟨by dsimp only;omega,hq26.2 hB25.2⟩,fun h=>absurd h (by simp[hc25])⟩
    all_goals simp[go_sem,hc25]
   refine Bp<|.H1 hc25 ?_
   refine⟨(D5.2.l,D5.2.pos,y4.2.2++([⟨3,D1.1,0,0,F1⟩])),?_,?_,wQ [0,1,2] ?_ ?_⟩
   ·((simp;omega))
   ·exact⟨by assumption,by assumption,⟨by simp,by simp;omega⟩,Lo.app hy4.2.2.2.1 ⟨by dsimp only;omega,hB25.2⟩,fun h=>absurd h (by simp[hc25])⟩
   all_goals simp[go_sem,hc25]
  have hcl:(D4.2:E6).l.length<=300:=by assumption
  have hcp:0<=(D4.2:E6).pos:=by assumption
  have hck:(D4.2:E6).l=k.l:=by assumption
  have hB25:(F1).length<=1000/\By (F1):=by exact⟨by omega,hf1.2.1⟩
  refine B2 hc25 3 ?_
  refine B3 (fun K kk=>by simp[go_sem,hc25];refine Ab1 (by simp[go_sem,hc25]) ?_;simp[go_sem,hc25];exact kk) ?_
  refine Cs ?_ ?_<;>intro h109<;>simp[go_sem] at h109
  refine Bp<|.H1 hc25 ?_
  refine⟨(D4.2.l,D4.2.pos,y4.2.2++([⟨3,D1.1,0,0,F1⟩])),?_,?_,wQ [0,1,2] ?_ ?_⟩
  ·((simp;omega))
  ·exact⟨by assumption,by assumption,⟨by simp,by simp;omega⟩,Lo.app hy4.2.2.2.1 ⟨by dsimp only;omega,hB25.2⟩,fun hcal=>(hy4.2.2.2.2 hcal).fr hlt (A5a (hf1.2.2 (hm1.2.1.2.2 qY2.1 (by omega)))) ((((hd1.2.1.2 k.l hyk).trans (hd2.2.1.2 k.l hk1)).trans ((hm1.2.1.2.1).cast hk2 (if_pos hcal))).trans (hd4.2.1.2 k.l hkM1)) (by decide) (by decide)⟩
  all_goals simp[go_sem,hc25]
 refine Bu<|.H Dz ?_
 refine B2 Dz 2 ?_
 exact .ret ⟨(y4.2.2++([⟨6,0,0,0,[]⟩]),(⟨y4.1,y4.2.1⟩:E6)),rW Dz [0],⟨hy4.1,⟨hy4.2.1,fun hcal=>(ScW.tick (e:=⟨6,0,0,0,[]⟩) (hy4.2.2.2.2 hcal) (Int.le_refl _) (by dsimp only;decide)).fin⟩,⟨by simp;omega,by first | (simp;done) | (simp;omega)⟩,Lo.app hy4.2.2.2.1 (Hr rfl)⟩⟩
end
theorem Aad {l:List G2} (hs:∀a∈l,1<=a.se/\a.se<=2):∀k,k<=l.length->Eg l k=((l.take k).map G2.se).sum
 | 0,_=>rfl
 | k+1,h=>by
  have hk:l[k]? = some l[k]:=Aa (by omega)
  rw[S4 hk,Aad hs k (by omega),List.take_add_one,hk,(He _).2.2 (hs _ (List.getElem_mem _))]
  simp only[List.map_append,List.sum_append,Option.toList_some,List.map_cons,List.map_nil,List.sum_cons,List.sum_nil]
  omega
theorem Q5 {l:List G2} {s:Nat}:∀k,(s:Int)<Eg l k->∃(i:Nat) (a:G2) (j:Nat),l[i]? = some a/\(j:Int)<Ee a/\s=(Eg l i).toNat+j
 | 0,h=>by rw[Eg] at h;omega
 | k+1,h=>by
  by_cases hk:(s:Int)<Eg l k
  ·exact Q5 k hk
  have h0:=(Iq l k).1
  rw[Eg] at h
  cases ha:l[k]? with
  | none=>rw[ha] at h;simp only at h;omega
  | some a=>rw[ha] at h;simp only at h;exact⟨k,a,s - (Eg l k).toNat,ha,by omega,by omega⟩
theorem Axv {L:List Ea} {m:Ea} (h:m∈L):(Q9 m).length<=(L.map Q9).flatten.length:=by
 induction L with
 | nil=>cases h
 | cons x L ih =>
  rw[List.map_cons,List.flatten_cons,Bo]
  rcases List.mem_cons.1 h with rfl | h
  ·omega
  have:=ih h;omega
theorem Aua {b:Gt} {e:I5} (hb:Qa b) (he:Lo e) (hk:e.kind=6) (hn:b.city.now=0) {a:G2} (ha:b.city.cfg.ags[0]? = some a) (hj:0<Ee a) {s:Er} (hs:b.sess[0]? = some s) (ho:s.op=true):(Mo b e).2.2=true/\((Mo b e).2.1.ses.length:Int)=Eg b.city.cfg.ags b.city.cfg.ags.length/\∃o,(Mo b e).2.1.ses[0]? = some o/\10<o.length:=by
 have hq:=Gc b e hb he
 rw[<- K5 hb he] at hq
 generalize Mo b e=D at hq ⊢
 obtain⟨t1,t2,t3,l,S,hl,hTk,hTic,hsl,hout⟩:=hq.tick hk
 have hcfg:=hq.cfg
 have hnow:D.1.city.now=1:=by rw[t3,hn,if_neg (by omega)];rfl
 obtain⟨x,p,hx,hp,hK⟩:=hTk 0 s (Ab.1 hs).1 hs
 obtain⟨ee,_,hee⟩:=hK.2 ho
 have hpo:p.op=true:=congrArg (fun z:Er×Fs=>z.2.op) hee
 obtain⟨rp,en,⟨ens,_,_,hA⟩,hrl,hSI⟩:=hTic
 have hd0:0<b.city.desks.length:=by rw[hb.city.desks];exact (Ab.1 ha).1
 obtain⟨_,r,_,_,k1,k2,_,k4⟩:=(hA 0 _ a (Aa hd0) ha).1 hd0
 obtain⟨q,hq1,hq2⟩:=hSI 0 0 a r (.inl (by show 0<D.1.city.cfg.ags.length;rw[hcfg];exact (Ab.1 ha).1)) (by show D.1.city.cfg.ags[0]? = _;rw[hcfg];exact ha) hj k2
 have hq1:S.ses[0]? = some q:=hq1
 have hso:0<D.2.1.ses.length:=by
  have hsl:S.ses.length=D.2.1.ses.length:=hsl
  rw[<- hsl]
  exact (Ab.1 hq1).1
 refine⟨t1,t2,_,Aa hso,?_⟩
 rw[hout 0 q _ hq1 (Aa hso)]
 rcases hq2 with⟨_,_,_,E,M,m1,m2,m3⟩ | ⟨hno,_⟩
 ·have m2:StS D.1.city E M:=m2
  have hv4:D.1.city.views.length<=4:=by have:=hq.i.city.views;have:=hq.i.city.nj;omega
  have hvl:=Acf hq.i.city.view
  have hrq:=(hq.i.city.desk E (Ac m1)).1.rq
  have hM:Hi M:=Afq (by rw[m2.2.2.1];simp) (by rw[m2.2.1];simp) (by rw[m2.2.2.2.1];omega)
  have hP:P17 M D.1.city.now:=⟨m2.1,m2.2.2.1,m2.2.1,by rw[hnow];rfl,by rw[m2.2.2.2.1];omega⟩
  have hm:M∈q:=by
   rw[m3]
   refine Bn.2 ⟨?_,A2b hM hP⟩
   unfold Xi
   exact Bj _ (List.mem_append_right _ (An.2 rfl))
  have h1:=Axv hm
  rw[A0j hP,hnow,show (Fl 1).1.length=1 from rfl] at h1
  omega
 have:=hno p hp
 rw[hpo] at this
 cases this
theorem Auy {c:E5} (hb:Adg c) (hp:L7 c=true) (hJ:∀j∈c.juns,Ou j/\j.phs.length<=8) (hA:∀a∈c.ags,a.sec.length<=1000000/\a.lims.length<=1000000/\a.rq<=3) (hl1:c.juns.length<=4) (hl2:c.ags.length<=4) (hS:∀x∈c.ags,1<=x.se/\x.se<=2) (h1:c.ags.length=1) (hse:∀a∈c.ags,a.se=1) :
 ∃b f,Aae (Gf c hb hp hJ hA hl1 hl2 hS) [⟨1,0,0,0,[]⟩,⟨6,0,0,0,[]⟩]=[⟨[b],f⟩]/\10<b.length:=by
 obtain⟨q1,q2,q3,q4,q5,q6⟩:=Q8 c hb hp hJ hA hl1 hl2 hS
 generalize Gf c hb hp hJ hA hl1 hl2 hS=B at q1 q2 q3 q4 q5 q6
 have ha:c.ags[0]? = some c.ags[0]:=Aa (by omega)
 have hse0:=hse _ (Ac ha)
 have hcn:Ee c.ags[0]=1:=by rw[(He _).2.2 (by omega)];exact hse0
 have hsum:Eg c.ags c.ags.length=1:=by
  rw[h1,S4 ha,hcn]
  rfl
 have hsl:0<B.sess.length:=by
  rw[<- List.take_length (l:=c.ags),<- Aad hS _ (Aj _),hsum] at q4
  omega
 have hz:B.sess[0]? = some ⟨false,false,⟨[],false⟩⟩:=by rw[Aa hsl,q5 _ (List.getElem_mem _)]
 have hE1:Lo ⟨1,0,0,0,[]⟩:=Hr rfl
 have d1:=Gc B ⟨1,0,0,0,[]⟩ q1 hE1
 have hsq:=q1.ses _ (Ac hz)
 have hop:=(S8 _ hsq.1).2.2.1
 have hds:Td B.sess ⟨1,0,0,0,[]⟩=B.sess.set 0 (I1 ⟨false,false,⟨[],false⟩⟩ hsq.1):=by
  rw[Sc (s:=⟨false,false,⟨[],false⟩⟩) (by decide) hz,Alr hsq (by simp) rfl]
  rfl
 have f1:=d1.few (by decide:(1:Int)<=3)
 rw[hds] at f1
 have i1:=d1.i
 rw[f1] at i1
 have e1:Mo B ⟨1,0,0,0,[]⟩=_:=(K5 q1 hE1).trans f1
 obtain⟨g1,g2,x,g3,g4⟩:=Aua (e:=⟨6,0,0,0,[]⟩) i1 (Hr rfl) rfl q3 (by rw[q2];exact ha) (by rw[hcn];decide) (Bg hsl) hop
 rw[q2,hsum] at g2
 rw[Aae,e1,if_neg Bool.false_ne_true,Aae,if_pos g1,Aae]
 generalize (Mo _ (⟨6,0,0,0,[]⟩:I5)).2.1=o at g2 g3
 obtain⟨s,f⟩:=o
 match s,g2,g3 with
 | [y],_,g3 =>
  have g3:some y=some x:=g3
  injection g3 with g3
  exact⟨y,f,rfl,by rw[g3];exact g4⟩
section
def Aph (m:Ea):Bool:=m.kind == 16||(m.kind == 14&&(m.args.length == 2&&(match m.args[0]? with | some a=>decide (2<=a)&&decide (a<=8) | none=>false)))
def Oq (l:List Ea):Nat:=l.countP Aph
theorem U6 (l m:List Ea):Oq (l++m)=Oq l+Oq m:=List.countP_append
structure BkI (b:Jh):Prop where
  lv:0<=b.lv
  le:b.lv<=b.bu
  ra:0<=b.ra
  ru:b.ra<=1000
  bu:b.bu<=1000
def BkS (a b:Jh) (n:Nat):Prop:=b.ra=a.ra/\b.bu=a.bu/\0<=b.lv/\b.lv+n<=a.lv
theorem BkS.refl {a:Jh} (h:BkI a):BkS a a 0:=⟨rfl,rfl,h.lv,by omega⟩
variable {a b:Jh} {n k:Nat}
theorem BkS.mono (h:BkS a b n) (hk:k<=n):BkS a b k:=⟨h.1,h.2.1,h.2.2.1,by have:=h.2.2.2;omega⟩
theorem BkS.trans {a b c:Jh} (h:BkS a b n) (h':BkS b c k):BkS a c (n+k):=⟨h'.1.trans h.1,h'.2.1.trans h.2.1,h'.2.2.1,by have:=h.2.2.2;have:=h'.2.2.2;omega⟩
theorem BkS.I {n:Nat} (h:BkS a b n) (ha:BkI a):BkI b:=by
 obtain⟨h1,h2,h3,h4⟩:=h
 have:=ha.le
 exact⟨h3,by omega,by rw[h1];exact ha.ra,by rw[h1];exact ha.ru,by rw[h2];exact ha.bu⟩
theorem LvR.step {k:Int} (h:LvR k a b) (ha:BkI a):BkS a b (if 2<=k/\k<=8 then 1 else 0):=by
 unfold LvR at h
 have h1:=ha.le
 have h2:=ha.bu
 split at h
 ·rename_i hk
  rw[if_pos hk]
  unfold R4 at h
  split at h
  ·cases h
  rename_i h0
  simp only[Prod.mk.injEq,and_true] at h
  rw[<- h]
  have e:=Dx (a.lv - 1)
  exact⟨rfl,rfl,by dsimp only;omega,by dsimp only;omega⟩
 rename_i hk
 rw[if_neg hk,h]
 exact .refl ha
variable {x y:Dy} {it:E8} {m:Ea}
theorem OkR.bk {now sl:Int} (h:OkR x it now m y sl):LvR m.kind x.reg.bk y.reg.bk:=by
 obtain⟨h1,h2,r,h3,rfl⟩:=h.op
 have hq:=(M3 x.reg m now h1 h2).1
 rw[h3] at hq
 obtain⟨⟨bk,e,hL⟩,_⟩:=hq rfl
 have e:r={ x.reg with bk:=bk }:=e
 rw[e]
 exact hL
structure U9 (m:Ea):Prop where
  k1:13<=m.kind
  k2:m.kind<=20
  by':By m.data
theorem As9 (m:Ea):Oq [m]<=1:=List.countP_le_length
theorem Adc (h:Aph m=false):Oq [m]=0:=by simp[Oq,h]
variable {cfg:E5} {ses now:Int}
theorem Ab2.bk {x:Dy} {e:Dy×Ea×Int×Int} (h:Ab2 cfg x ses it now e) (hb:BkI x.reg.bk):BkS x.reg.bk e.1.reg.bk 0/\(e.2.2.2=0->BkS x.reg.bk e.1.reg.bk (Oq [e.2.1])/\U9 e.2.1):=by
 cases h with
 | bad hc _=>exact⟨.refl hb,fun h=>absurd h hc⟩
 | @reg m y sl R h1 hk h2 =>
  obtain⟨a1,a2,a3,a4,a5,a6,a7,rfl⟩:=h2
  have q:=M5 y m sl now a1 a2 a3 a4 a5 a6 a7
  have hS:=h1.bk.step hb
  rw[if_pos (by omega),<- q.2.2.2.2.2.1] at hS
  exact⟨hS.mono (by omega),fun h0=>⟨hS.mono (As9 _),by
   have q3:=q.2.2.2.2.2.2.1 h0
   have hk:=q3.1.elim (fun h=>Or.inl h.1) fun h=>Or.inr (b:=(Eo y m sl now a1 a2 a3 a4 a5 a6 a7).2.1.kind=16) h.2.1
   exact⟨by dsimp only;omega,by dsimp only;omega,q3.2⟩⟩⟩
 | @ask m y sl c l h1 hk hc h2=>exact⟨(h1.bk.step hb).mono (by omega),fun h=>absurd h hc⟩
 | @asked m y sl v l h1 hk h2 hv =>
  have hS:=h1.bk.step hb
  rw[if_pos (by omega)] at hS
  refine⟨hS.mono (by omega),fun _=>⟨hS.mono (As9 _),?_⟩⟩
  dsimp only
  rw[Na]
  exact⟨by simp,by simp,.nil⟩
 | @no m y sl h1 hk=>exact⟨(h1.bk.step hb).mono (by omega),fun h=>absurd h (by simp)⟩
 | @aud m y sl v l h1 hk hv h2 =>
  have hS:=(h1.bk.step hb).mono (Ae _)
  refine⟨hS,fun _=>?_⟩
  dsimp only
  rw[Na]
  refine⟨?_,by simp,by simp,.nil⟩
  rw[Adc (by simp[Aph,hk])]
  exact hS
 | @reset m y sl v h1 hk hv =>
  have hS:=(h1.bk.step hb).mono (Ae _)
  refine⟨hS,fun _=>?_⟩
  dsimp only
  rw[Na]
  refine⟨?_,by simp,by simp,.nil⟩
  rw[Adc (by simp[Aph,hk])]
  exact hS
 | @tell m y sl h1 hk a1 a2 =>
  have hS:=(h1.bk.step hb).mono (Ae _)
  have q:=Xy y m.kind now a1 a2
  have hk2:(Ii y m.kind now a1 a2).kind=13\/(Ii y m.kind now a1 a2).kind=19\/(Ii y m.kind now a1 a2).kind=20:=q.2.2.2.elim (fun h=>.inl h.2.1) fun h=>.inr (h.elim (fun h=>.inl h.2.1) fun h=>.inr h.2.2.1)
  refine⟨hS,fun _=>⟨?_,by dsimp only;omega,by dsimp only;omega,by dsimp only;rw[q.2.1];exact .nil⟩⟩
  dsimp only
  rw[Adc (by rcases hk2 with h | h | h<;>simp[Aph,h])]
  exact hS
theorem Avj.bk {x:Dy} {d:Dy×Ea×F3×Int} (h:Avj cfg x ses it now d) (hb:BkI x.reg.bk):BkS x.reg.bk d.1.reg.bk (Oq [d.2.1])/\U9 d.2.1:=by
 obtain⟨e,hx,e1,_,e3,e4⟩:=h
 have hB:=hx.bk hb
 rw[e1]
 by_cases h0:e.2.2.2=0
 ·rw[(e3 h0).1]
  exact hB.2 h0
 rw[(e4 h0).1,Adc (by simp[Aph])]
 exact⟨hB.1,by simp,by simp,.nil⟩
variable {e:List F3} {s:List Int}
theorem ItR.bk {l:List E8} {r:List Ea} (h:ItR cfg ses now x l y r e s) (hb:BkI x.reg.bk):BkS x.reg.bk y.reg.bk (Oq r)/\∀m∈r,U9 m:=by
 induction h with
 | nil=>exact⟨.refl hb,fun _ h=>absurd h A8⟩
 | app h1 h2 ih =>
  obtain⟨hd,hp,h3⟩:=h2
  have hq:=(Kz cfg _ ses _ now hd hp).2
  rw[h3] at hq
  have hB:=hq.bk (ih.1.I hb)
  exact⟨by rw[U6];exact ih.1.trans hB.1,Kr ih.2 hB.2⟩
variable {l:List Fs} {r:List (List Ea)}
theorem Zr.bk {now:Int} (h:Zr cfg now x l y r e s) (hb:BkI x.reg.bk):BkS x.reg.bk y.reg.bk (Oq r.flatten)/\∀q∈r,∀m∈q,U9 m:=by
 induction h with
 | nil=>exact⟨.refl hb,fun _ h=>absurd h A8⟩
 | closed h1 h2 ih=>exact⟨by simpa using ih.1,Kr ih.2 fun _ h=>absurd h A8⟩
 | opened h1 h2 h3 ih =>
  have hB:=h3.bk (ih.1.I hb)
  exact⟨by rw[List.flatten_append,U6];simpa using ih.1.trans hB.1,Kr ih.2 hB.2⟩
theorem Wl.bk {x:Dy} {now:Int} {d:Dy×List (List Ea)×List F3×List Int} (h:Wl cfg x l now d) (hb:BkI x.reg.bk):BkS x.reg.bk d.1.reg.bk (Oq d.2.1.flatten)/\∀q∈d.2.1,∀m∈q,U9 m:=by
 obtain⟨b,y,r,h1,h2,_,_,hS,e1,e2⟩:=h
 have hB:=Zr.bk hS hb
 rw[e1,e2]
 refine⟨?_,fun q hq=>(A0.1 hq).elim (hB.2 q) fun h=>?_⟩
 ·rw[List.flatten_append,U6,show (List.replicate (x.aud.length - r.length) ([]:List Ea)).flatten=[] by simp]
  exact hB.1
 rw[(List.mem_replicate.1 h).2]
 exact fun _ h=>absurd h A8
theorem Abe {b:Jh} (h:BkI b):BkI (N9 b)/\(N9 b).ra=b.ra/\(N9 b).bu=b.bu/\(N9 b).lv<=b.lv+b.ra:=by
 obtain⟨h1,h2,h3,h4,h5⟩:=h
 have e:=Dx (b.lv+b.ra)
 unfold N9
 rw[e]
 refine⟨⟨?_,?_,h3,h4,h5⟩,rfl,rfl,?_⟩<;>dsimp only<;>split<;>omega
theorem Ar5.bk {c:Fm} {k:Nat} {d:Dy} {a:G2} {D:Dy×List (List Ea)×List F3×List Int} (h:Ar5 c l k d a D) (hb:BkI d.reg.bk):BkS (N9 d.reg.bk) D.1.reg.bk (Oq D.2.1.flatten)/\(∀q∈D.2.1,q.length<=257/\∀m∈q,U9 m)/\D.2.1.length=d.aud.length:=by
 obtain⟨hb',h1,h2,h3,h4,rfl⟩:=h
 have hq:=Nm c.cfg (Et d c.now hb') (P6 l (Eg c.cfg.ags k).toNat (Ee a).toNat) c.now h1 h2 h3 h4
 have hB:=Oe d c.now hb'
 have hR:=Ku d.reg c.now hb'.reg
 have e:(Et d c.now hb').reg.bk=N9 d.reg.bk:=by rw[hB.2.1,hR.2.2.2.2]
 have hX:=hq.2.bk (by rw[e];exact (Abe hb).1)
 rw[e] at hX
 exact⟨hX.1,fun q h=>⟨(hq.1.2.2.2.2.2.1 q h).1,hX.2 q h⟩,by rw[hq.1.2.2.2.2.1,hB.2.2.2.2]⟩
theorem By.viN:∀(f:Nat) (n:Int),By (viN f n)
 | 0,n=>.u8 n
 | f+1,n=>by
  rw[Go.Proofs.YtkkimgjinbaemaaGreat.viN]
  split
  ·exact .cons (Rt _) (By.viN f _)
  exact .u8 n
theorem By.vi (n:Int):By (Fl n).1:=by
 unfold Fl
 split
 ·exact .nil
 exact .viN 5 n
theorem By.codes (l:List Int):By (codes l):=by
 induction l with
 | nil=>rw[Akm];exact .nil
 | cons a l ih=>rw[show a::l=[a]++l from rfl,U5];exact .app (by simp[Go.Proofs.YtkkimgjinbaemaaGreat.codes];exact .vi a) ih
theorem By.msArgs (s:F5) (l:List Int):By (msArgs s l):=by
 unfold Go.Proofs.YtkkimgjinbaemaaGreat.msArgs
 split
 ·exact .app (.app (.codes _) (.vi _)) (.codes _)
 exact .codes _
theorem Y7.by (h:Y7 m) (hB:By m.data):By (Q9 m)/\(Q9 m).length<=210:=by
 refine⟨?_,?_⟩
 ·rw[Apb h]
  have ht:m.tok=[]:=by
   obtain⟨s,hs⟩:=h.sh
   exact List.length_eq_zero_iff.1 (A66 hs h.ok).tok
  have he:By (Lk m).1:=by
   rw[<- Abq h.ok rfl,ht]
   exact .app (.app .nil (.msArgs _ _)) hB
  unfold Gn
  refine .app (.app ?_ he) ?_
  ·exact .cons (by decide) (.cons (by decide) (.cons (by decide) (.cons (Rt _) (.cons (Rt _) (.u8 _)))))
  exact .cons (Rt _) (.cons (Rt _) (.cons (Rt _) (.u8 _)))
 have hq:=(M4 m h.h1 h.h2 h.h3)
 by_cases h0:(Fo m h.h1 h.h2 h.h3).2=0
 ·rw[Afu h.h1 h.h2 h.h3 h0];exact hq.1
 rw[As2 h.h1 h.h2 h.h3 h0];exact Ae _
theorem Aob {L:List Ea} (h:∀m∈L,Y7 m/\By m.data):By (L.map Q9).flatten/\(L.map Q9).flatten.length<=210*L.length:=by
 induction L with
 | nil=>exact⟨.nil,Ae _⟩
 | cons m L ih =>
  have h1:=h m (List.mem_cons_self ..)
  have h2:=h1.1.by h1.2
  have h3:=ih fun x hx=>h x (List.mem_cons_of_mem _ hx)
  rw[List.map_cons,List.flatten_cons,Bo,A6]
  exact⟨h2.1.app h3.1,by omega⟩
theorem Axc {k:Int} (h1:13<=k) (h2:k<=20):∃s,Ta k=some s:=by
 have:k=13\/k=14\/k=15\/k=16\/k=17\/k=18\/k=19\/k=20:=by omega
 rcases this with rfl | rfl | rfl | rfl | rfl | rfl | rfl | rfl<;>exact⟨_,rfl⟩
theorem A1w (h:(!Ov m)=true) (hr:U9 m):Y7 m:=by
 unfold Ov at h
 split at h
 ·rename_i hM
  have hv:=Qw m hM.v.1 hM.v.2.1 hM.v.2.2
  have he:=J6 m hM.v.1 hM.v.2.1 hM.v.2.2
  rw[hv,he] at h
  refine⟨Axc hr.k1 hr.k2,?_,hM.v.1,hM.v.2.1,hM.v.2.2⟩
  by_cases hk:Ol m
  ·exact hk
  rw[<- Ao0 hk] at h
  exact absurd h (by decide)
 cases h
variable {i j:Nat} {en:List F3} {q:List Ea}
theorem Aps.srv {S:Fm} (h:Aps S l i j r en q) (hr:∀x∈r,x.length<=257/\∀m∈x,U9 m):(∀m∈q,Y7 m/\By m.data)/\q.length<=259/\Oq q<=Oq ((r[j]?).getD []):=by
 rcases h with⟨p,_,_,E,M,_,m2,m3⟩ | ⟨_,rfl⟩
 ·have m3:q=(((r[j]?).getD []++[M])++(if E.aud[j]? = some true then [(⟨18,[],S.now::(en.take 16).flatMap Ll,[]⟩:Ea)] else [])).filter fun m=>!Ov m:=m3
  have hj:((r[j]?).getD []).length<=257/\∀m∈(r[j]?).getD [],U9 m:=by
   cases hj:r[j]? with
   | none=>exact⟨Ae _,fun _ h=>absurd h A8⟩
   | some x=>exact hr x (Ac hj)
  generalize (r[j]?).getD []=y at m3 hj ⊢
  have hM:U9 M:=⟨by rw[m2.1];decide,by rw[m2.1];decide,m2.2.2.2.2⟩
  generalize hT:(if E.aud[j]? = some true then [(⟨18,[],S.now::(en.take 16).flatMap Ll,[]⟩:Ea)] else [])=T at m3
  have hTq:T.length<=1/\Oq T=0/\∀m∈T,U9 m:=by
   rw[<- hT]
   split
   ·exact⟨Aj _,Adc (by simp[Aph]),fun m h=>by rw[An.1 h];exact { k1:=by simp,k2:=by simp,by':=.nil }⟩
   exact⟨Ae _,rfl,fun _ h=>absurd h A8⟩
  have hall:∀m∈y++[M]++T,U9 m:=fun m h=>by
   rcases A0.1 h with h | h
   ·exact Kr hj.2 hM m h
   exact hTq.2.2 m h
  rw[m3]
  refine⟨fun m h=>?_,?_,?_⟩
  ·have h:=Bn.1 h
   exact⟨A1w h.2 (hall m h.1),(hall m h.1).by'⟩
  ·refine Ak (Az _ _) ?_
   rw[Bo,Bo,List.length_singleton]
   omega
  refine Ak (List.Sublist.countP_le List.filter_sublist) ?_
  show Oq (y++[M]++T)<=_
  rw[U6,U6,hTq.2.1,Adc (by simp[Aph,m2.1])]
  exact Aj _
 exact⟨fun _ h=>absurd h A8,Ae _,Ae _⟩
structure Ab0 (b:List Int) (L:List Ea):Prop where
  srv:∀m∈L,Y7 m
  eq:b=(L.map Q9).flatten
  len:b.length<=1000000
  by':By b
theorem Aps.said {S:Fm} (h:Aps S l i j r en q) (hr:∀x∈r,x.length<=257/\∀m∈x,U9 m):Ab0 (q.map Q9).flatten q/\q.length<=259/\Oq q<=Oq ((r[j]?).getD []):=by
 have h:=h.srv hr
 have hf:=Aob h.1
 exact⟨⟨fun m hm=>(h.1 m hm).1,rfl,by omega,hf.1⟩,h.2⟩
end
section
theorem Avt (a:Int):vnl a<=5:=by
 unfold vnl
 repeat' split
 all_goals omega
theorem Um (a:Int) (l:List Int):Np (a::l)=vnl a+Np l:=rfl
theorem Asa (l:List Int):Np l<=5*l.length:=by
 induction l with
 | nil=>exact Ae _
 | cons a l ih =>
  have:=Avt a
  rw[Um,A6]
  omega
theorem Anl {l:List Int} (h:∀a∈l,NB a):Jv l:=fun a ha=>by
 have:=h a ha
 unfold NB at this
 unfold Fl
 rw[if_neg (by omega)]
variable {s:F5}
theorem Al6 {m:Ea} (hs:Ta m.kind=some s) (ht:m.tok=[]) (hd:s.dat = -1\/(m.data.length:Int)=s.dat) (hd2:m.data.length<=100) (hg:(s.grp=0/\(m.args.length:Int)=s.fix)\/∃g:Int,0<=g/\g<=s.mos/\0<s.grp/\(m.args.length:Int) - s.fix=s.grp*g) (hr:∀a∈m.args,NB a) (hl:Np m.args<=99):Ol m:=by
 have hb:=Axd hs
 have hsh:=(Gm m.kind).1.2 s hs
 have h6:=Anl hr
 have hgr:∃g:Int,Ko s m.args.length=(g,true)/\0<=g/\g<=100:=by
  unfold Ko
  rcases hg with⟨h1,h2⟩ | ⟨g,h1,h2,h3,h4⟩
  ·rw[if_pos h1]
   exact⟨0,by simp[h2],by decide,by decide⟩
  have hnn:0<=s.grp*g:=Int.mul_nonneg (by omega) h1
  have e1:(s.grp*g).tmod s.grp=0:=Int.mul_tmod_right _ _
  have e2:(s.grp*g).tdiv s.grp=g:=Int.mul_tdiv_cancel_left _ (by omega)
  have hlea:=hb.2.2.2.2.2.2.2.1
  rw[if_neg (by omega),h4,if_neg (by rw[e1];omega),e2,hlea]
  exact⟨g,by simp[h1,h2],h1,by omega⟩
 have hlen:(msArgs s m.args).length<=Np m.args+1:=by
  unfold msArgs
  split
  ·obtain⟨g,e,g0,g1⟩:=hgr
   rw[e]
   have hv:(Fl g).2=0:=Anl (l:=[g]) (fun a h=>by rw[An.1 h];exact⟨g0,by omega⟩) g (List.mem_singleton_self _)
   have hl:=(Vl hv).1
   rw[show vnl g=1 by unfold vnl;rw[if_pos (by omega)]] at hl
   have:Np (m.args.take s.fix.toNat)+Np (m.args.drop s.fix.toNat)=Np m.args:=by
    unfold Np
    rw[<- List.sum_append,<- List.map_append,List.take_append_drop]
   simp only[Bo,hl,Lm (Vm h6 _),Lm (O8 h6 _)]
   omega
  rw[Lm h6]
  omega
 refine⟨by rw[hsh],by rw[hsh,ht];exact hb.2.2.1.symm,by rw[hsh];exact hd,?_,by omega,h6,?_⟩
 ·rw[hsh]
  obtain⟨g,e,_⟩:=hgr
  dsimp only
  rw[e]
 rw[hsh,ht]
 simp only[Bo,List.length_nil]
 omega
structure Ah0 (m:Ea):Prop where
  srv:Y7 m
  sz:Hi m
  by':By m.data
  nt:m.kind≠17/\m.kind≠18
  a15:m.kind=15->2<=m.args.length
  a14:m.kind=14->1<=m.args.length
theorem Alq {m:Ea} (hs:Ta m.kind=some s) (ho:Ol m) (hz:Hi m):Y7 m:=⟨⟨s,hs⟩,ho,hz.v.1,hz.v.2.1,hz.v.2.2⟩
theorem Afn {m:Ea} (hs:Ta m.kind=some s) (ht:m.tok=[]) (hd:s.dat = -1\/(m.data.length:Int)=s.dat) (hd2:m.data.length<=100) (hg:(s.grp=0/\(m.args.length:Int)=s.fix)\/∃g:Int,0<=g/\g<=s.mos/\0<s.grp/\(m.args.length:Int) - s.fix=s.grp*g) (hr:∀a∈m.args,NB a) (hl:m.args.length<=19) (hB:By m.data) (hn:m.kind≠17/\m.kind≠18) (h15:m.kind=15->2<=m.args.length:=by intro h;simp_all) (h14:m.kind=14->1<=m.args.length:=by intro h;simp_all):Ah0 m:=by
 have hz:Hi m:=⟨by rw[ht];exact Ae _,by omega,by omega⟩
 have:=Asa m.args
 exact⟨Alq hs (Al6 hs ht hd hd2 hg hr (by omega)) hz,hz,hB,hn,h15,h14⟩
theorem A0h {m:Ea} (h:Ol m) (hz:Hi m):(!Ov m)=true:=by
 have hv:=Qw m hz.v.1 hz.v.2.1 hz.v.2.2
 have he:=J6 m hz.v.1 hz.v.2.1 hz.v.2.2
 unfold Ov
 rw[dif_pos hz,hv,he,<- Abq h rfl]
 rfl
def A7h (k:Int):Int:=if k=13 then 1 else if k=16 then 2 else if k=19 then 9 else if k=20 then 12 else 0
def L3 (n:Int) (m:Ea):List Int:=if m.kind=17 then [] else if m.kind=18 then [] else if m.kind=15 then [n,m.args.getD 0 0,m.args.getD 1 0] else if m.kind=14 then [n,m.args.getD 0 0,0] else [n,A7h m.kind,0]
theorem Ea.eq4 {m:Ea} {k:Int} {a:List Int} (h1:m.kind=k) (h2:m.tok=[]) (h3:m.args=a) (h4:m.data=[]):m=⟨k,[],a,[]⟩:=by
 cases m
 simp only at h1 h2 h3 h4
 rw[h1,h2,h3,h4]
theorem nb2 {a b:Int} (ha:NB a) (hb:NB b):∀x∈[a,b],NB x:=fun x h=>by
 rcases List.mem_cons.1 h with rfl | h
 ·exact ha
 rw[An.1 h]
 exact hb
theorem A12 {k a b:Int} (hk:k=13\/k=14\/k=15) (ha:NB a) (hb:NB b):Ah0 ⟨k,[],[a,b],[]⟩:=Afn (s:=⟨0,2,0,0,0,0⟩) (if_pos hk) rfl (.inr rfl) (Ae _) (.inl ⟨rfl,rfl⟩) (nb2 ha hb) (by simp) .nil (by dsimp only;omega)
def A0z (n k:Int) (m:Ea):Prop:=Ah0 m/\L3 n m=[n,k,0]
theorem Asr {n k v:Int} (hk:NB k) (hv:NB v):A0z n k ⟨14,[],[k,v],[]⟩:=⟨A12 (by decide) hk hv,rfl⟩
variable {x y:Dy} {it:E8}
section
variable {now sl:Int} {m:Ea} (h:OkR x it now m y sl)
include h
theorem OkR.eq:∃bk,y=⟨{ x.reg with bk:=bk },x.reqs,x.draws,x.aud⟩:=by
 obtain⟨h1,h2,r,h3,rfl⟩:=h.op
 have hq:=(M3 x.reg m now h1 h2).1
 rw[h3] at hq
 obtain⟨⟨bk,e,_⟩,_⟩:=hq rfl
 exact⟨bk,by rw[show r={ x.reg with bk:=bk } from e]⟩
theorem OkR.nb:NB m.kind:=by
 have:=h.srv
 have:=h.kind
 exact⟨by omega,by omega⟩
end
theorem A4j {x:Dy} {k now:Int} {m:Ea} (hk:k=1\/k=9\/k=12) (h:m.tok=[]/\m.data=[]/\m.args.length<=2000/\A2x x k now m) (hd:Gg x) (hb:BkI x.reg.bk) (hn:NB x.reg.num) (hnow:NB now) (hq:0<=x.reg.ag.rq):A0z x.reg.num k m:=by
 obtain⟨h1,h2,_,⟨h3,h4,h5⟩ | ⟨h3,h4,h5⟩ | ⟨h3,h3',h4,f,f0,f1,h5⟩⟩:=h
 ·rw[Ea.eq4 h4 h1 h5 h2,h3]
  exact⟨A12 (by decide) hn hnow,rfl⟩
 ·rw[Ea.eq4 h4 h1 h5 h2,h3]
  have hl:(x.reqs.flatMap fun r=>[r.id,r.unt]).length=2*x.reqs.length:=by
   generalize x.reqs=l
   induction l with
   | nil=>rfl
   | cons r l ih=>rw[List.flatMap_cons,Bo,ih];simp;omega
  have h3:=hd.reqs
  refine⟨Afn (s:=⟨0,0,2,0,4,0⟩) rfl rfl (.inr rfl) (Ae _) (.inr ⟨x.reqs.length,by omega,by dsimp only;omega,by decide,by dsimp only;omega⟩) (fun a ha=>?_) (by dsimp only;omega) .nil (by simp),rfl⟩
  obtain⟨r,hr,ha⟩:=List.mem_flatMap.1 ha
  exact nb2 (hd.rk r hr).1 (hd.rk r hr).2 a ha
 have hk:k=12:=by omega
 rw[Ea.eq4 h4 h1 h5 h2,hk]
 have e1:=hd.vehs
 have e2:=hd.rl
 have e3:=hd.rq
 have e4:=hd.b.reg.toks
 have e5:=hb.lv
 have e6:=hb.le
 have e7:=hb.bu
 rw[Dx (8 - (x.reg.vehs.length:Int)),Dx (x.reg.ag.rq - (x.reqs.length:Int))]
 refine⟨Afn (s:=⟨0,4,0,0,0,0⟩) rfl rfl (.inr rfl) (Ae _) (.inl ⟨rfl,rfl⟩) (fun a ha=>?_) (by simp) .nil (by simp),rfl⟩
 simp only[List.mem_cons,A8,or_false] at ha
 rcases ha with rfl | rfl | rfl | rfl<;>exact⟨by omega,by omega⟩
structure Y8 (n:Int) (x:Dy):Prop where
  bk:BkI x.reg.bk
  num:x.reg.num=n
  rq:0<=x.reg.ag.rq
def ItB (t:E8):Prop:=(0<=t.kind/\t.kind<=99)/\0<=t.code/\t.code<=99
def Afb (e:F3):Prop:=(0<=e.ag/\e.ag<=99)/\(0<=e.kind/\e.kind<=99)/\0<=e.code/\e.code<=99
variable {cfg:E5} {ses now n:Int}
theorem Ab2.rep {x:Dy} {e:Dy×Ea×Int×Int} (h:Ab2 cfg x ses it now e) (hd:Gg x) (ha:Y8 n x) (hn:0<=n/\n<=99) (hnow:NB now) (hc:ItB it):(e.1.reg.num=n/\0<=e.1.reg.ag.rq)/\(0<=e.2.2.2/\e.2.2.2<=99)/\(e.2.2.2=0->A0z n it.kind e.2.1):=by
 have hc2:=hc.2
 have key:∀{m y sl},OkR x it now m y sl->(y.reg.num=n/\0<=y.reg.ag.rq)/\m.kind=it.kind/\NB m.kind:=fun h=>by
  obtain⟨bk,e⟩:=h.eq
  rw[e]
  exact⟨⟨ha.num,ha.rq⟩,h.kind,h.nb⟩
 cases h with
 | bad h0 h1=>exact⟨⟨ha.num,ha.rq⟩,by dsimp only;omega,fun h=>absurd h h0⟩
 | @reg m y sl R h1 hk h2 =>
  obtain⟨a1,a2,a3,a4,a5,a6,a7,rfl⟩:=h2
  have q:=M5 y m sl now a1 a2 a3 a4 a5 a6 a7
  have hy:=key h1
  generalize Eo y m sl now a1 a2 a3 a4 a5 a6 a7=R at q
  refine⟨⟨q.2.2.1.trans hy.1.1,by dsimp only;rw[q.2.2.2.1];exact hy.1.2⟩,q.2.2.2.2.2.2.2,fun h0=>?_⟩
  rw[<- hy.2.1]
  rcases (q.2.2.2.2.2.2.1 h0).1 with⟨k1,k2,k3,v,k4,k5⟩ | ⟨k0,k1,k2,v,k3,k4,k5⟩
  ·show A0z n m.kind R.2.1
   rw[Ea.eq4 k1 k2 k5 k3]
   exact Asr hy.2.2 (h1.args v (Ac k4))
  refine⟨Afn (s:=⟨0,1,0,0,0,10⟩) (by show Ta R.2.1.kind=_;rw[k1];rfl) k2 (.inr (by show ((R.2.1.data.length:Nat):Int)=10;rw[k5];rfl)) (by show R.2.1.data.length<=_;omega) (.inl ⟨rfl,by show ((R.2.1.args.length:Nat):Int)=1;rw[k3];rfl⟩) (fun a ha=>?_) (by show R.2.1.args.length<=_;rw[k3];simp) (q.2.2.2.2.2.2.1 h0).2 (by show R.2.1.kind≠17/\R.2.1.kind≠18;rw[k1];decide) (fun h=>by rw[show R.2.1.kind=15 from h] at k1;cases k1) (fun h=>by rw[show R.2.1.kind=14 from h] at k1;cases k1),?_⟩
  ·have ha:a∈R.2.1.args:=ha
   rw[k3] at ha
   rw[An.1 ha]
   exact k4
  show L3 n R.2.1=_
  unfold L3
  rw[k1,k0]
  rfl
 | @ask m y sl c l h1 hk hc h2 =>
  obtain⟨a1,a2,a3,a4,a5,a6,a7,h2⟩:=h2
  have q:=Ag3 cfg y m sl now a1 a2 a3 a4 a5 a6 a7
  rw[h2] at q
  exact⟨(key h1).1,q.2.2.2.2,fun h=>absurd h hc⟩
 | @asked m y sl v l h1 hk h2 hv =>
  have hy:=key h1
  refine⟨hy.1,by simp,fun _=>?_⟩
  dsimp only
  rw[Na,<- hy.2.1]
  exact Asr hy.2.2 (h1.args v (Ac hv))
 | @no m y sl h1 hk=>exact⟨(key h1).1,by simp,fun h=>absurd h (by simp)⟩
 | @aud m y sl v l h1 hk hv h2 =>
  have hy:=key h1
  refine⟨hy.1,by simp,fun _=>?_⟩
  dsimp only
  rw[Na,<- hy.2.1]
  exact Asr hy.2.2 (h1.args v (Ac hv))
 | @reset m y sl v h1 hk hv =>
  have hy:=key h1
  refine⟨hy.1,by simp,fun _=>?_⟩
  dsimp only
  rw[Na,<- hy.2.1]
  exact Asr hy.2.2 (h1.args v (Ac hv))
 | @tell m y sl h1 hk a1 a2 =>
  have hy:=key h1
  have hS:=(h1.bk.step ha.bk).I ha.bk
  have q:=Xy y m.kind now a1 a2
  refine⟨hy.1,by simp,fun _=>?_⟩
  dsimp only
  rw[<- hy.2.1]
  have hd':Gg y:=by
   obtain⟨bk,e⟩:=h1.eq
   rw[e]
   exact⟨⟨⟨hd.b.reg.sec,hd.b.reg.lims,hd.b.reg.toks,hd.b.reg.tsec,hd.b.reg.vehs⟩,hd.b.reqs,hd.b.legs,hd.b.draws,hd.b.draw,hd.b.aud⟩,hd.vehs,hd.reqs,hd.dr,hd.rq,hd.rl,hd.rk⟩
  have h:=A4j hk q hd' hS (by rw[hy.1.1];exact⟨hn.1,by omega⟩) hnow hy.1.2
  rwa[hy.1.1] at h
theorem Avj.rep {x:Dy} {d:Dy×Ea×F3×Int} (h:Avj cfg x ses it now d) (hd:Gg x) (ha:Y8 n x) (hn:0<=n/\n<=99) (hnow:NB now) (hc:ItB it):Y8 n d.1/\Ah0 d.2.1/\L3 n d.2.1=Ll d.2.2.1/\Afb d.2.2.1:=by
 have hB:=(h.bk ha.bk).1.I ha.bk
 obtain⟨e,hx,e1,e2,e3,e4⟩:=h
 have hR:=hx.rep hd ha hn hnow hc
 have hc1:=hc.1
 rw[e1] at hB ⊢
 rw[e2,hR.1.1]
 have hE:Afb ⟨n,it.kind,e.2.2.2⟩:=⟨hn,hc1,hR.2.1⟩
 by_cases h0:e.2.2.2=0
 ·rw[(e3 h0).1,h0]
  rw[h0] at hE
  exact⟨⟨hB,hR.1.1,hR.1.2⟩,(hR.2.2 h0).1,(hR.2.2 h0).2,hE⟩
 rw[(e4 h0).1]
 exact⟨⟨hB,hR.1.1,hR.1.2⟩,A12 (by decide) ⟨by omega,by omega⟩ ⟨by omega,by omega⟩,rfl,hE⟩
variable {e:List F3}
theorem ItR.rep {l:List E8} {r:List Ea} {s:List Int} (h:ItR cfg ses now x l y r e s) (ha:Y8 n x) (hn:0<=n/\n<=99) (hnow:NB now) (hl:∀t∈l,ItB t):Y8 n y/\(∀m∈r,Ah0 m)/\e.flatMap Ll=r.flatMap (L3 n)/\∀t∈e,Afb t:=by
 induction h with
 | nil=>exact⟨ha,fun _ h=>absurd h A8,rfl,fun _ h=>absurd h A8⟩
 | @app l y z r e s t m w k h1 h2 ih =>
  have hi:=ih fun t h=>hl t (Bj _ h)
  obtain⟨hd,hp,h3⟩:=h2
  have hq:=(Kz cfg _ ses _ now hd hp).2
  rw[h3] at hq
  have hR:=hq.rep hd hi.1 hn hnow (hl _ (List.mem_append_right _ (List.mem_singleton_self _)))
  refine⟨hR.1,Kr hi.2.1 hR.2.1,?_,Kr hi.2.2.2 hR.2.2.2⟩
  rw[List.flatMap_append,List.flatMap_append,hi.2.2.1]
  show _++(Ll w++[])=_++(L3 n m++[])
  rw[<- hR.2.2.1]
variable {l:List Fs}
theorem Zr.rep {now n:Int} {r:List (List Ea)} {s:List Int} (h:Zr cfg now x l y r e s) (ha:Y8 n x) (hn:0<=n/\n<=99) (hnow:NB now) (hl:∀p∈l,∀t∈p.items,ItB t):Y8 n y/\(∀q∈r,∀m∈q,Ah0 m)/\e.flatMap Ll=r.flatten.flatMap (L3 n)/\(∀t∈e,Afb t)/\r.length=l.length/\∀(j:Nat) (p:Fs),l[j]? = some p->p.op=false->r[j]? = some []:=by
 induction h with
 | nil=>exact⟨ha,fun _ h=>absurd h A8,rfl,fun _ h=>absurd h A8,rfl,fun j p h=>by cases h⟩
 | @closed l y r e s p h1 h2 ih =>
  have hi:=ih fun p h=>hl p (Bj _ h)
  refine⟨hi.1,Kr hi.2.1 fun _ h=>absurd h A8,by simpa using hi.2.2.1,hi.2.2.2.1,by simp[hi.2.2.2.2.1],fun j p hj ho=>?_⟩
  by_cases hlt:j<l.length
  ·rw[Au hlt] at hj
   rw[Au (by omega)]
   exact hi.2.2.2.2.2 j p hj ho
  have hj2:=(Ab.1 hj).1
  rw[Bo,List.length_singleton] at hj2
  have:j=r.length:=by omega
  rw[this]
  simp
 | @opened l y z r e e' s s' p q h1 h2 h3 ih =>
  have hi:=ih fun p h=>hl p (Bj _ h)
  have hR:=h3.rep hi.1 hn hnow (hl _ (List.mem_append_right _ (List.mem_singleton_self _)))
  refine⟨hR.1,Kr hi.2.1 hR.2.1,?_,fun t ht=>(A0.1 ht).elim (hi.2.2.2.1 t) (hR.2.2.2 t),by simp[hi.2.2.2.2.1],fun j p' hj ho=>?_⟩
  ·rw[List.flatMap_append,hi.2.2.1,hR.2.2.1,List.flatten_append,List.flatMap_append]
   simp
  by_cases hlt:j<l.length
  ·rw[Au hlt] at hj
   rw[Au (by omega)]
   exact hi.2.2.2.2.2 j p' hj ho
  have hj2:=(Ab.1 hj).1
  rw[Bo,List.length_singleton] at hj2
  have:j=l.length:=by omega
  rw[this,List.getElem?_concat_length] at hj
  injection hj with hj
  rw[hj,ho] at h2
  cases h2
theorem Wl.rep {x:Dy} {now n:Int} {d:Dy×List (List Ea)×List F3×List Int} (h:Wl cfg x l now d) (ha:Y8 n x) (hn:0<=n/\n<=99) (hnow:NB now) (hl:∀p∈l,∀t∈p.items,ItB t):Y8 n d.1/\(∀q∈d.2.1,∀m∈q,Ah0 m)/\d.2.2.1.flatMap Ll=d.2.1.flatten.flatMap (L3 n)/\(∀t∈d.2.2.1,Afb t)/\∀(j:Nat) (p:Fs),j<x.aud.length->l[j]? = some p->p.op=false->(d.2.1[j]?).getD []=[]:=by
 obtain⟨b,y,r,h1,h2,_,_,hS,e1,e2⟩:=h
 have hB:=Zr.rep hS (n:=n) ⟨ha.bk,ha.num,ha.rq⟩ hn hnow fun p hp=>hl p (Aq hp)
 rw[e1,e2]
 refine⟨⟨hB.1.bk,hB.1.num,hB.1.rq⟩,fun q hq=>(A0.1 hq).elim (hB.2.1 q) fun h=>?_,?_,hB.2.2.2.1,fun j p hj hp ho=>?_⟩
 ·rw[(List.mem_replicate.1 h).2]
  exact fun _ h=>absurd h A8
 ·rw[List.flatten_append,List.flatMap_append,show (List.replicate (x.aud.length - r.length) ([]:List Ea)).flatten=[] by simp,hB.2.2.1]
  simp
 have hjl:=(Ab.1 hp).1
 have hr:=hB.2.2.2.2.2 j p (by rw[Ag hj];exact hp) ho
 have hrl:=(Ab.1 hr).1
 rw[Au hrl,hr]
 rfl
end
section
def A0n (t:E8):Ea:=by
 classical
 exact if h:t.pay.length<=1000000 then (Fd t.kind t.pay h).1 else ⟨0,[],[],[]⟩
def Ady (b:List Int):List Ea:=(Kv b).map fun x=>A0n x.1
theorem Ab0.all {b:List Int} {L:List Ea} (h:Ab0 b L):Ady b=L:=by
 unfold Ady
 rw[h.eq,At7 h.srv,List.map_map]
 have e:∀m∈L,((fun x:E8×Int=>A0n x.1)∘fun m=>(itM m,((Lk m).1.length:Int)+10)) m=id m:=fun m hm=>by
  have hl:=Yp m
  show A0n (itM m)=m
  unfold A0n
  have hp:(Lk m).1.length<=1000000:=by omega
  refine (dif_pos (c:=(itM m).pay.length<=1000000) hp).trans ?_
  exact congrArg Prod.fst (A0m (h.srv m hm) hp)
 rw[List.map_congr_left e,List.map_id]
def A1d (o:P9) (p n:Nat):Nat:=(((o.ses.drop p).take n).map fun s=>Oq (Ady s)).sum
structure A5p (n:Int) (o:P9):Prop where
  len:(o.ses.length:Int)=n
  said:∀s∈o.ses,∃L,Ab0 s L/\L.length<=259
theorem Av8:∀{X:List (List Int)} {r:List (List Ea)},X.length=r.length->(∀(j:Nat) (s:List Int),X[j]? = some s->Oq (Ady s)<=Oq ((r[j]?).getD []))->(X.map fun s=>Oq (Ady s)).sum<=Oq r.flatten
 | [],_,_,_=>Ae _
 | s::X,[],h,_=>by simp at h
 | s::X,q::r,hl,h=>by
  have h0:Oq (Ady s)<=Oq q:=h 0 s rfl
  have h1:=Av8 (X:=X) (r:=r) (by simpa using hl) fun j s hs=>h (j+1) s hs
  rw[List.map_cons,List.sum_cons,List.flatten_cons,U6]
  omega
variable {C:E5} {b:Gt} {e:I5}
theorem Ayc (hb:Qa b) (hC:b.city.cfg=C) (he:Lo e) (hk:e.kind=6) (hS:∀a∈C.ags,1<=a.se/\a.se<=2) (hD:∀(k:Nat) (d:Dy),b.city.desks[k]? = some d->BkI d.reg.bk):(Mo b e).2.2=true/\A5p (Eg C.ags C.ags.length) (Mo b e).2.1/\∀(k:Nat) (d:Dy) (a:G2),b.city.desks[k]? = some d->C.ags[k]? = some a->∃x,(Mo b e).1.city.desks[k]? = some x/\BkS (N9 d.reg.bk) x.reg.bk (A1d (Mo b e).2.1 (Eg C.ags k).toNat a.se.toNat):=by
 have hq:=Gc b e hb he
 rw[<- K5 hb he] at hq
 generalize Mo b e=D at hq ⊢
 obtain⟨t1,t2,_,l,S,hl,hTk,hTic,hsl,hout⟩:=hq.tick hk
 have hcfg:D.1.city.cfg=C:=hq.cfg.trans hC
 obtain⟨rp,en,⟨ens,_,_,hA⟩,hrl,hSI⟩:=hTic
 have key:∀(k:Nat) (d:Dy) (a:G2),b.city.desks[k]? = some d->C.ags[k]? = some a->∃(x:Dy) (r:List (List Ea)),D.1.city.desks[k]? = some x/\BkS (N9 d.reg.bk) x.reg.bk (Oq r.flatten)/\(r.length:Int)=Ee a/\∀j:Nat,(j:Int)<Ee a->∃s q,D.2.1.ses[(Eg C.ags k).toNat+j]? = some s/\Ab0 s q/\q.length<=259/\Oq q<=Oq ((r[j]?).getD []):=fun k d a hd ha=>by
  obtain⟨x,r,e',s',k1,k2,_,k4⟩:=(hA k d a hd (by show b.city.cfg.ags[k]? = _;rw[hC];exact ha)).1 (Ab.1 hd).1
  have hB:=k4.bk (hD k d hd)
  refine⟨x,r,k1,hB.1,?_,fun j hj=>?_⟩
  ·show (r.length:Int)=_
   rw[show r.length=d.aud.length from hB.2.2]
   exact hb.city.dl k d a hd (by rw[hC];exact ha)
  obtain⟨q,hq1,hq2⟩:=hSI k j a r (.inl (by show k<D.1.city.cfg.ags.length;rw[hcfg];exact (Ab.1 ha).1)) (by show D.1.city.cfg.ags[k]? = _;rw[hcfg];exact ha) hj k2
  have hq1:S.ses[(Eg D.1.city.cfg.ags k).toNat+j]? = some q:=hq1
  rw[hcfg] at hq1
  have hso:(Eg C.ags k).toNat+j<D.2.1.ses.length:=by
   have:=(Ab.1 hq1).1
   have hsl:S.ses.length=D.2.1.ses.length:=hsl
   omega
  have ho:=hout _ q _ hq1 (Aa hso)
  have h:=hq2.said hB.2.1
  rw[<- ho] at h
  exact⟨_,q,Aa hso,h⟩
 have hdl:b.city.desks.length=C.ags.length:=by rw[hb.city.desks,hC]
 refine⟨t1,⟨by rw[t2,hC],fun s hs=>?_⟩,fun k d a hd ha=>?_⟩
 ·obtain⟨n,hn,rfl⟩:=List.mem_iff_getElem.1 hs
  have t2:(D.2.1.ses.length:Int)=_:=t2
  rw[hC] at t2
  obtain⟨k,a,j,ha,hj,rfl⟩:=Q5 (l:=C.ags) (s:=n) C.ags.length (by omega)
  have hkl:=(Ab.1 ha).1
  obtain⟨x,r,_,_,_,h4⟩:=key k _ a (Aa (by omega)) ha
  obtain⟨s,q,h5,h6,h7,_⟩:=h4 j hj
  rw[Aa hn] at h5
  injection h5 with h5
  rw[h5]
  exact⟨q,h6,h7⟩
 obtain⟨x,r,h1,h2,h3,h4⟩:=key k d a hd ha
 have hse:=hS a (Ac ha)
 have hcn:=(He a).2.2 hse
 refine⟨x,h1,h2.mono ?_⟩
 have hlen:(Eg C.ags k).toNat+a.se.toNat<=D.2.1.ses.length:=by
  obtain⟨s,q,h5,_⟩:=h4 (a.se.toNat - 1) (by omega)
  have:=(Ab.1 h5).1
  omega
 refine Av8 (by rw[A5,Bc];omega) fun j s hs=>?_
 have hj:j<a.se.toNat:=by
  have:=(Ab.1 hs).1
  rw[A5] at this
  omega
 obtain⟨s',q,h5,h6,_,h7⟩:=h4 j (by omega)
 rw[Ag hj,Bd,h5] at hs
 injection hs with hs
 rw[<- hs,h6.all]
 exact h7
structure Avk (C:E5) (i:Nat) (a:G2) (b:Gt) (n:Nat) (T:Int):Prop where
  br:Qa b
  cfg:b.city.cfg=C
  all:∀(k:Nat) (d:Dy),b.city.desks[k]? = some d->BkI d.reg.bk
  dk:∃d,b.city.desks[i]? = some d/\d.reg.bk.ra=a.ra/\d.reg.bk.bu=a.bu/\n+d.reg.bk.lv<=a.bu+T
variable {a:G2}
theorem Avk.other {i:Nat} {n:Nat} {T:Int} (h:Avk C i a b n T) (he:Lo e) (hk:e.kind≠6):Avk C i a (Mo b e).1 n T/\(Mo b e).2.2=false:=by
 have hq:=Gc b e h.br he
 rw[<- K5 h.br he] at hq
 generalize Mo b e=D at hq ⊢
 refine⟨?_,hq.none hk⟩
 by_cases h3:e.kind<=3
 ·have hf:=hq.few h3
  have hi:=hq.i
  rw[hf] at hi ⊢
  exact⟨hi,h.cfg,h.all,h.dk⟩
 have hK:=(hq.keep (by omega) hk).2
 refine⟨hq.i,hq.cfg.trans h.cfg,fun k d hd=>?_,?_⟩
 ·have hl:k<b.city.desks.length:=by
   have:=(Ab.1 hd).1
   have h1:=hq.i.city.desks
   rw[hq.cfg] at h1
   have h2:=h.br.city.desks
   omega
  obtain⟨y,hy⟩:=hK.2 k _ (Aa hl)
  rw[hy] at hd
  injection hd with hd
  rw[<- hd]
  exact h.all k b.city.desks[k] (Aa hl)
 obtain⟨d,d1,d2⟩:=h.dk
 obtain⟨y,hy⟩:=hK.2 i d d1
 exact⟨_,hy,d2⟩
theorem Avk.tick {i:Nat} {n:Nat} {T:Int} (h:Avk C i a b n T) (ha:C.ags[i]? = some a) (hS:∀a∈C.ags,1<=a.se/\a.se<=2) (he:Lo e) (hk:e.kind=6):Avk C i a (Mo b e).1 (n+A1d (Mo b e).2.1 (Eg C.ags i).toNat a.se.toNat) (T+a.ra)/\(Mo b e).2.2=true/\A5p (Eg C.ags C.ags.length) (Mo b e).2.1:=by
 obtain⟨h1,h2,h3⟩:=Ayc h.br h.cfg he hk hS h.all
 have hq:=Gc b e h.br he
 rw[<- K5 h.br he] at hq
 generalize Mo b e=D at hq h1 h2 h3 ⊢
 refine⟨⟨hq.i,hq.cfg.trans h.cfg,fun k d hd=>?_,?_⟩,h1,h2⟩
 ·have hl1:k<C.ags.length:=by
   have:=(Ab.1 hd).1
   have h1:=hq.i.city.desks
   rw[hq.cfg,h.cfg] at h1
   omega
  have hl:k<b.city.desks.length:=by
   have h2:=h.br.city.desks
   rw[h.cfg] at h2
   omega
  obtain⟨x,hx,hB⟩:=h3 k _ _ (Aa hl) (Aa hl1)
  rw[hx] at hd
  injection hd with hd
  rw[<- hd]
  exact hB.I (Abe (h.all k _ (Aa hl))).1
 obtain⟨d,d1,d2,d3,d4⟩:=h.dk
 obtain⟨x,hx,hB⟩:=h3 i d a d1 ha
 have hr:=Abe (h.all i d d1)
 have:=hB.2.2.2
 exact⟨x,hx,hB.1.trans (hr.2.1.trans d2),hB.2.1.trans (hr.2.2.1.trans d3),by push_cast;omega⟩
theorem Aw7 {c:E5} (hp:L7 c=true) (ha:a∈c.ags):0<=a.ra/\a.ra<=a.bu/\a.bu<=1000:=by
 unfold L7 at hp
 simp only[Ah] at hp
 have h:=Am.1 hp.1.2 a ha
 simp only[Ae6,Ev,Ah,decide_eq_true_eq] at h
 omega
end
end Go.Proofs.YtkkimgjinbaemaaGreat
