/- The walk. -/
import Derived.Test.YtkkimgjinbaemaaGreatKaf
noncomputable section
namespace Go.Proofs.YtkkimgjinbaemaaGreat
open Go.RowKit
set_option linter.unusedVariables false
set_option linter.unusedSimpArgs false
set_option linter.defProp false
set_option linter.unusedSectionVars false
set_option maxRecDepth 100000
set_option maxHeartbeats 4000000
def Im (k:Int) (n:Int):List Int:=[90,165,1,IntKind.u8.wrap k,IntKind.u8.wrap (n.fdiv (2 ^ min 8 64)),IntKind.u8.wrap n]
def J5 (s:Int):List Int:=[IntKind.u8.wrap (s.fdiv (2 ^ min 24 32)),IntKind.u8.wrap (s.fdiv (2 ^ min 16 32)),IntKind.u8.wrap (s.fdiv (2 ^ min 8 32)),IntKind.u8.wrap (s.fdiv (2 ^ min 0 32))]
def Gn (k:Int) (p:List Int):List Int:=Im k p.length++p++J5 (Te ((Im k p.length).drop 2++p))
def Q1 (k:Int) (p:List Int):List Int×Int:=if k<0\/255<k then ([],8) else if 200<p.length then ([],7) else (Gn k p,0)
theorem A4t {α:Type} (z:α) (n:Nat):List.replicate (n+10) z=z::z::z::z::z::z::List.replicate (n+4) z:=rfl
theorem Agq {α:Type} (a:List α):∀(b c:List α),c.length<=b.length->K4 (a++b) a.length c=a++c++b.drop c.length
 | b,[],_=>by simp[K4]
 | [],c::cs,h=>by simp at h
 | b::bs,c::cs,h=>by
  have ih:=Agq (a++[c]) bs cs (by simpa using h)
  have e:(a++b::bs).set a.length c=(a++[c])++bs:=by
   rw[List.set_append_right _ _ (Aj _)];simp
  rw[K4,e,show a.length+1=(a++[c]).length by simp,ih]
  simp
theorem A4o {α β:Type} {g:β->α} (p:List β) (a b c d e f z:α) {m:Nat} (hm:p.length<=m):K4 (a::b::c::d::e::f::List.replicate (p.length+4) z) 6 (List.take m (List.map g p))=a::b::c::d::e::f::(List.map g p++[z,z,z,z]):=by
 rw[Bf (by simpa using hm)]
 have:=Agq [a,b,c,d,e,f] (List.replicate (p.length+4) z) (List.map g p) (by simp)
 simp only[A6,List.length_nil,List.cons_append,List.nil_append] at this
 rw[this,A2,List.drop_replicate,show p.length+4 - p.length=4 by omega]
 rfl
theorem Azp {A:List Int} {s:Int} {i:Nat} (hi:i<4):(A++((J5 s).take i++List.replicate (4 - i) 0)).set (A.length+i) ((J5 s).getD i 0)=A++((J5 s).take (i+1)++List.replicate (4 - (i+1)) 0):=by
 rw[List.set_append_right _ _ (by omega)]
 congr 1
 rw[show A.length+i - A.length=i by omega]
 rcases (by omega:i=0\/i=1\/i=2\/i=3) with rfl | rfl | rfl | rfl<;>simp[J5,List.replicate]
theorem A1s (l:List Int) (i:Nat) (x:Int):(tY l).set i [.lit (.int .u8 x)]=tY (l.set i x):=by simp[tY,List.map_set]
theorem A1t {R:List Int} {n:Nat} (h:n<R.length) (v:T):(tY R).set n (((tY R)[n]?.getD []).set 0 v)=(tY R).set n [v]:=by
 simp[tY,Aa h]
theorem Arb {s:Int} {i:Nat} (hi:i<4):(J5 s).getD i 0=IntKind.u8.wrap (s.fdiv (2 ^ min (8*(3 - (i:Int))).toNat 32)):=by
 rcases (by omega:i=0\/i=1\/i=2\/i=3) with rfl | rfl | rfl | rfl<;>simp[J5]
theorem Akd {n:Nat} (h:n<=200):Ac9 n=n+10:=by
 have e1:=Dx (6+(n:Int))
 have e2:=Dx (6+(n:Int)+4)
 have hh:¬((n:Int)<0\/200<(n:Int)):=by omega
 simp only[Ac9,if_neg hh,e1,e2]
 omega
theorem Agh (k:Int) (p:List Int) (hl:p.length<=1000000):PP 137 [] [.li k,.mY p] [] (.tup [.imm false 1 (tY (Q1 k p).1),.lit (.int .i64 (Q1 k p).2)]):=by
 refine Em Tryz.func137 ?_
 refine Bw<|.seq ?_
 refine Bw ?_
 refine B6 ?_ ?_<;>intro h15
 ·refine Bw ?_
  refine B5 ?_
  simp[go_sem]
  simp[Q1,h15]
 refine Bv<|.seq<|.R ?_
 refine B6 ?_ ?_<;>intro h18
 ·refine Bw ?_
  refine B5 ?_
  simp[go_sem]
  have hh:¬(k<0\/255<k):=by omega
  have hh2:200<p.length:=by omega
  simp[Q1,hh,hh2]
 have hsz:=Akd (n:=p.length) (by omega)
 have hn:((p.length:Int)+10).toNat=p.length+10:=by omega
 have h6:=Dx (6+(p.length:Int))
 have h7:(6+(p.length:Int)).toNat - 2=p.length+4:=by omega
 refine Bv<|.R ?_
 refine Di hsz (Aa2 p.length) ?_
 refine VW.wkE (s':=⟨[(0,.li k),(1,.mY p),(6,.li p.length),(7,.own 0 (p.length+10))],[.row 5 1 true false (tY (0::0::0::0::0::0::List.replicate (p.length+4) 0))]⟩) (wQ [0] ?_ ?_) ?_
 ·simp[go_sem,hn,A4t]
 ·simp[go_sem,hn,A4t]
 refine VW.H Dz ?_
 refine VW.H Dz ?_
 refine VW.H Dz ?_
 have hcp:=fun a b c d e f z=>A4o (g:=fun x=>[T.lit (Value.int IntKind.u8 x)]) p a b c d e f z (m:=((p.length:Int)+10).toNat - 6) (by omega)
 refine VW.wkE (s':=⟨[(0,.li k),(1,.mY p),(6,.li p.length),(7,.own 0 (p.length+10))],[.row 5 1 false false (tY ((Im k p.length)++p++List.replicate 4 0))]⟩) (wQ [0] ?_ ?_) ?_
 ·simp[go_sem,hcp]
 ·simp[go_sem,hcp,Im,tY]
 refine Bx (by rfl) fun K1 hK1=>?_
 simp[go_sem,h6,h7]
 repeat' with_reducible refine Ax ?_ ?_
 all_goals try (intros;(repeat' refine Ax ?_ ?_)<;>omega)
 all_goals try (simp[Im];omega)
 refine .lo (Aji ((Im k p.length).drop 2++p) (by simp[Im];omega)) (by simp[go_sem,Im,h7]) (by simp[AV.cln,Fu]) ?_
 simp[go_sem,h6,h7]
 refine hK1 _ ?_;clear hK1
 refine Dv<|.R<|.block ?_
 refine Cc 4 (fun i1=>⟨[(6,.li p.length),(7,.own 0 (p.length+10)),(8,.lit (.int .u32 (Te ((Im k p.length).drop 2++p)))),(52,.li i1)],[.row 5 1 false false (tY ((Im k p.length)++p++((J5 (Te ((Im k p.length).drop 2++p))).take i1++List.replicate (4 - i1) 0)))]⟩) (wQ [0] ?_ ?_) fun i1 hi1=>?_
 ·simp[go_sem]
 ·simp[go_sem]
 refine Bw<|.seq ?_
 refine B6 ?_ ?_<;>intro h53
 ·have hw1:=Dx (6+(p.length:Int)+i1)
  have hw2:=Dx (3 - (i1:Int))
  have hw3:=Dx (8*(3 - (i1:Int))) (by omega) (by omega)
  have he:(6+(p.length:Int)+i1).toNat=(Im k p.length++p).length+i1:=by simp[Im];omega
  have hset:=congrArg tY (Azp (A:=Im k p.length++p) (s:=Te ((Im k p.length).drop 2++p)) (i:=i1) (by omega))
  rw[Arb (by omega),<- A1s,<- A1t (by simp[Im,J5];omega),<- he] at hset
  simp[tY] at hset
  refine Bv<|.seq<|.block<|.R ?_
  refine VW.region1 (by rfl) fun K1 hK1=>?_
  simp[go_sem,h6,hw1,hw2,hw3]
  repeat' with_reducible refine Ax ?_ ?_
  all_goals try (intros;(repeat' refine Ax ?_ ?_)<;>omega)
  all_goals try (simp[Im,J5];omega)
  refine hK1 _ ?_;clear hK1
  refine Cm ?_
  refine⟨by omega,wQ [0] ?_ ?_⟩
  ·simp[go_sem,Dx ((i1:Int)+1),hset,h15,h18,h53]
  simp[go_sem,hset,h15,h18,h53]
 refine B4<|.R ?_
 have he:i1=4:=by omega
 subst he
 refine Ch 0 (by simp[go_sem,F8]) ?_
 simp[go_sem]
 refine B5 ?_
 simp[go_sem]
 have hh:¬(k<0\/255<k):=by omega
 have hh2:¬200<p.length:=by omega
 have hc:p.length+10=(Im k p.length).length+(p.length+4):=by simp[Im];omega
 simp[Q1,Gn,hh,hh2,tY,J5,if_pos hc,go_sem]
theorem Azq {α β:Type} {g:β->α} (r:List β) {n:Nat} {z:α} (h:n<=r.length):K4 (List.replicate n z) 0 (List.take n (List.take n (List.map g r)))=List.map g (List.take n r):=by
 have:=Agq [] (List.replicate n z) (List.map g (List.take n r)) (by simp;omega)
 simp only[List.nil_append,List.length_nil] at this
 rw[List.take_take,Nat.min_self,<- List.map_take,this,List.drop_of_length_le (by simp;omega)]
 simp
theorem Arc {n:Int} (h0:0<=n) (h:n<=200):Ac9 n=n+10:=by
 obtain⟨m,rfl⟩:=Int.eq_ofNat_of_zero_le h0
 exact Akd (by omega)
def By (l:List Int):Prop:=∀x,x∈l->0<=x/\x<256
theorem Aq5 {a b:Int} (ha:0<=a) (ha':a<4611686018427387904) (hb:0<=b) (hb':b<4611686018427387904):Ey .or .i64 a b=((a.toNat ||| b.toNat:Nat):Int):=by
 obtain⟨m,rfl⟩:=Int.eq_ofNat_of_zero_le ha
 obtain⟨n,rfl⟩:=Int.eq_ofNat_of_zero_le hb
 have hm:m<2 ^ 62:=by omega
 have hn:n<2 ^ 62:=by omega
 have h:=Nat.or_lt_two_pow hm hn
 have e:(BitVec.ofInt 64 (m:Int) ||| BitVec.ofInt 64 (n:Int)).toNat=m ||| n:=by
  rw[BitVec.ofInt_natCast,BitVec.ofInt_natCast,BitVec.toNat_or,BitVec.toNat_ofNat,BitVec.toNat_ofNat,Nat.mod_eq_of_lt (by omega),Nat.mod_eq_of_lt (by omega)]
 show IntKind.i64.wrap (((BitVec.ofInt 64 (m:Int) ||| BitVec.ofInt 64 (n:Int)).toNat:Nat):Int)=_
 rw[e,Dx _]
 simp
theorem A4x {x y:Int} (hx:0<=x/\x<256) (hy:0<=y/\y<256):Ey .or .i64 (IntKind.i64.wrap (IntKind.i64.wrap x*256)) (IntKind.i64.wrap y)=x*256+y:=by
 rw[Dx x,Dx (x*256),Dx y,Aq5 (by omega) (by omega) (by omega) (by omega)]
 obtain⟨m,rfl⟩:=Int.eq_ofNat_of_zero_le hx.1
 obtain⟨n,rfl⟩:=Int.eq_ofNat_of_zero_le hy.1
 have:=Nat.shiftLeft_add_eq_or_of_lt (i:=8) (b:=n) (by omega) m
 rw[Nat.shiftLeft_eq] at this
 rw[show ((m:Int)*256).toNat=m*2 ^ 8 by omega,Int.toNat_natCast,<- this]
 omega
def Eh:List Int->E8×Int×Bool
 | []=>(⟨0,0,[]⟩,0,false)
 | [b0]=>if b0≠90 then (⟨2,0,[]⟩,1,true) else (⟨0,0,[]⟩,0,false)
 | b0::b1::r=>if b0≠90\/b1≠165 then (⟨2,0,[]⟩,1,true) else match r with
  | b2::b3::b4::b5::r =>
   let n:=b4*256+b5
   if 200<n then (⟨7,0,[]⟩,1,true)
   else if (r.length:Int)<n+4 then (⟨0,0,[]⟩,0,false)
   else if Te (b2::b3::b4::b5::r.take n.toNat)≠Aq6 ((r.drop n.toNat).take 4) then (⟨4,0,[]⟩,1,true)
   else if b2≠1 then (⟨3,0,[]⟩,n+10,true)
   else if b3<1\/22<b3 then (⟨5,0,[]⟩,n+10,true)
   else (⟨0,b3,r.take n.toNat⟩,n+10,true)
  | _=>(⟨0,0,[]⟩,0,false)
theorem Aiu (b:List Int) (hl:b.length<=1000000) (hb:By b):PP 140 [] [.mY b] [] (.tup [.agg ((Eh b).1.a false),.lit (.int .i64 (Eh b).2.1),.lb ((Eh b).2.2)]):=by
 refine Em Tryz.func140 ?_
 refine Bw<|.seq ?_
 refine Bw ?_
 refine B6 ?_ ?_<;>intro h11
 ·refine Bw ?_
  refine B5 ?_
  simp[go_sem,h11,Eh]
 refine Bv<|.seq ?_
 obtain⟨b0,r,rfl⟩:=List.exists_cons_of_ne_nil h11
 rcases r with _ | ⟨b1,r⟩
 ·refine VW.H Dz ?_
  refine B6 ?_ ?_<;>intro h27
  ·refine Bw ?_
   refine B5 ?_
   simp[go_sem]
   (simp[Eh,h27];done)
  refine Bv<|.seq<|.R ?_
  refine Da ?_ ?_<;>intro h31<;>simp[go_sem] at h31
  refine Bw ?_
  refine B5 ?_
  simp[go_sem]
  (simp[Eh,h27];done)
 refine VW.H Dz ?_
 refine B6 ?_ ?_<;>intro h27
 ·refine Bw ?_
  refine B5 ?_
  simp[go_sem]
  first | (simp[Eh,h27];done) | (have e:¬b0=90\/¬b1=165:=(by omega);simp[Eh,e])
 refine Bv<|.seq<|.R ?_
 refine B6 ?_ ?_<;>intro h31
 ·refine Bw ?_
  refine B5 ?_
  simp[go_sem]
  first | (simp[Eh,h27];done) | (have e:¬(¬b0=90\/¬b1=165):=(by omega);rcases r with _ | ⟨b2,_ | ⟨b3,_ | ⟨b4,_ | ⟨b5,r⟩⟩⟩⟩<;>first | (simp[Eh,e];done) | (exfalso;simp at h31;done) | (exfalso;simp at h31;omega))
 obtain⟨b2,b3,b4,b5,r,rfl⟩:∃b2 b3 b4 b5 r',r=b2::b3::b4::b5::r':=by
  rcases r with _ | ⟨b2,_ | ⟨b3,_ | ⟨b4,_ | ⟨b5,r⟩⟩⟩⟩<;>first | exact⟨_,_,_,_,_,rfl⟩ | (exfalso;simp at h31;done)
 have h4:=hb b4 (by simp)
 have h5:=hb b5 (by simp)
 have hn:=A4x h4 h5
 refine Bv<|.G hn<|.seq ?_
 refine Bw ?_
 refine B6 ?_ ?_<;>intro h44
 ·refine Bw ?_
  refine B5 ?_
  simp[go_sem]
  have e27:¬(¬b0=90\/¬b1=165):=(by omega)
  simp[Eh,e27,h44]
 generalize hN:b4*256+b5=N at *
 have h0:0<=N:=by omega
 have hs:=Arc (n:=N) (by omega) (by omega)
 have hw:=Dx (6+N)
 have e1:(6+N).toNat=N.toNat+6:=by omega
 have e2:(N+10).toNat=N.toNat+10:=by omega
 refine Bv<|.L hs (Aa2 N)<|.seq ?_
 refine Bw ?_
 refine B6 ?_ ?_<;>intro h51
 ·refine Bw ?_
  refine B5 ?_
  simp[go_sem]
  have e27:¬(¬b0=90\/¬b1=165):=(by omega)
  have c44:¬200<N:=(by omega)
  have c51:(r.length:Int)<N+4:=(by omega)
  simp[Eh,e27,hN,c44,c51]
 refine Bv<|.seq<|.E (fun K kk=>by simp[go_sem,hw,e1,e2];(repeat refine aK ?_);refine .lo (Aji (b2::b3::b4::b5::r.take N.toNat) (by simp;omega)) (by simp[go_sem]) (by simp[AV.cln,Fu]) ?_;simp[go_sem,hw,e1,e2];(repeat refine aK ?_);refine .lo (Agg ((r.drop N.toNat).take 4) (by simp;omega)) (by simp[go_sem,List.drop_take]) (by simp[AV.cln,Fu]) ?_;simp[go_sem,hw,e1,e2];exact kk) ?_
 refine B6 ?_ ?_<;>intro h64
 ·refine Bw ?_
  refine B5 ?_
  simp[go_sem]
  have e27:¬(¬b0=90\/¬b1=165):=(by omega)
  have c44:¬200<N:=(by omega)
  have c51:¬(r.length:Int)<N+4:=(by omega)
  simp[Eh,e27,hN,c44,c51,h64]
 refine Bv<|.seq<|.H Dz ?_
 refine B6 ?_ ?_<;>intro h69
 ·refine Bw ?_
  refine B5 ?_
  simp[go_sem]
  have e27:¬(¬b0=90\/¬b1=165):=(by omega)
  have c44:¬200<N:=(by omega)
  have c51:¬(r.length:Int)<N+4:=(by omega)
  simp[Eh,e27,hN,c44,c51,h64,h69]
 have h3:=hb b3 (by simp)
 have hk:=Dx b3
 subst h69
 refine Bv<|.H hk<|.seq ?_
 refine Bw ?_
 refine B6 ?_ ?_<;>intro h81
 ·refine Bw ?_
  refine B5 ?_
  simp[go_sem]
  have e27:¬(¬b0=90\/¬b1=165):=(by omega)
  have c44:¬200<N:=(by omega)
  have c51:¬(r.length:Int)<N+4:=(by omega)
  have e81:b3<1\/22<b3:=(by omega)
  simp[Eh,e27,hN,c44,c51,h64,e81]
 refine Bv<|.H Dz ?_
 refine Ce (fun K kk=>by simp[go_sem,hw,e1];repeat first | exact kk | refine aK ?_) ?_
 have hrl:N.toNat<=r.length:=(by omega)
 have hm:min N.toNat r.length=N.toNat:=Nat.min_eq_left hrl
 have hcp:=Azq (g:=fun x=>[T.lit (Value.int IntKind.u8 x)]) r (z:=[T.lit (Value.int IntKind.u8 0)]) hrl
 simp only[hcp]
 refine Ch 1 (by simp[go_sem,F8]) ?_
 simp[go_sem,hm]
 refine Bw ?_
 refine B5 ?_
 simp[go_sem]
 have e27:¬(¬b0=90\/¬b1=165):=(by omega)
 have c44:¬200<N:=(by omega)
 have c51:¬(r.length:Int)<N+4:=(by omega)
 have e81:¬(b3<1\/22<b3):=(by omega)
 simp[Eh,e27,hN,c44,c51,h64,e81,hm,go_sem]
section
theorem Azi (v:Int) {n:Int} (h:1<=n):-n<v.tmod n/\v.tmod n<n:=by
 have h1:=Int.tmod_lt_of_pos v (show 0<n by omega)
 have h2:=Int.tmod_lt_of_pos (-v) (show 0<n by omega)
 rw[Int.neg_tmod] at h2
 omega
def Oy {α:Type} (f:α->List T) (n:Nat) (X:List (List T)):Prop:=∃R:List α,X=R.map f/\R.length=n
variable {z:List T}
section
variable {α:Type} {f:α->List T} {n k:Nat} {X Y:List (List T)}
theorem Nk {l:List α}:Oy f l.length (l.map f):=⟨l,rfl,rfl⟩
theorem Nj:Oy f 0 []:=⟨[],rfl,rfl⟩
theorem Ni {x:α} (h:z=f x):Oy f n (List.replicate n z):=⟨List.replicate n x,by simp[h],by simp⟩
theorem Lb (h:Oy f n X):Oy f (min k n) (List.take k X):=by
 obtain⟨R,rfl,rfl⟩:=h
 exact⟨R.take k,by simp,by simp⟩
theorem Ld (h:Oy f n X):Oy f (n - k) (List.drop k X):=by
 obtain⟨R,rfl,rfl⟩:=h
 exact⟨R.drop k,by simp,by simp⟩
theorem Rf (h:Oy f n X) (h2:Oy f k Y):Oy f (n+k) (X++Y):=by
 obtain⟨R,rfl,rfl⟩:=h
 obtain⟨S,rfl,rfl⟩:=h2
 exact⟨R++S,by simp,by simp⟩
theorem Re {i:Nat} {x:α} (h:Oy f n X) (hz:z=f x):Oy f n (X.set i z):=by
 obtain⟨R,rfl,rfl⟩:=h
 exact⟨R.set i x,by simp[hz,List.map_set],by simp⟩
theorem Awi (R S:List α) (i:Nat):∃R':List α,K4 (R.map f) i (S.map f)=R'.map f/\R'.length=R.length:=by
 induction S generalizing R i with
 | nil=>exact⟨R,rfl,rfl⟩
 | cons x S ih =>
  obtain⟨R',h1,h2⟩:=ih (R.set i x) (i+1)
  refine⟨R',?_,by simpa using h2⟩
  rw[List.map_cons,K4,<- List.map_set,h1]
theorem Lc {i:Nat} (h:Oy f n X) (h2:Oy f k Y):Oy f n (K4 X i Y):=by
 obtain⟨R,rfl,rfl⟩:=h
 obtain⟨S,rfl,rfl⟩:=h2
 exact Awi R S i
theorem Lf (h:Oy f n X) (e:n=k):Oy f k X:=e▸h
end
theorem Ajr:∀(l:List Ob) (n:Nat),n<l.length->P3 l n (l.getD n .gone)=l
 | [],_,h=>by simp at h
 | _::_,0,_=>rfl
 | _::l,n+1,h=>by simp only[P3,List.getD_cons_succ];rw[Ajr l n (by simpa using h)]
variable {P:Program}
theorem VX.gen {n m:Nat} {c:Code} {st:St} {K:Exit->St->Prop} {α:Type} (id:Nat) {ty k:Nat} {g fr:Bool} {X:List (List T)} (ho:st.o id=.row ty k g fr X) (hl:id<st.ob.length) (f:α->List T) (N:Nat) (h:Oy f N X) (hv:∀R:List α,R.length=N->VX P n m c (st.set id (.row ty k g fr (R.map f))) K):VX P n m c st K:=by
 obtain⟨R,rfl,h2⟩:=h
 have:=hv R h2
 rw[<- ho] at this
 rwa[show st.set id (st.o id)=st by show St.mk _ _=_;rw[show st.o id=st.ob.getD id .gone from rfl,Ajr _ _ hl]] at this
abbrev Ds:=@VX.gen
def A5n (P:Program) {D:Type} (rs:List ResultVar) (F:D->AV) (S:D->List Ob) (Q:D->Prop) (e:Exit) (st:St):Prop:=∃d,Sg P 0 rs (S d) (F d) e st/\Q d
theorem Oh {f:FuncId} {fn:Func} {c:Code} {args:List AV} {D:Type} {F:D->AV} {S:D->List Ob} {Q:D->Prop} (hf:P.funcs[f]? = some fn) (hb:fn.body=some c) (hn:(fn.name == "runtime.NumGoroutine")=false) {rs:List ResultVar} (hrs:fn.results=rs.toArray) (hk:args.length<=fn.ntmps) (h:VX P fn.ntmps 0 c ⟨Ic 0 args,[]⟩ (A5n P rs F S Q)):∃d,E7 P f [] args (S d) (F d)/\Q d:=by
 obtain⟨e,s,h1,d,h2,h3⟩:=h
 refine⟨d,Afo hf hb hn hrs hk (h1.mono ?_),h3⟩
 rintro e' s' ⟨rfl,rfl⟩
 exact h2
theorem Adi (p:F6):Ct 114 [p.g] (fun d:Int=>.li d) (fun d=>True):=by
 refine Ex Tryz.func114 ?_
 iterate 2 refine Bq ?_
 refine Bz (Fj ?_);simp[go_sem]
 exact⟨_,rfl,trivial⟩
theorem Aat (p:F6) (l:F0):Ct 84 [p.g,l.g] (fun d:Int=>.li d) (fun d=>True):=by
 refine Ex Tryz.func84 ?_
 refine Bq<|.seq ?_
 refine Bq<|.block ?_
 refine Bq ?_
 refine Br ?_ ?_<;>intro h7
 ·obtain⟨Y1,cY1,qY1⟩:=Ep (Adi p)
  refine Db Dz cY1 ?_
  refine Bz (Fj ?_);simp[go_sem]
  exact⟨_,rfl,trivial⟩
 refine Bq ?_
 refine Br ?_ ?_<;>intro h16
 ·refine Bq ?_
  refine Bz (Fj ?_);simp[go_sem]
  exact⟨_,rfl,trivial⟩
 refine Bq ?_
 refine Br ?_ ?_<;>intro h24
 ·refine Bq ?_
  refine Bz (Fj ?_);simp[go_sem]
  exact⟨_,rfl,trivial⟩
 refine Bp<|.R ?_
 refine Bz (Fj ?_);simp[go_sem]
 exact⟨_,rfl,trivial⟩
theorem Wv (p:F6) (l:F0) (b:Bool):Ct 202 [p.g,l.g,.lb b] (fun d:F0=>d.g) (fun d=>True):=by
 refine Ex Tryz.func202 ?_
 refine Bq<|.seq ?_
 refine Bq<|.block ?_
 refine Bq ?_
 refine Br ?_ ?_<;>intro h9
 ·refine Ca ?_
  refine Dh (by kernel_rfl) (by rfl) (by kernel_rfl) fun K1 hK1=>?_
  simp[go_sem]
  refine Nf (by simp[go_sem]) (by simp[go_sem]) ?_
  simp[go_sem]
  obtain⟨Y1,cY1,qY1⟩:=Ep (Adi p)
  refine .lo cY1 rfl (by simp) ?_
  simp[go_sem]
  refine hK1 _ _ (by kernel_rfl) ?_;clear hK1
  refine Br ?_ ?_<;>intro h19
  ·refine Bq ?_
   refine Bz (Fj ?_);simp[go_sem]
   exact⟨⟨_,_⟩,by rfl,trivial⟩
  refine Bp<|.R ?_
  refine Bz (Fj ?_);simp[go_sem]
  exact⟨⟨_,_⟩,by rfl,trivial⟩
 refine Bq ?_
 refine Br ?_ ?_<;>intro h26
 ·refine Ca<|.R ?_
  refine Br ?_ ?_<;>intro h33
  ·refine Bq ?_
   refine Bz (Fj ?_);simp[go_sem]
   exact⟨⟨_,_⟩,by rfl,trivial⟩
  refine Bp<|.seq<|.R ?_
  refine Br ?_ ?_<;>intro h40
  ·refine Bq ?_
   refine Bz (Fj ?_);simp[go_sem]
   exact⟨⟨_,_⟩,by rfl,trivial⟩
  refine Bp<|.R ?_
  refine Bz (Fj ?_);simp[go_sem]
  exact⟨⟨_,_⟩,by rfl,trivial⟩
 refine Bq ?_
 refine Br ?_ ?_<;>intro h43
 ·refine Ca<|.R ?_
  refine Br ?_ ?_<;>intro h50
  ·refine Bq ?_
   refine Bz (Fj ?_);simp[go_sem]
   exact⟨⟨_,_⟩,by rfl,trivial⟩
  refine Bp<|.R ?_
  refine Bz (Fj ?_);simp[go_sem]
  exact⟨⟨_,_⟩,by rfl,trivial⟩
 refine Bp<|.R ?_
 refine Bz (Fj ?_);simp[go_sem]
 exact⟨⟨_,_⟩,by rfl,trivial⟩
def Aop (p:F6) (l:F0) (b:Bool):F0:=(Ep (Wv p l b)).choose
theorem Ans (p:F6) (l:F0) (b:Bool):PP 202 [] [p.g,l.g,.lb b] [] (.agg ((Aop p l b).a false)):=(Ep (Wv p l b)).choose_spec.1
theorem Akx (p:F6) (l:F0):Ct 219 [p.g,l.g] (fun d:Bool=>.lb d) (fun d=>True):=by
 refine Ex Tryz.func219 ?_
 refine Bq<|.seq ?_
 refine Bq<|.block ?_
 refine Bq ?_
 refine Br ?_ ?_<;>intro h7
 ·refine Bq ?_
  refine Bz (Fj ?_);simp[go_sem]
  exact⟨_,rfl,trivial⟩
 refine Bq ?_
 refine Br ?_ ?_<;>intro h12
 ·refine Bq ?_
  refine Bz (Fj ?_);simp[go_sem]
  exact⟨_,rfl,trivial⟩
 refine Bq ?_
 refine Br ?_ ?_<;>intro h22
 ·refine Bq ?_
  refine Bz (Fj ?_);simp[go_sem]
  exact⟨_,rfl,trivial⟩
 refine Bq ?_
 refine Br ?_ ?_<;>intro h34
 ·refine Bq ?_
  refine Bz (Fj ?_);simp[go_sem]
  exact⟨_,rfl,trivial⟩
 refine Bp<|.R ?_
 refine Bz (Fj ?_);simp[go_sem]
 exact⟨_,rfl,trivial⟩
theorem Uk (n:Int):Ct 205 [.li n] (fun d:Bool=>.lb d) (fun d=>True):=by
 refine Ex Tryz.func205 ?_
 iterate 2 refine Bq ?_
 refine Bz (Fj ?_);simp[go_sem]
 exact⟨_,rfl,trivial⟩
theorem Akt (b:Jh):Ct 255 [b.g] (fun d:Bool=>.lb d) (fun d=>True):=by
 refine Ex Tryz.func255 ?_
 iterate 2 refine Bq ?_
 refine Bz (Fj ?_);simp[go_sem]
 exact⟨_,rfl,trivial⟩
theorem V5 (a:G2) (c:Int):Ct 277 [a.g,.li c] (fun d:Int=>.li d) (fun d=>True):=by
 refine Ex Tryz.func277 ?_
 refine Bq<|.seq ?_
 refine Bq ?_
 refine Br ?_ ?_<;>intro h13
 ·refine Bq ?_
  refine Bz (Fj ?_);simp[go_sem]
  exact⟨_,rfl,trivial⟩
 have hxx:a.lims[c.toNat]? = some a.lims[c.toNat]:=Aa (by omega)
 generalize a.lims[c.toNat]=x at hxx
 refine Bp<|.H hxx ?_
 refine Bz (Fj ?_);simp[go_sem]
 exact⟨_,rfl,trivial⟩
theorem Rt (x:Int):0<=IntKind.u8.wrap x/\IntKind.u8.wrap x<256:=by
 have e:IntKind.u8.wrap x=x % 256:=by simp[IntKind.wrap,show IntKind.u8.signed=false from rfl,show IntKind.u8.bits=8 from rfl]
 omega
theorem By.app {l m:List Int} (h:By l) (h':By m):By (l++m):=fun x hx=>(A0.1 hx).elim (h x) (h' x)
theorem By.nil:By []:=fun _ h=>absurd h A8
variable {l:List Int}
theorem By.set (h:By l) (i:Nat) {x:Int} (hx:0<=x/\x<256):By (l.set i x):=fun y hy=>(Bi hy).elim (h y) fun e=>e▸hx
theorem By.u8 (x:Int):By [IntKind.u8.wrap x]:=fun y hy=>by rw[An.1 hy];exact Rt x
theorem By.cons {x:Int} (hx:0<=x/\x<256) (h:By l):By (x::l):=fun y hy=>(List.mem_cons.1 hy).elim (fun e=>e▸hx) (h y)
theorem By.rep (n:Nat):By (List.replicate n 0):=fun y hy=>by rw[(List.mem_replicate.1 hy).2];decide
section
variable (k:Int) (v:Int)
include k v
theorem Zy:Ct 191 [.li k,.li v] (fun d:Ea=>d.g) (fun d=>d=⟨14,[],[k,v],[]⟩):=by
 refine Ex Tryz.func191 ?_
 iterate 2 refine Bq ?_
 refine B2 Dz 1 ?_
 refine Bz (Fj ?_);simp[go_sem]
 exact⟨⟨_,[],[_,_],[]⟩,by rfl,rfl⟩
def Jp:Ea:=(Ep (Zy k v)).choose
theorem Vq:PP 191 [] [.li k,.li v] [] (.agg ((Jp k v).a false)):=(Ep (Zy k v)).choose_spec.1
theorem Na:Jp k v=⟨14,[],[k,v],[]⟩:=(Ep (Zy k v)).choose_spec.2
end
theorem J8 (n:Int):Ct 77 [.li n] (fun d:Bool=>.lb d) (fun d=>True):=by
 refine Ex Tryz.func77 ?_
 iterate 2 refine Bq ?_
 refine Bz (Fj ?_);simp[go_sem]
 exact⟨_,rfl,trivial⟩
def Ig (n:Int):Bool:=(Ep (J8 n)).choose
theorem Ka (n:Int):PP 77 [] [.li n] [] (.lb (Ig n)):=(Ep (J8 n)).choose_spec.1
section
variable (v:Int) (n:Int) (h:1<=n) (hn:n<=1000000)
include v h hn
theorem Ix:Ct 15 [.li v,.li n] (fun d:Int=>.li d) (fun d=>0<=d/\d<n):=by
 refine Ex Tryz.func15 ?_
 have hm:=Azi v h
 have hw:=Dx (v.tmod n+n)
 refine Bq ?_
 refine Bt Dz<|.seq ?_
 refine Bq ?_
 refine Br ?_ ?_<;>intro h10
 ·refine B0 hw ?_
  refine Bq ?_
  refine Bz (Fj ?_);simp[go_sem]
  exact⟨_,rfl,(by omega)⟩
 refine Bp<|.R ?_
 refine Bz (Fj ?_);simp[go_sem]
 exact⟨_,rfl,(by omega)⟩
def Iz:Int:=(Ep (Ix v n h hn)).choose
theorem Ki:PP 15 [] [.li v,.li n] [] (.li (Iz v n h hn)):=(Ep (Ix v n h hn)).choose_spec.1
theorem Km:(fun d:Int=>0<=d/\d<n) (Iz v n h hn):=(Ep (Ix v n h hn)).choose_spec.2
end
end
theorem Afz (l:List G6) (id:Int) (hl:l.length<=1000000):Ct 239 [.mVeh l,.li id] (fun d:G6×Bool=>.tup [d.1.g,.lb d.2]) (fun d=>True):=by
 refine Ex Tryz.func239 ?_
 refine Bq<|.seq ?_
 refine Bq<|.block ?_
 refine Bs l.length (fun i1 (y1:Int×Int)=>⟨[(1,.li id),(4,.ptr 0 0),(8,.mVeh l),(9,.li l.length),(10,.li i1)],[.box 216 [.li y1.1,.li y1.2]]⟩) (fun i1 y1=>True) (0,0) (wk Dz [0]) (trivial) fun i1 y1 hi1 hy1=>?_
 refine Bq<|.seq ?_
 refine Br ?_ ?_<;>intro h11
 ·refine Bp<|.seq<|.block ?_
  have H1:l[i1]? = some l[i1]:=Aa (by omega)
  generalize l[i1]=e1 at H1
  refine Bt H1 ?_
  refine Bt H1 ?_
  refine Br ?_ ?_<;>intro h17
  ·refine Bt H1 ?_
   exact .ret (fin H1 (e1,true) trivial)
  refine Bp<|.H1 H1 ?_
  exact⟨by omega,(y1.1,y1.2),trivial,wk (Fa (Dx ((i1:Int)+1)) H1) [0]⟩
 refine Bu<|.R ?_
 exact .ret (fin Dz (⟨0,0⟩,false) trivial)
theorem V6 (l:List G6) (c:Int) (hl:l.length<=1000000):Ct 276 [.mVeh l,.li c] (fun d:Int=>.li d) (fun d=>True):=by
 refine Ex Tryz.func276 ?_
 refine Bq ?_
 refine Bq<|.seq ?_
 refine Bq<|.block ?_
 refine Bs l.length (fun i1 (y1:Int)=>⟨[(1,.li c),(5,.li y1),(8,.mVeh l),(9,.li l.length),(10,.li i1)],[]⟩) (fun i1 y1=>True) (0) (wk Dz []) (trivial) fun i1 y1 hi1 hy1=>?_
 refine Bq<|.seq ?_
 refine Br ?_ ?_<;>intro h11
 ·refine Bp<|.seq<|.block ?_
  have H1:l[i1]? = some l[i1]:=Aa (by omega)
  generalize l[i1]=e1 at H1
  refine Bt H1 ?_
  refine Bt H1 ?_
  refine Br ?_ ?_<;>intro h17
  ·refine B0 H1 ?_
   refine B0 H1 ?_
   exact⟨by omega,(IntKind.i64.wrap (y1+1)),trivial,wk (Fa (Dx ((i1:Int)+1)) H1) []⟩
  refine Bp<|.H1 H1 ?_
  exact⟨by omega,(y1),trivial,wk (Fa (Dx ((i1:Int)+1)) H1) []⟩
 refine Bu<|.R ?_
 exact .ret (fin Dz y1 trivial)
section
variable (l:List G6) (hl:l.length<=1000000)
include hl
theorem Mr:Ct 254 [.mVeh l] (fun d:Bool=>.lb d) (fun d=>True):=by
 refine Ex Tryz.func254 ?_
 refine Bq<|.seq ?_
 refine Bq ?_
 refine Br ?_ ?_<;>intro h7
 ·refine Bq ?_
  exact .ret (fin Dz false trivial)
 refine Bp<|.seq<|.R<|.block ?_
 refine Bs l.length (fun i1 (y1:Unit)=>⟨[(0,.mVeh l),(8,.mVeh l),(9,.li l.length),(10,.li i1)],[]⟩) (fun i1 y1=>True) () (wk Dz []) (trivial) fun i1 y1 hi1 hy1=>?_
 refine Bq<|.seq ?_
 refine Br ?_ ?_<;>intro h11
 ·refine Bp<|.seq<|.block ?_
  have H1:l[i1]? = some l[i1]:=Aa (by omega)
  generalize l[i1]=e1 at H1
  refine Bt H1<|.seq ?_
  refine Bt H1 ?_
  refine Br ?_ ?_<;>intro h32
  ·refine Bt H1 ?_
   exact .ret (fin H1 false trivial)
  refine Bp ?_
  by_cases hc8:0<i1
  ·have hw2:=Dx (i1 - 1:Int)
   have H3:l[(i1 - 1)]? = some l[(i1 - 1)]:=Aa (by omega)
   generalize l[(i1 - 1)]=e3 at H3
   refine C3 (Tf H1 hc8 hw2 H3) ?_
   refine Br ?_ ?_<;>intro h45
   ·refine Bt (Tf H1 hc8 hw2 H3) ?_
    exact .ret (fin (Tf H1 hc8 hw2 H3) false trivial)
   refine Bp<|.H1 (Tf H1 hc8 hw2 H3) ?_
   exact⟨by omega,(),trivial,wk (X9 (Dx ((i1:Int)+1)) H1 hc8 hw2 H3) []⟩
  have hi0:i1=0:=by omega
  have hxb:l[i1 - 1]? = some e1:=by rw[<- H1,hi0]
  have hw4:=Dx (i1 - 1:Int)
  refine C3 (Tf H1 hc8 hxb hw4) ?_
  refine Cs ?_ ?_<;>intro h45<;>simp[go_sem] at h45
  refine Bp<|.H1 (Tf H1 hc8 hxb hw4) ?_
  exact⟨by omega,(),trivial,wk (X9 (Dx ((i1:Int)+1)) H1 hc8 hxb hw4) []⟩
 refine Bu<|.R ?_
 exact .ret (fin Dz true trivial)
def Ae3:Bool:=(Ep (Mr l hl)).choose
theorem Aeh:PP 254 [] [.mVeh l] [] (.lb (Ae3 l hl)):=(Ep (Mr l hl)).choose_spec.1
end
section
variable (l:List G6) (id:Int) (hl:l.length<=1000000)
include id hl
theorem Mq:Ct 260 [.mVeh l,.li id] (fun d:Int=>.li d) (fun d=>0<=d/\d<=l.length):=by
 refine Ex Tryz.func260 ?_
 refine Bq ?_
 refine Bq<|.seq<|.block ?_
 refine Cj (fun (y1:Int)=>⟨[(0,.mVeh l),(1,.li id),(5,.li y1)],[]⟩) (fun y1=>0<=y1/\y1<=l.length) (fun y1=>(l.length - y1).toNat) (0) (wk Dz []) (by omega) fun y1 hy1=>?_
 refine Ca ?_
 by_cases hc2:y1<l.length
 ·have H1:l[y1.toNat]? = some l[y1.toNat]:=Aa (by omega)
  generalize l[y1.toNat]=e1 at H1
  refine Bt (Fa hc2 H1) ?_
  refine Br ?_ ?_<;>intro h18
  ·refine Bp<|.block ?_
   have hw2:=Dx (y1+1:Int)
   refine B0 (Hq hc2 H1 hw2) ?_
   refine⟨((y1+1)),?_,?_,wQ [] ?_ ?_⟩
   ·omega
   ·omega
   all_goals simp[go_sem,hc2,H1,hw2]
  refine Bu<|.H (Fa hc2 H1) ?_
  exact .ret (fin (Fa hc2 H1) y1 hy1)
 refine Bt hc2 ?_
 refine Cs ?_ ?_<;>intro h18<;>simp[go_sem] at h18
 refine Bu<|.H hc2 ?_
 exact .ret (fin hc2 y1 hy1)
def Mx:Int:=(Ep (Mq l id hl)).choose
theorem Aeg:PP 260 [] [.mVeh l,.li id] [] (.li (Mx l id hl)):=(Ep (Mq l id hl)).choose_spec.1
theorem Ae4:0<=(Mx l id hl)/\(Mx l id hl)<=l.length:=(Ep (Mq l id hl)).choose_spec.2
end
theorem Zw (l:List G6) (a:G2) (v:G6) (hl:l.length<=1000000):Ct 259 [.mVeh l,a.g,v.g] (fun d:List G6×Int=>.tup [.mVeh d.1,.li d.2]) (fun d=>d.1.length<=8/\0<=d.2/\d.2<=99):=by
 refine Ex Tryz.func259 ?_
 obtain⟨Y1,cY1,qY1⟩:=Ep (Mq l v.id hl)
 have hp:=qY1
 refine Bq<|.seq ?_
 obtain⟨Y2,cY2,qY2⟩:=Ep (Mr l hl)
 refine B8 Dz cY2 ?_
 refine Br ?_ ?_<;>intro h12
 ·refine Bq ?_
  exact .ret (fin Dz ([],1) (by first | omega | (simp;done)))
 refine Bp<|.seq<|.R ?_
 refine Br ?_ ?_<;>intro h20
 ·refine Bq ?_
  exact .ret (fin Dz ([],8) (by first | omega | (simp;done)))
 refine Bp<|.seq<|.R ?_
 refine Br ?_ ?_<;>intro h30
 ·refine Bq ?_
  exact .ret (fin Dz ([],17) (by first | omega | (simp;done)))
 refine Bp<|.L Dz cY1<|.seq ?_
 by_cases hc8:Y1<l.length
 ·have H1:l[Y1.toNat]? = some l[Y1.toNat]:=Aa (by omega)
  generalize l[Y1.toNat]=e1 at H1
  refine C3 (Fa hc8 H1) ?_
  refine Br ?_ ?_<;>intro h48
  ·refine Bt (Fa hc8 H1) ?_
   exact .ret (fin (Fa hc8 H1) ([],11) (by first | omega | (simp;done)))
  refine Bp<|.seq ?_
  obtain⟨Y3,cY3,qY3⟩:=Ep (V6 l v.cls hl)
  obtain⟨Y4,cY4,qY4⟩:=Ep (V5 a v.cls)
  refine Cy (fun K kk=>by simp[go_sem,hc8,H1];refine .l cY3 ?_;simp[go_sem,hc8,H1];refine .l cY4 ?_;simp[go_sem,hc8,H1];exact kk) ?_
  refine Br ?_ ?_<;>intro h57
  ·refine Bt (Fa hc8 H1) ?_
   exact .ret (fin (Fa hc8 H1) ([],14) (by first | omega | (simp;done)))
  refine Bp<|.seq<|.H (Fa hc8 H1) ?_
  refine Br ?_ ?_<;>intro h60
  ·refine Bt (Fa hc8 H1) ?_
   exact .ret (fin (Fa hc8 H1) ([],10) (by first | omega | (simp;done)))
  refine Bp ?_
  have hw2:=Dx (l.length+1:Int)
  refine Bt (Hq hc8 H1 hw2) ?_
  refine Bt (Hq hc8 H1 hw2) ?_
  refine Ds 2 rfl (by simp) G6.t (l.length+1) ?_ fun R hR=>?_
  ·apply Lf
   ·repeat' first | exact Nk | exact Nj | exact Ni (x:=(⟨0,0⟩:G6)) rfl | apply Lb | apply Ld | apply Lc
   rfl
  simp[go_sem]
  have H3:R[Y1.toNat]? = some R[Y1.toNat]:=Aa (by omega)
  generalize R[Y1.toNat]=e3 at H3
  refine Bt (X9 hc8 H1 hw2 hR H3) ?_
  have hw4:=Dx (Y1+1:Int)
  refine C3 (cj6 hc8 H1 hw2 hR H3 hw4) ?_
  refine Ds 2 rfl (by simp) G6.t (l.length+1) ?_ fun S hS=>?_
  ·apply Lf
   ·repeat' first | exact Nk | exact Nj | exact Ni (x:=(⟨0,0⟩:G6)) rfl | apply Lb | apply Ld | apply Lc | apply Rf | apply (fun h=>Re (x:=(⟨_,_⟩:G6)) h rfl)
   first | rfl | omega
  simp[go_sem]
  refine B3 (fun K kk=>by simp[go_sem,hc8,H1,hw2,hR,H3,hw4,hS];exact kk) ?_
  refine B2 Dz 2 ?_
  refine Bz (Fj ?_);simp[go_sem,hc8,H1,hw2,hR,H3,hw4,hS]
  exact⟨(S,0),by rfl,(by first | omega | (simp;done) | (simp;omega))⟩
 have hn:l[Y1.toNat]? = none:=Ar (by omega)
 refine C3 (Fa hc8 hn) ?_
 refine Cs ?_ ?_<;>intro h48<;>simp[go_sem] at h48
 refine Bp<|.seq ?_
 obtain⟨Y5,cY5,qY5⟩:=Ep (V6 l v.cls hl)
 obtain⟨Y6,cY6,qY6⟩:=Ep (V5 a v.cls)
 refine Cy (fun K kk=>by simp[go_sem,hc8,hn];refine .l cY5 ?_;simp[go_sem,hc8,hn];refine .l cY6 ?_;simp[go_sem,hc8,hn];exact kk) ?_
 refine Br ?_ ?_<;>intro h57
 ·refine Bt (Fa hc8 hn) ?_
  exact .ret (fin (Fa hc8 hn) ([],14) (by first | omega | (simp;done)))
 refine Bp<|.seq<|.H (Fa hc8 hn) ?_
 refine Br ?_ ?_<;>intro h60
 ·refine Bt (Fa hc8 hn) ?_
  exact .ret (fin (Fa hc8 hn) ([],10) (by first | omega | (simp;done)))
 refine Bp ?_
 have hw5:=Dx (l.length+1:Int)
 refine Bt (Hq hc8 hn hw5) ?_
 refine Bt (Hq hc8 hn hw5) ?_
 refine Ds 2 rfl (by simp) G6.t (l.length+1) ?_ fun R hR=>?_
 ·apply Lf
  ·repeat' first | exact Nk | exact Nj | exact Ni (x:=(⟨0,0⟩:G6)) rfl | apply Lb | apply Ld | apply Lc
  rfl
 simp[go_sem]
 have H6:R[Y1.toNat]? = some R[Y1.toNat]:=Aa (by omega)
 generalize R[Y1.toNat]=e6 at H6
 refine Bt (X9 hc8 hn hw5 hR H6) ?_
 have hw7:=Dx (Y1+1:Int)
 refine C3 (cj6 hc8 hn hw5 hR H6 hw7) ?_
 refine Ds 2 rfl (by simp) G6.t (l.length+1) ?_ fun S hS=>?_
 ·apply Lf
  ·repeat' first | exact Nk | exact Nj | exact Ni (x:=(⟨0,0⟩:G6)) rfl | apply Lb | apply Ld | apply Lc | apply Rf | apply (fun h=>Re (x:=(⟨_,_⟩:G6)) h rfl)
  first | rfl | omega
 simp[go_sem]
 refine B3 (fun K kk=>by simp[go_sem,hc8,hn,hw5,hR,H6,hw7,hS];exact kk) ?_
 refine B2 Dz 2 ?_
 refine Bz (Fj ?_);simp[go_sem,hc8,hn,hw5,hR,H6,hw7,hS]
 exact⟨(S,0),by rfl,(by first | omega | (simp;done) | (simp;omega))⟩
structure Ln where
  ag:Int
  num:Int
  se:Int
def Ln.t (x:Ln):List T:=[.li x.ag,.li x.num,.li x.se]
def Ln.a (fr:Bool) (x:Ln):List AV:=[.li x.ag,.li x.num,.li x.se]
abbrev Ln.g (x:Ln):AV:=.agg (x.a false)
attribute [go_sem] Ln.g
structure F5 where
  tok:Int
  fix:Int
  grp:Int
  lea:Int
  mos:Int
  dat:Int
def F5.t (x:F5):List T:=[.li x.tok,.li x.fix,.li x.grp,.li x.lea,.li x.mos,.li x.dat]
def F5.a (fr:Bool) (x:F5):List AV:=[.li x.tok,.li x.fix,.li x.grp,.li x.lea,.li x.mos,.li x.dat]
abbrev F5.g (x:F5):AV:=.agg (x.a false)
attribute [go_sem] F5.g
structure Ks where
  fix:Int
  grp:Int
  lea:Int
  mos:Int
  dat:Int
def Ks.t (x:Ks):List T:=[.li x.fix,.li x.grp,.li x.lea,.li x.mos,.li x.dat]
def Ks.a (fr:Bool) (x:Ks):List AV:=[.li x.fix,.li x.grp,.li x.lea,.li x.mos,.li x.dat]
abbrev Ks.g (x:Ks):AV:=.agg (x.a false)
attribute [go_sem] Ks.g
abbrev S3 (l:List (List Ea)):List (List T):=l.map fun x=>[.sl 4 (T3 x)]
abbrev Xj (l:List (List (List Ea))):List (List T):=l.map fun x=>[.sl 1 (S3 x)]
abbrev Agm (l:List (Int×Int)):List (List T):=l.map fun x=>[.li x.1,.li x.2]
structure Wm where
  ses:List (List Ea)
  feed:List Ea
def Wm.t (x:Wm):List T:=[.sl 1 (S3 x.ses),.sl 4 (T3 x.feed)]
def Wm.a (fr:Bool) (x:Wm):List AV:=[.imm fr 1 (S3 x.ses),.imm fr 4 (T3 x.feed)]
abbrev Wm.g (x:Wm):AV:=.agg (x.a false)
attribute [go_sem] Wm.g
attribute [go_sem] Ln.t Ln.a F5.t F5.a Ks.t Ks.a Wm.t Wm.a
theorem N4 (a:G2) (h1:a.sec.length<=1000000) (h2:a.lims.length<=1000000):PP 110 [] [a.g] [] (a.g):=by
 refine Em Tryz.func110 ?_
 refine Bw ?_
 refine Ce (fun K kk=>by simp[go_sem];refine .lo (E7.froz (Gk _ (by simpa using h1) (by simp[T.plain]))) rfl (by simp) ?_;simp[go_sem];exact kk) ?_
 refine Ce (fun K kk=>by simp[go_sem];refine .lo (E7.froz (Hm _ (by simpa using h2) (by simp[T.plain]))) rfl (by simp) ?_;simp[go_sem];exact kk) ?_
 refine Bw ?_
 exact .ret (rL Dz)
theorem Wc (r:Ew) (h:r.legs.length<=1000000):PP 186 [] [r.g] [] (r.g):=by
 refine Em Tryz.func186 ?_
 refine Bw ?_
 refine Ce (fun K kk=>by simp[go_sem];refine .lo (E7.froz (Ng _ (by simpa using h) (by simp[T.plain,G3.t]))) rfl (by simp) ?_;simp[go_sem];exact kk) ?_
 refine Bw ?_
 exact .ret (rL Dz)
theorem Uu (s:Ib) (h1:s.ctl.lights.length<=1000000) (h2:s.ctl.nxt.length<=1000000):PP 126 [] [s.g] [] (s.g):=by
 refine Em Tryz.func126 ?_
 refine Bw ?_
 refine Ce (fun K kk=>by simp[go_sem];refine .lo (E7.froz (T2 _ (by simpa using h1) (by simp[T.plain,F0.t]))) rfl (by simp) ?_;simp[go_sem];exact kk) ?_
 refine Ce (fun K kk=>by simp[go_sem];refine .lo (E7.froz (Hm _ (by simpa using h2) (by simp[T.plain]))) rfl (by simp) ?_;simp[go_sem];exact kk) ?_
 refine Bw ?_
 exact .ret (rL Dz)
def bsm (l:List G2) (a:Int):Nat->Int
  | 0=>0
  | n+1=>if (n:Int)<a then IntKind.i64.wrap (bsm l a n+(l[n]?.map G2.se).getD 0) else bsm l a n
section
variable (c:E5) (a:Int) (h:c.ags.length<=1000000)
include a h
theorem Ju:Ct 33 [c.g,.li a] (fun d:Int=>.li d) (fun d=>d=bsm c.ags a c.ags.length):=by
 refine Ex Tryz.func33 ?_
 refine Bq ?_
 refine Bq<|.seq ?_
 refine Bq<|.block ?_
 refine Bs c.ags.length (fun i1 (y1:Int)=>⟨[(1,.li a),(5,.li y1),(9,.mAg c.ags),(10,.li c.ags.length),(11,.li i1)],[]⟩) (fun i1 y1=>y1=bsm c.ags a i1) (0) (wk Dz []) (rfl) fun i1 y1 hi1 hy1=>?_
 refine Bq<|.seq ?_
 refine Br ?_ ?_<;>intro h12
 ·refine Bp<|.seq<|.block ?_
  have H1:c.ags[i1]? = some c.ags[i1]:=Aa (by omega)
  generalize c.ags[i1]=e1 at H1
  refine Bt H1 ?_
  refine Bt H1 ?_
  refine Br ?_ ?_<;>intro h18
  ·refine B0 H1 ?_
   refine B0 H1 ?_
   exact⟨by omega,(IntKind.i64.wrap (y1+e1.se)),by rw[hy1,bsm,if_pos (by omega),H1];rfl,wk (Fa (Dx ((i1:Int)+1)) H1) []⟩
  refine Bp<|.H1 H1 ?_
  exact⟨by omega,(y1),by rw[hy1,bsm,if_neg (by omega)],wk (Fa (Dx ((i1:Int)+1)) H1) []⟩
 refine Bu<|.R ?_
 exact .ret (fin Dz y1 (by rw[hy1,show i1=c.ags.length by omega]))
def J3:Int:=(Ep (Ju c a h)).choose
theorem Up:PP 33 [] [c.g,.li a] [] (.li (J3 c a h)):=(Ep (Ju c a h)).choose_spec.1
theorem U0:(J3 c a h)=bsm c.ags a c.ags.length:=(Ep (Ju c a h)).choose_spec.2
end
theorem Tk (c:E5) (s:Int) (h:c.ags.length<=1000000):Ct 36 [c.g,.li s] (fun d:Int=>.li d) (fun d=>0<=d/\(d<c.ags.length\/d=0)):=by
 refine Ex Tryz.func36 ?_
 refine Bq<|.seq ?_
 refine Bq<|.block ?_
 refine Bs c.ags.length (fun i1 (y1:Int)=>⟨[(1,.li y1),(8,.mAg c.ags),(9,.li c.ags.length),(10,.li i1)],[]⟩) (fun i1 y1=>True) (s) (wk Dz []) (trivial) fun i1 y1 hi1 hy1=>?_
 refine Bq<|.seq ?_
 refine Br ?_ ?_<;>intro h11
 ·refine Bp<|.seq<|.block ?_
  have H1:c.ags[i1]? = some c.ags[i1]:=Aa (by omega)
  generalize c.ags[i1]=e1 at H1
  refine Bt H1<|.seq ?_
  refine Bt H1 ?_
  refine Br ?_ ?_<;>intro h18
  ·refine Bt H1 ?_
   exact .ret (fin H1 i1 ⟨by omega,.inl (by omega)⟩)
  refine Bp<|.H1 H1 ?_
  refine B0 H1 ?_
  exact⟨by omega,(IntKind.i64.wrap (y1 - e1.se)),trivial,wk (Fa (Dx ((i1:Int)+1)) H1) []⟩
 refine Bu<|.R ?_
 exact .ret (fin Dz 0 ⟨by decide,.inr rfl⟩)
theorem Ah8 (a:Int) (s:Int) (b:List Int) (h:b.length<=1000):Ct 257 [.li a,.li s,.mY b] (fun d:List Int=>.mY d) (fun d=>d.length=b.length+2/\(By b->By d)):=by
 refine Ex Tryz.func257 ?_
 have e2:2+b.length=b.length+1+1:=by omega
 refine Bq ?_
 have hw1:=Dx (2+b.length:Int)
 refine Bt hw1 ?_
 refine Bt hw1 ?_
 refine Bt hw1 ?_
 refine B2 Dz 0 ?_
 refine Bz (Fj ?_);simp[go_sem,hw1,e2]
 exact⟨(List.replicate 0 0)++([IntKind.u8.wrap a,IntKind.u8.wrap s])++b,by rfl,⟨by simp,fun hB=>.app (.app (.rep 0) (.cons (Rt a) (.u8 s))) hB⟩⟩
theorem Aem (l:List Fq) (s:Int):PP 232 [] [.mTok l,.li s] [] (.lb (Iy l s)):=by
 refine Em Tryz.func232 ?_
 refine Bw ?_
 rcases (by omega:s<0\/(0<=s/\(l.length:Int)<=s)\/(0<=s/\s<l.length)) with hs | hs | hs
 ·replace hs:¬0<=s:=by omega
  refine Ce (fun K kk=>by simp[go_sem,hs];repeat first | exact kk | refine aK ?_) ?_
  refine B5 ?_
  first | (simp[go_sem,Iy,hs,hx];done) | (simp[go_sem,Iy,hs];done)
 ·refine Ce (fun K kk=>by simp[go_sem,hs];repeat first | exact kk | refine aK ?_) ?_
  refine B5 ?_
  first | (simp[go_sem,Iy,hs,hx];done) | (simp[go_sem,Iy,hs];done)
 have hx:l[s.toNat]? = some l[s.toNat]:=Aa (by omega)
 generalize l[s.toNat]=t at hx
 refine Ce (fun K kk=>by simp[go_sem,hs];repeat first | exact kk | refine aK ?_) ?_
 refine B5 ?_
 (simp[go_sem,Iy,hs,hx];done)
section
variable (j:F9) (h:j.phs.length<=1000000)
include h
theorem L9:∃d:Gp,PP 54 [] [j.g] [.row 3 1 false false (tI d.col),.row 3 1 false false (tI d.cnt)] (.agg [.lb d.fl,.lb d.ov,.own 0 d.col.length,.own 1 d.cnt.length])/\(d.col.length=j.phs.length/\d.cnt.length=j.phs.length):=by
 refine Oh (D:=Gp) (F:=fun d=>.agg [.lb d.fl,.lb d.ov,.own 0 d.col.length,.own 1 d.cnt.length]) (S:=fun d=>[.row 3 1 false false (tI d.col),.row 3 1 false false (tI d.cnt)]) (Q:=fun d=>d.col.length=j.phs.length/\d.cnt.length=j.phs.length) Tryz.func54 rfl rfl rfl (by simp[Tryz.ntmps54]) ?_
 refine Bq ?_
 refine C3 Dz ?_
 exact .ret ⟨⟨true,false,List.replicate j.phs.length 0,List.replicate j.phs.length 0⟩,rW Dz [2,3],(by simp)⟩
def Fc:Gp:=(L9 j h).choose
theorem Yx:PP 54 [] [j.g] [.row 3 1 false false (tI (Fc j h).col),.row 3 1 false false (tI (Fc j h).cnt)] (.agg [.lit (.bool (Fc j h).fl),.lit (.bool (Fc j h).ov),.own 0 ((Fc j h).col).length,.own 1 ((Fc j h).cnt).length]):=(L9 j h).choose_spec.1
theorem Abj:(Fc j h).col.length=j.phs.length/\(Fc j h).cnt.length=j.phs.length:=(L9 j h).choose_spec.2
end
section
variable (s:Fx) (b:Bool) (h:s.ended.length<=1000000)
include b h
theorem Qh:Ct 154 [s.g,.lb b] (fun d:Fx=>d.g) (fun d=>d.ended=s.ended):=by
 refine Ex Tryz.func154 ?_
 refine Bq ?_
 refine B8 Dz (Ls s (by assumption))<|.seq ?_
 refine Bq ?_
 refine Br ?_ ?_<;>intro h12
 ·refine Ci ?_
  refine Bq ?_
  exact .ret (fin Dz ⟨s.ph,IntKind.i64.wrap ((if 59<s.gr then 59 else s.gr)+1),s.ended⟩ rfl)
 refine Bp<|.R ?_
 exact .ret (fin Dz s rfl)
def M0:Fx:=(Ep (Qh s b h)).choose
theorem Wh:PP 154 [] [s.g,.lb b] [] (.agg ((M0 s b h).a false)):=(Ep (Qh s b h)).choose_spec.1
theorem Wj:(M0 s b h).ended=s.ended:=(Ep (Qh s b h)).choose_spec.2
end
theorem Ap9 (c:Ok) (h:c.lights.length<=1000000):Ct 221 [c.g] (fun d:Int=>.li d) (fun d=>True):=by
 refine Ex Tryz.func221 ?_
 refine Bq ?_
 refine Bq<|.seq ?_
 refine Bq<|.block ?_
 refine Bs c.lights.length (fun i1 (y1:Int)=>⟨[(3,.li y1),(7,.mLight c.lights),(8,.li c.lights.length),(9,.li i1)],[]⟩) (fun i1 y1=>True) (0) (wk Dz []) (trivial) fun i1 y1 hi1 hy1=>?_
 refine Bq<|.seq ?_
 refine Br ?_ ?_<;>intro h10
 ·refine Bp<|.seq<|.block ?_
  have H1:c.lights[i1]? = some c.lights[i1]:=Aa (by omega)
  generalize c.lights[i1]=e1 at H1
  refine Bt H1 ?_
  refine Bt H1 ?_
  refine Br ?_ ?_<;>intro h16
  ·refine B0 H1 ?_
   refine B0 H1 ?_
   exact⟨by omega,(Ey .or .i64 y1 (IntKind.i64.wrap (1*2 ^ min (Int.toNat i1) 64))),trivial,wk (Fa (Dx ((i1:Int)+1)) H1) []⟩
  refine Bp<|.H1 H1 ?_
  exact⟨by omega,(y1),trivial,wk (Fa (Dx ((i1:Int)+1)) H1) []⟩
 refine Bu<|.R ?_
 exact .ret (fin Dz y1 trivial)
section
mutual
def AV.sel1 (id:Nat) (ts:List T):AV->AV
 | .ptr i off=>bif i == id then .iptr false ts off else .ptr i off
 | .agg cs=>.agg (R3 id ts cs)
 | .tup cs=>.tup (R3 id ts cs)
 | .fn f cs=>.fn f (R3 id ts cs)
 | .gd t v=>.gd t (v.sel1 id ts)
 | .any=>.any
 | .lit v=>.lit v
 | .nil k=>.nil k
 | .imm fr k es=>.imm fr k es
 | .own i n=>.own i n
 | .sub i n lo m=>.sub i n lo m
 | .rptr i n j off=>.rptr i n j off
 | .bsl i n=>bif i == id then .any else .bsl i n
 | .iptr fr cs off=>.iptr fr cs off
def R3 (id:Nat) (ts:List T):List AV->List AV
 | []=>[]
 | c::cs=>c.sel1 id ts::R3 id ts cs
end
section
variable {id:Nat} {ts:List T}
theorem Acs:∀(cs:List AV) (i:Nat),(R3 id ts cs)[i]? = (cs[i]?).map (AV.sel1 id ts)
 | [],i=>by simp[R3]
 | c::cs,0=>by simp[R3]
 | c::cs,i+1=>by simp[R3,Acs cs i]
theorem N8:∀(cs:List AV),(R3 id ts cs).length=cs.length
 | []=>rfl
 | c::cs=>by simp[R3,N8 cs]
end
def Ob.sel1 (id:Nat) (ts:List T):Ob->Ob
 | .box ty cs=>.box ty (R3 id ts cs)
 | x=>x
def Ajt (id:Nat) (ts:List T):List (Nat×AV)->List (Nat×AV)
 | []=>[]
 | p::l=>(p.1,p.2.sel1 id ts)::Ajt id ts l
theorem Ahb (id:Nat) (ts:List T):∀(l:List (Nat×AV)) (t:Nat),E9 (Ajt id ts l) t=(E9 l t).sel1 id ts
 | [],t=>rfl
 | p::l,t=>by
  simp only[Ajt,E9]
  cases p.1 == t
  ·exact Ahb id ts l t
  rfl
def Adw (id:Nat) (ts:List T):List Ob->List Ob
 | []=>[]
 | x::l=>x.sel1 id ts::Adw id ts l
theorem Aju (id:Nat) (ts:List T):∀(l:List Ob) (i:Nat),(Adw id ts l).getD i .gone=(l.getD i .gone).sel1 id ts
 | [],i=>by simp[Adw,Ob.sel1]
 | x::l,0=>by simp[Adw]
 | x::l,i+1=>by have:=Aju id ts l i;simp[Adw] at this ⊢;exact this
def St.sel1 (st:St) (id:Nat) (ts:List T):St:=⟨Ajt id ts st.sl,P3 (Adw id ts st.ob) id .gone⟩
theorem Xo (st:St) (id:Nat) (ts:List T) (i:Nat):(st.sel1 id ts).o i=if i=id then .gone else (st.o i).sel1 id ts:=by
 show (P3 (Adw id ts st.ob) id .gone).getD i .gone=_
 rw[Xn,Aju]
 rfl
variable {ty:TypeId} {cs:List AV} {ts:List T}
theorem Eu.sel1 {E:Gs} {β:Nat->Option Nat} {st:St} {a:Act} {w:World} (r:Eu E β st a w) {id:Nat} (ho:st.o id=.box ty cs) (ht:ttL cs=some ts) (hE:E.o0 id=.gone):Eu E β (st.sel1 id ts) a w:=by
 have hlv:∀b,(E.C β (st.sel1 id ts) w).lives b->(E.C β st w).lives b:=by
  rintro b ⟨i,h1,h2⟩
  have h2:((st.sel1 id ts).o i).live:=h2
  rw[Xo] at h2
  by_cases e:i=id
  ·rw[if_pos e] at h2;exact h2.elim
  rw[if_neg e] at h2
  refine⟨i,h1,?_⟩
  show (st.o i).live
  cases hq:st.o i<;>rw[hq] at h2<;>exact h2
 have hS:∀fr b,(E.C β st w).S fr b->(E.C β (st.sel1 id ts) w).S fr b:=fun fr b ⟨h1,h2,h3⟩=>⟨h1,fun h=>h2 (hlv b h),h3⟩
 have hT:∀fr t u,Gq w.heap ((E.C β st w).S fr) t u->Gq w.heap ((E.C β (st.sel1 id ts) w).S fr) t u:=fun fr t u h=>h.keep (fun _ _=>rfl) (hS fr)
 obtain⟨b,cur,q1,q2,q3,q4⟩:Kx (E.C β st w) id (.box ty cs):=by have:=r.ob id;rwa[ho] at this
 have q1:β id=some b:=q1
 have hSb:(E.C β (st.sel1 id ts) w).S false b:=by
  obtain⟨g1,g2⟩:=r.rng id b (by rw[ho];simp) q1
  refine⟨g1,?_,g2.elim .inl fun h=>.inr (.inl h)⟩
  rintro⟨i,h1,h2⟩
  have h1:β i=some b:=h1
  have h2:((st.sel1 id ts).o i).live:=h2
  rw[Xo] at h2
  by_cases e:i=id
  ·rw[if_pos e] at h2;exact h2
  rw[if_neg e] at h2
  refine e (r.inj i id b (fun hg=>?_) (by rw[ho];simp) h1 q1)
  rw[hg] at h2
  exact h2
 have hrow:∀i ty' k fr fz es,st.o i=.row ty' k fr fz es->(st.sel1 id ts).o i=.row ty' k fr fz es:=fun i ty' k fr fz es h=>by
  rw[Xo,if_neg (fun e=>by subst e;rw[ho] at h;cases h),h]
  rfl
 have hV:∀(c:AV) (u:Value),Ec (E.C β st w) c u->Ec (E.C β (st.sel1 id ts) w) (c.sel1 id ts) u:=by
  intro c u h
  have hL:∀(cs:List AV) (us:Array Value),(∀(i:Nat) (c:AV) (u:Value),cs[i]? = some c->us[i]? = some u->Ec (E.C β (st.sel1 id ts) w) (c.sel1 id ts) u)->∀(i:Nat) (c:AV) (u:Value),(R3 id ts cs)[i]? = some c->us[i]? = some u->Ec (E.C β (st.sel1 id ts) w) c u:=fun cs us ih i c u hc hu=>by
   rw[Acs] at hc
   cases hx:cs[i]? with
   | none=>rw[hx] at hc;cases hc
   | some x =>
    rw[hx] at hc
    simp only[Ai,Option.some.injEq] at hc
    subst hc
    exact ih i x u hx hu
  induction h with
  | any u=>exact .any u
  | lit v=>exact .lit v
  | nil k A=>exact .nil k A
  | imm fr k es u h=>exact .imm _ _ _ _ (hT fr _ _ h)
  | own i n u h =>
   obtain⟨h1,ty',k,fr,fz,es,h2,h3⟩:=h
   exact .own i n u ⟨h1,ty',k,fr,fz,es,hrow _ _ _ _ _ _ h2,h3⟩
  | sub i n lo m u h =>
   obtain⟨h1,ty',k,fr,fz,es,h2,h3⟩:=h
   exact .sub i n lo m u ⟨h1,ty',k,fr,fz,es,hrow _ _ _ _ _ _ h2,h3⟩
  | rptr i n j off u h =>
   obtain⟨h1,ty',k,fr,fz,es,h2,h3⟩:=h
   exact .rptr i n j off u ⟨h1,ty',k,fr,fz,es,hrow _ _ _ _ _ _ h2,h3⟩
  | ptr i off u h =>
   obtain⟨ty',cs',b',h1,h2,rfl⟩:=h
   have h1:st.o i=_:=h1
   have h2:β i=some b':=h2
   by_cases e:i=id
   ·subst e
    rw[q1] at h2
    injection h2 with h2
    subst h2
    have hcell:∀(j:Nat) (x:T),ts[j]? = some x->cur[0+j]? = some ((cur[j]?).getD undef)/\Gq w.heap ((E.C β (st.sel1 i ts) w).S false) x ((cur[j]?).getD undef):=fun j x hx=>by
     obtain⟨c,g1,g2⟩:=Afh ht j x hx
     have hj:j<cur.size:=Nat.lt_of_lt_of_le (Ab.1 g1).1 q3
     have g3:cur[j]? = some cur[j]:=Al hj
     obtain⟨g4,g5⟩:=q4 j c _ g1 g3
     rw[Bm,g3]
     refine⟨rfl,?_⟩
     simp only[Bh]
     generalize cur[j]=u at g4 g5
     cases g4 with
     | lit v=>simp only[Z8,Option.some.injEq] at g2;subst g2;exact .lit _ g5
     | nil k A=>simp only[Z8,Option.some.injEq] at g2;subst g2;exact .nil _ _ _
     | imm fr k es u h=>simp only[Z8,Option.some.injEq] at g2;subst g2;exact VC.T_weak (C:=E.C β (st.sel1 i ts) w) (g:=false) (hT fr _ _ h) fun e=>by cases e
     | fn f cs us k1 k2 =>
      obtain⟨fr,ts',off',rfl,rfl⟩:=Alj g2
      exact VC.T_weak (C:=E.C β (st.sel1 i ts) w) (g:=false) (hT fr _ _ (Ec.fn1 (.fn f _ us k1 k2))) fun e=>by cases e
     | _=>cases g2
    have:=Ec.iptr (C:=E.C β (st.sel1 i ts) w) false ts off b 0 cur ty (0,0) (fun j=>(cur[j]?).getD undef) q2 hSb hcell
    rw[Bm] at this
    simp only[AV.sel1,beq_self_eq_true,cond_true]
    exact this
   have e':(i == id)=false:=by simpa using e
   simp only[AV.sel1,e',cond_false]
   exact .ptr i off _ ⟨ty',R3 id ts cs',b',by show (st.sel1 id ts).o i=_;rw[Xo,if_neg e,h1];rfl,h2,rfl⟩
  | bsl i n u h =>
   obtain⟨ty',cs',b',c',h1,h2,h3⟩:=h
   have h1:st.o i=_:=h1
   by_cases e:i=id
   ·subst e
    simp only[AV.sel1,beq_self_eq_true,cond_true]
    exact .any _
   have e':(i == id)=false:=by simpa using e
   simp only[AV.sel1,e',cond_false]
   exact .bsl i n _ ⟨ty',R3 id ts cs',b',c',by show (st.sel1 id ts).o i=_;rw[Xo,if_neg e,h1];rfl,h2,h3⟩
  | iptr fr cs off b o cur ty fz us h1 h2 h3=>exact .iptr fr cs off b o cur ty fz us h1 (hS fr b h2) fun j x hx=>⟨(h3 j x hx).1,hT fr _ _ (h3 j x hx).2⟩
  | agg cs us h1 h2 ih=>exact .agg _ _ (by rw[N8];exact h1) (hL cs us ih)
  | tup cs us h1 h2 ih=>exact .tup _ _ (by rw[N8];exact h1) (hL cs us ih)
  | fn f cs us h1 h2 ih=>exact .fn f _ _ (by rw[N8];exact h1) (hL cs us ih)
  | gd t v u h1 h2 ih=>exact .gd t _ u (fun e=>ih e) h2
 have hng:∀i,(st.sel1 id ts).o i≠.gone->st.o i≠.gone:=fun i h e=>h (by rw[Xo,e];split<;>rfl)
 refine⟨r.sz,fun t=>?_,r.df,fun i=>?_,fun i j b hi hj=>r.inj i j b (hng i hi) (hng j hj),fun i b hi=>r.rng i b (hng i hi),r.kp,⟨fun i ty' cs' h=>?_,fun i ty' k fr fz es h=>?_⟩,r.kb,r.dk⟩
 ·show Ec _ (E9 (Ajt id ts st.sl) t) _
  rw[Ahb]
  exact hV _ _ (r.sl t)
 ·rw[Xo]
  by_cases e:i=id
  ·rw[if_pos e];trivial
  rw[if_neg e]
  have:=r.ob i
  cases hq:st.o i with
  | gone=>trivial
  | row ty' k fr fz es =>
   rw[hq] at this
   obtain⟨h1,h2⟩:=this
   refine⟨h1,?_⟩
   cases hb:(E.C β (st.sel1 id ts) w).β i with
   | none =>
    have hb:β i=none:=hb
    have h2:(match β i with | none=>es=[] | some b=>_):=h2
    rw[hb] at h2;exact h2
   | some b =>
    have hb:β i=some b:=hb
    have h2:(match β i with | none=>es=[] | some b=>_):=h2
    rw[hb] at h2
    obtain⟨cur,c,g1,g2,g3,g4,g5⟩:=h2
    exact⟨cur,c,g1,g2,g3,g4,fun i e j x he hx=>let ⟨u,p1,p2⟩:=g5 i e j x he hx;⟨u,p1,hT _ _ _ p2⟩⟩
  | box ty' cs' =>
   rw[hq] at this
   obtain⟨b,cur,g1,g2,g3,g4⟩:=this
   refine⟨b,cur,g1,g2,by rw[N8];exact g3,fun j c u hc hu=>?_⟩
   rw[Acs] at hc
   cases hx:cs'[j]? with
   | none=>rw[hx] at hc;cases hc
   | some x =>
    rw[hx] at hc
    simp only[Ai,Option.some.injEq] at hc
    subst hc
    exact⟨hV _ _ (g4 j x u hx hu).1,(g4 j x u hx hu).2⟩
 ·obtain⟨⟨cs2,h1⟩,h2⟩:=r.ct.box i ty' cs' h
  have e:i≠id:=fun e=>by subst e;rw[hE] at h;cases h
  have h1:st.o i=_:=h1
  exact⟨⟨_,by show (st.sel1 id ts).o i=_;rw[Xo,if_neg e,h1];rfl⟩,h2⟩
 obtain⟨fr',fz',es',h1,h2⟩:=r.ct.row i ty' k fr fz es h
 exact⟨fr',fz',es',hrow _ _ _ _ _ _ h1,h2⟩
section
variable {P:Program} {n m:Nat} {st:St} {K:Exit->St->Prop} {c:Code}
theorem VW.sel1 (id:Nat) (ho:st.o id=.box ty cs) (ht:ttL cs=some ts) (hm:m<=id) (hv:VW P n m c (st.sel1 id ts) K):VW P n m c st K:=fun E F hE hF β a w r =>
 hv E F hE hF β a w (r.sel1 ho ht (hE.2 id hm))
theorem VX.sel1 (id:Nat) (ho:st.o id=.box ty cs) (ht:ttL cs=some ts) (hm:m<=id) (hv:VX P n m c (st.sel1 id ts) K):VX P n m c st K:=by
 obtain⟨e,s,h1,h2⟩:=hv
 exact⟨e,s,.sel1 id ho ht hm h1,h2⟩
end
attribute [go_sem] St.sel1 Ajt Adw R3 AV.sel1 Ob.sel1
theorem Xl (x:T):Abz [.iptr false [x] 0]:=by
 constructor<;>intros<;>first | rfl | exact⟨trivial,trivial⟩
theorem Uy:Abz []:=by
 constructor<;>intros<;>first | rfl | exact trivial
end
theorem Z2 (now:Int) (r:Ew):PP 169 [] [r.g,.iptr false [.li now] 0] [] (.lb (decide (now<=r.unt))):=by
 refine Em Tryz.func169 ?_
 iterate 2 refine Bw ?_
 exact .ret (rL Dz)
theorem K9 (r:Ew):PP 193 [] [r.g] [] (.lb (true)):=by
 refine Em Tryz.func193 ?_
 iterate 2 refine Bw ?_
 exact .ret (rL Dz)
theorem Yw (v:Int) (r:Ew):PP 238 [] [r.g,.iptr false [.li v] 0] [] (.lb (r.veh != v)):=by
 refine Em Tryz.func238 ?_
 iterate 2 refine Bw ?_
 exact .ret (rL Dz)
theorem Z4 (i:Int) (r:Ew):PP 245 [] [r.g,.iptr false [.li i] 0] [] (.lb (r.id != i)):=by
 refine Em Tryz.func245 ?_
 iterate 2 refine Bw ?_
 exact .ret (rL Dz)
theorem Aaw (i:Int) (r:Ew):PP 268 [] [r.g,.iptr false [.li i] 0] [] (.lb (r.id == i)):=by
 refine Em Tryz.func268 ?_
 iterate 2 refine Bw ?_
 exact .ret (rL Dz)
theorem Z3 (j:Int) (g:G3):PP 179 [] [g.g,.iptr false [.li j] 0] [] (.lb (g.j == j)):=by
 refine Em Tryz.func179 ?_
 iterate 2 refine Bw ?_
 exact .ret (rL Dz)
theorem Uo (t:Fq):PP 275 [] [t.g] [] (.lb (!t.used)):=by
 refine Em Tryz.func275 ?_
 iterate 2 refine Bw ?_
 exact .ret (rL Dz)
theorem Aek (x:F0):PP 250 [] [x.g] [] (.lb (x.l != 0)):=by
 refine Em Tryz.func250 ?_
 iterate 2 refine Bw ?_
 exact .ret (rL Dz)
theorem N0 (l:List Ew) (fid:FuncId) (caps:List AV) (p:Ew->Bool) (hl:l.length<=1000000) (hg:∀r∈l,r.legs.length<=1000000) (hc:Abz caps) (hp:∀t,PP fid [] (t.g::caps) [] (.lb (p t))):PP 168 [] [.mReq l,.fn fid caps] [] (.mReq (l.filter p)):=by
 refine Em Tryz.func168 ?_
 refine Ce (fun K kk=>by simp[go_sem,hc.pass,hc.passC,hc.bor,hc.low];exact kk) ?_
 refine Ce (fun K kk=>by simp[go_sem,hc.pass,hc.passC,hc.bor,hc.low];exact kk)<|.seq ?_
 refine Ce (fun K kk=>by simp[go_sem,hc.pass,hc.passC,hc.bor,hc.low];exact kk)<|.block ?_
 refine Cn 5 164 5 (by decide) (k':=5) (by simp[go_sem]) ?_
 simp[go_sem]
 refine Cc l.length (fun i1=>⟨[(1,.fn fid caps),(5,.own 0 ((l.take i1).filter p).length),(8,.mReq l),(9,.li l.length),(10,.li i1)],[.row 164 5 false false (Hn ((l.take i1).filter p))]⟩) (wQ [0] ?_ ?_) fun i1 hi1=>?_
 ·simp[go_sem,hc.ren]
 ·simp[go_sem,hc.ren]
 refine Ce (fun K kk=>by simp[go_sem,hc.pass,hc.passC,hc.bor,hc.low];exact kk)<|.seq ?_
 refine B6 ?_ ?_<;>intro h11
 ·have hx:l[i1]? = some l[i1]:=Aa (by omega)
  generalize l[i1]=e at hx
  have hf:((l.take i1).filter p).length<=i1:=Ak (Az _ _) (by simp;omega)
  have ht:List.take (i1+1) l=List.take i1 l++[e]:=by rw[List.take_add_one,hx];rfl
  refine Bv<|.seq<|.block<|.H hx ?_
  refine Ce (fun K kk=>by simp[go_sem,hc.pass,hc.passC,hc.bor,hc.low];refine .lo (hp e) (by simp[go_sem,hc.low]) (by simp[AV.cln,Fu]) ?_;simp[go_sem,hc.pass,hc.passC,hc.bor,hc.low];exact kk) ?_
  refine B6 ?_ ?_<;>intro h16
  ·refine VW.S1 (fun K kk=>by simp[go_sem,hc.pass,hc.passC,hc.bor,hc.low];refine .l (Wc e (hg e (Ac hx))) ?_;simp[go_sem,hc.pass,hc.passC,hc.bor,hc.low];(repeat first | exact kk | refine aK ?_)) ?_
   refine VW.S1 (fun K kk=>by simp[go_sem,hc.pass,hc.passC,hc.bor,hc.low];exact kk) ?_
   refine⟨by omega,wQ [0] ?_ ?_⟩
   ·simp[go_sem,Dx ((i1:Int)+1),hc.ren,ht,List.filter_append,h11,h16]
   simp[go_sem,hc.ren,ht,List.filter_append,h11,h16]
  refine Bv<|.S1 (fun K kk=>by simp[go_sem,hc.pass,hc.passC,hc.bor,hc.low];exact kk) ?_
  refine⟨by omega,wQ [0] ?_ ?_⟩
  ·simp[go_sem,Dx ((i1:Int)+1),hc.ren,ht,List.filter_append,h11,h16]
  simp[go_sem,hc.ren,ht,List.filter_append,h11,h16]
 refine B4<|.S (fun K kk=>by simp[go_sem,hc.pass,hc.passC,hc.bor,hc.low];exact kk) ?_
 have he:l.take i1=l:=Bf (by omega)
 simp only[he]
 refine Ch 0 (by simp[go_sem,F8]) ?_
 simp[go_sem]
 exact .ret (rL Dz)
theorem Acn (l:List Ew) (now:Int) (hl:l.length<=1000000) (hg:∀r∈l,r.legs.length<=1000000):PP 148 [] [.mReq l,.li now] [] (.mReq (l.filter fun r=>decide (now<=r.unt))):=by
 refine Em Tryz.func148 ?_
 refine Bw ?_
 refine VW.sel1 0 rfl rfl (by simp) ?_
 simp[go_sem]
 refine Ce (fun K kk=>by simp[go_sem];refine .lo (N0 l _ [.iptr false [.li now] 0] (fun r=>decide (now<=r.unt)) hl hg (Xl _) (Z2 now)) (by simp[go_sem]) (by simp[AV.cln,Fu]) ?_;simp[go_sem];exact kk) ?_
 exact .ret (rL Dz)
theorem K7 (l:List Ew) (v:Int) (hl:l.length<=1000000) (hg:∀r∈l,r.legs.length<=1000000):PP 211 [] [.mReq l,.li v] [] (.mReq (l.filter fun r=>r.veh != v)):=by
 refine Em Tryz.func211 ?_
 refine Bw ?_
 refine VW.sel1 0 rfl rfl (by simp) ?_
 simp[go_sem]
 refine Ce (fun K kk=>by simp[go_sem];refine .lo (N0 l _ [.iptr false [.li v] 0] (fun r=>r.veh != v) hl hg (Xl _) (Yw v)) (by simp[go_sem]) (by simp[AV.cln,Fu]) ?_;simp[go_sem];exact kk) ?_
 exact .ret (rL Dz)
section
variable (l:List Ew) (hl:l.length<=1000000) (hg:∀r∈l,r.legs.length<=1000000)
include hl hg
theorem Axh:PP 168 [] [.mReq l,.fn 193 []] [] (.mReq l):=by
 have h:=N0 l _ [] (fun _=>true) hl hg Uy (K9)
 rwa[show l.filter (fun _=>true)=l by simp] at h
theorem Z1:PP 171 [] [.mReq l] [] (.mReq l):=by
 refine Em Tryz.func171 ?_
 refine Bw ?_
 refine Ce (fun K kk=>by simp[go_sem];refine .lo (Axh l hl hg) (by simp[go_sem]) (by simp[AV.cln,Fu]) ?_;simp[go_sem];exact kk) ?_
 exact .ret (rL Dz)
end
theorem Qn (l:List Ew) (i:Int) (hl:l.length<=1000000):PP 244 [] [.mReq l,.li i] [] (.li (Il (fun r:Ew=>r.id == i) l)):=by
 refine Em Tryz.func244 ?_
 refine Bw ?_
 refine VW.sel1 0 rfl rfl (by simp) ?_
 simp[go_sem]
 refine Ce (fun K kk=>by simp[go_sem];refine .lo (Yz l _ [.iptr false [.li i] 0] (fun r=>r.id == i) hl (Xl _) (Aaw i)) (by simp[go_sem]) (by simp[AV.cln,Fu]) ?_;simp[go_sem];exact kk) ?_
 exact .ret (rL Dz)
theorem Ahh {α:Type} (p:α->Bool):∀(l:List α) (i:Nat),Gz p l i<i+l.length /\ -1<=Gz p l i
 | [],i=>by simp[Gz];omega
 | t::ts,i=>by
  unfold Gz
  split
  ·simp;omega
  have:=Ahh p ts (i+1)
  simp at this ⊢
  omega
theorem Ahg {α:Type} (p:α->Bool) (l:List α):Il p l<l.length /\ -1<=Il p l:=by
 have:=Ahh p l 0
 simpa[Il] using this
theorem Q0 (l:List G3) (hl:l.length<=1000000):Ct 265 [.mLeg l] (fun d:Bool=>.lb d) (fun d=>True):=by
 refine Ex Tryz.func265 ?_
 refine Bq<|.seq ?_
 refine Bq ?_
 refine Br ?_ ?_<;>intro h14
 ·refine Bq ?_
  exact .ret (fin Dz false trivial)
 refine Bp<|.seq<|.R<|.block ?_
 refine Bs l.length (fun i1 (y1:Unit)=>⟨[(0,.mLeg l),(15,.mLeg l),(16,.li l.length),(17,.li i1)],[]⟩) (fun i1 y1=>True) () (wk Dz []) (trivial) fun i1 y1 hi1 hy1=>?_
 refine Bq<|.seq ?_
 refine Br ?_ ?_<;>intro h18
 ·refine Bp<|.seq<|.block ?_
  have H1:l[i1]? = some l[i1]:=Aa (by omega)
  generalize l[i1]=e1 at H1
  refine Bt H1<|.seq ?_
  refine B8 H1 (Af8 e1) ?_
  refine Br ?_ ?_<;>intro h24
  ·refine Bt H1 ?_
   exact .ret (fin H1 false trivial)
  refine Bp<|.H H1<|.block ?_
  refine Bs ((l.take i1).length) (fun i2 (y2:Unit)=>⟨[(0,.mLeg l),(4,.ptr 0 0),(15,.mLeg l),(16,.li l.length),(17,.li i1),(27,.mLeg (l.take i1)),(28,.li ((l.take i1).length)),(29,.li i2)],[.box 166 [.li e1.j,.li e1.p,.li e1.fr,.li e1.to,.li e1.si]]⟩) (fun i2 y2=>True) () (wk H1 [0]) (trivial) fun i2 y2 hi2 hy2=>?_
  refine Bt H1<|.seq ?_
  refine Br ?_ ?_<;>intro h30
  ·have hlt:i2<i1:=(Nat.lt_min.1 h30).1
   have hlt2:i2<l.length:=(Nat.lt_min.1 h30).2
   have hxq:l[i2]? = some l[i2]:=Aa (by omega)
   generalize l[i2]=q at hxq
   refine Bp<|.seq<|.block<|.H (Hq H1 hxq hlt) ?_
   refine Bt (Fa H1 hxq) ?_
   refine Br ?_ ?_<;>intro h37
   ·refine Bt H1 ?_
    exact .ret (fin H1 false trivial)
   refine Bp<|.H1 H1 ?_
   have hN:i2<(l.take i1).length:=by rw[A5];exact Nat.lt_min.2 ⟨hlt,hlt2⟩
   exact⟨by omega,(),trivial,wk (Fa (Dx ((i2:Int)+1)) H1) [0]⟩
  refine Bu<|.H1 H1 ?_
  exact⟨by omega,(),trivial,wk (Fa (Dx ((i1:Int)+1)) H1) []⟩
 refine Bu<|.R ?_
 exact .ret (fin Dz true trivial)
theorem Qb (l:List Ew) (n:Int) (hl:l.length<=1000000) (hg:∀r∈l,r.legs.length<=1000000):Ct 242 [.mReq l,.li n] (fun d:Bool=>.lb d) (fun d=>True):=by
 refine Ex Tryz.func242 ?_
 refine Bq<|.seq ?_
 refine Bq ?_
 refine Br ?_ ?_<;>intro h15
 ·refine Bq ?_
  exact .ret (fin Dz false trivial)
 refine Bp<|.seq<|.R<|.block ?_
 refine Bs l.length (fun i1 (y1:Unit)=>⟨[(0,.mReq l),(16,.mReq l),(17,.li l.length),(18,.li i1)],[]⟩) (fun i1 y1=>True) () (wk Dz []) (trivial) fun i1 y1 hi1 hy1=>?_
 refine Bq<|.seq ?_
 refine Br ?_ ?_<;>intro h19
 ·refine Bp<|.seq<|.block ?_
  have H1:l[i1]? = some l[i1]:=Aa (by omega)
  generalize l[i1]=e1 at H1
  refine Bt H1<|.seq ?_
  refine B7 (by rfl) fun K1 hK1=>?_
  simp[go_sem,H1]
  refine .l (Lq e1.id) ?_
  simp[go_sem,H1]
  refine Pv ?_
  simp[go_sem,H1]
  refine .lo (Lq e1.veh) rfl (by simp[AV.cln,Fu]) ?_
  simp[go_sem,H1]
  refine Pv ?_
  simp[go_sem,H1]
  refine .lo (Wd e1.cls) rfl (by simp[AV.cln,Fu]) ?_
  simp[go_sem,H1]
  refine Pv ?_
  simp[go_sem,H1]
  obtain⟨Y1,cY1,qY1⟩:=Ep (Q0 e1.legs (hg e1 (Ac H1)))
  refine .lo cY1 rfl (by simp[AV.cln,Fu]) ?_
  simp[go_sem,H1]
  refine hK1 _ ?_;clear hK1
  refine Br ?_ ?_<;>intro h44
  ·refine Bt H1 ?_
   exact .ret (fin H1 false trivial)
  refine Bp<|.seq<|.H H1 ?_
  refine Br ?_ ?_<;>intro h52
  ·refine Bt H1 ?_
   exact .ret (fin H1 false trivial)
  refine Bp ?_
  by_cases hc10:0<i1
  ·have hw2:=Dx (i1 - 1:Int)
   have H3:l[(i1 - 1)]? = some l[(i1 - 1)]:=Aa (by omega)
   generalize l[(i1 - 1)]=e3 at H3
   refine C3 (Tf H1 hc10 hw2 H3) ?_
   refine Br ?_ ?_<;>intro h65
   ·refine Bt (Tf H1 hc10 hw2 H3) ?_
    exact .ret (fin (Tf H1 hc10 hw2 H3) false trivial)
   refine Bp<|.H1 (Tf H1 hc10 hw2 H3) ?_
   exact⟨by omega,(),trivial,wk (X9 (Dx ((i1:Int)+1)) H1 hc10 hw2 H3) []⟩
  have hi0:i1=0:=by omega
  have hxb:l[i1 - 1]? = some e1:=by rw[<- H1,hi0]
  have hw4:=Dx (i1 - 1:Int)
  refine C3 (Tf H1 hc10 hxb hw4) ?_
  refine Cs ?_ ?_<;>intro h65<;>simp[go_sem] at h65
  refine Bp<|.H1 (Tf H1 hc10 hxb hw4) ?_
  exact⟨by omega,(),trivial,wk (X9 (Dx ((i1:Int)+1)) H1 hc10 hxb hw4) []⟩
 refine Bu<|.R ?_
 exact .ret (fin Dz true trivial)
theorem Aca (l:List Ew) (a:Int) (j:Int) (hl:l.length<=1000000) (hg:∀r∈l,r.legs.length<=1000000):Ct 155 [.mReq l,.li a,.li j] (fun d:List Fe=>.mClaim d) (fun d=>d.length<=l.length):=by
 refine Ex Tryz.func155 ?_
 refine Bq ?_
 refine VX.sel1 0 rfl rfl (by simp) ?_
 simp[go_sem]
 refine Bq<|.seq ?_
 refine Bq<|.block ?_
 refine Cg 7 287 5 (by decide) (k':=5) (by simp[go_sem]) ?_
 simp[go_sem]
 refine Bs l.length (fun i1 (y1:(List Fe))=>⟨[(1,.li a),(5,.iptr false [.li j] 0),(7,.own 0 y1.length),(12,.mReq l),(13,.li l.length),(14,.li i1)],[.row 287 5 true false (Xk y1)]⟩) (fun i1 y1=>y1.length<=i1) ([]) (wk Dz [1]) (by simp) fun i1 y1 hi1 hy1=>?_
 refine Bq<|.seq ?_
 refine Br ?_ ?_<;>intro h15
 ·refine Bp<|.seq<|.block ?_
  have H1:l[i1]? = some l[i1]:=Aa (by omega)
  generalize l[i1]=e1 at H1
  refine Bt H1 ?_
  refine B3 (fun K kk=>by simp[go_sem,H1];refine .lo (Aev e1.legs _ [.iptr false [.li j] 0] (fun g=>g.j == j) (hg e1 (Ac H1)) (Xl _) (Z3 j)) (by simp[go_sem]) (by simp[AV.cln,Fu]) ?_;simp[go_sem,H1];exact kk)<|.seq ?_
  by_cases hc6:0<=Il (fun g:G3=>g.j == j) e1.legs
  ·have hi:=Ahg (fun g:G3=>g.j == j) e1.legs
   have H2:e1.legs[(Il (fun g:G3=>g.j == j) e1.legs).toNat]? = some e1.legs[(Il (fun g:G3=>g.j == j) e1.legs).toNat]:=Aa (by omega)
   generalize e1.legs[(Il (fun g:G3=>g.j == j) e1.legs).toNat]=e2 at H2
   refine Bt (Hq H1 hc6 H2) ?_
   refine Br ?_ ?_<;>intro h32
   ·refine Bu<|.H1 (Hq H1 hc6 H2) ?_
    refine⟨by omega,(y1),?_,wk (Tf (Dx ((i1:Int)+1)) H1 hc6 H2) [0]⟩
    omega
   refine Bp<|.H (Hq H1 hc6 H2) ?_
   refine B0 (Hq H1 hc6 H2) ?_
   refine B0 (Hq H1 hc6 H2) ?_
   refine⟨by omega,(y1++([⟨a,e1.id,e2.p,e1.cls,e2.si⟩])),?_,wk (Tf (Dx ((i1:Int)+1)) H1 hc6 H2) [0]⟩
   first | omega | (simp;omega)
  have hneg:Il (fun g:G3=>g.j == j) e1.legs<0:=by omega
  have hi:=Ahg (fun g:G3=>g.j == j) e1.legs
  refine Bt (Hq H1 hc6 hneg) ?_
  refine Cs ?_ ?_<;>intro h32<;>simp[go_sem] at h32
  refine Bu<|.H1 (Hq H1 hc6 hneg) ?_
  refine⟨by omega,(y1),?_,wk (Tf (Dx ((i1:Int)+1)) H1 hc6 hneg) [0]⟩
  omega
 refine Bu<|.R ?_
 refine B2 Dz 0 ?_
 exact .ret (fin Dz y1 (by omega))
def vwl (l:List Gp):Nat:=(l.map fun v=>3+v.cnt.length).sum
theorem Avq {l:List Gp} {i:Nat} {e:Gp} (h:l[i]? = some e):vwl (l.take (i+1))=vwl (l.take i)+3+e.cnt.length:=by
 unfold vwl
 rw[List.take_add_one,h]
 simp only[List.map_append,List.sum_append,Option.toList_some,List.map_cons,List.map_nil,List.sum_cons,List.sum_nil]
 omega
theorem Acf:∀{l:List Gp},(∀v∈l,v.col.length<=8/\v.cnt.length<=8)->vwl l<=11*l.length
 | [],_=>Ae _
 | v::l,h=>by
  have h1:=(h v (List.mem_cons_self ..)).2
  have h2:=Acf (l:=l) fun w hw=>h w (List.mem_cons_of_mem _ hw)
  show 3+v.cnt.length+vwl l<=11*(l.length+1)
  omega
section
variable (l:List Gp) (hl:l.length<=4) (hv:∀v∈l,v.col.length<=8/\v.cnt.length<=8)
include hl hv
theorem Lp:∃d:List Int,PP 135 [] [.mView l] [.row 5 1 false false (tY d)] (.own 0 d.length)/\(d.length=vwl l/\By d):=by
 refine Oh (D:=List Int) (F:=fun d=>.own 0 d.length) (S:=fun d=>[.row 5 1 false false (tY d)]) (Q:=fun d=>d.length=vwl l/\By d) Tryz.func135 rfl rfl rfl (by simp[Tryz.ntmps135]) ?_
 refine Bq ?_
 refine Bq<|.seq ?_
 refine Bq<|.block ?_
 refine Cg 3 5 1 (by decide) (k':=1) (by simp[go_sem]) ?_
 simp[go_sem]
 refine Bs l.length (fun i1 (y1:(List Int))=>⟨[(3,.own 0 y1.length),(13,.mView l),(14,.li l.length),(15,.li i1)],[.row 5 1 true false (tY y1)]⟩) (fun i1 y1=>y1.length=vwl (l.take i1)/\By y1) ([]) (wk Dz [0]) ⟨by simp[vwl],.nil⟩ fun i1 y1 hi1 hy1=>?_
 refine Bq<|.seq ?_
 refine Br ?_ ?_<;>intro h16
 ·refine Bp<|.seq<|.block ?_
  have H1:l[i1]? = some l[i1]:=Aa (by omega)
  generalize l[i1]=e1 at H1
  refine Bt H1 ?_
  have hb:=hv e1 (Ac H1)
  have hvs:=Avq H1
  have hvb:vwl (l.take i1)<=44:=by have:=Acf (l:=l.take i1) fun v h=>hv v (Aq h);rw[A5] at this;omega
  refine Bt H1 ?_
  refine Dp (fun s=>∃(f:Int),s=⟨[(3,.own 0 y1.length),(5,.ptr 1 0),(6,.li f),(13,.mView l),(14,.li l.length),(15,.li i1)],[.row 5 1 true false (tY y1),.box 128 (e1.a false)]⟩) ?_ ?_
  ·refine Bt H1 ?_
   refine Br ?_ ?_<;>intro h20
   ·refine B0 H1 ?_
    refine⟨[0,1],_,Es (by decide) ?_ ?_,by simp,(IntKind.i64.wrap (0+1)),rfl⟩
    all_goals simp[go_sem,H1]
   refine Bp ?_
   refine⟨[0,1],_,Es (by decide) ?_ ?_,by simp,0,rfl⟩
   all_goals simp[go_sem,H1]
  rintro s ⟨f,rfl⟩
  refine Dp (fun s=>∃(g:Int),s=⟨[(3,.own 0 y1.length),(5,.ptr 1 0),(6,.li g),(13,.mView l),(14,.li l.length),(15,.li i1)],[.row 5 1 true false (tY y1),.box 128 (e1.a false)]⟩) ?_ ?_
  ·refine Bt H1 ?_
   refine Br ?_ ?_<;>intro h24
   ·refine B0 H1 ?_
    refine⟨[0,1],_,Es (by decide) ?_ ?_,by simp,(IntKind.i64.wrap (f+2)),rfl⟩
    all_goals simp[go_sem,H1]
   refine Bp ?_
   refine⟨[0,1],_,Es (by decide) ?_ ?_,by simp,f,rfl⟩
   all_goals simp[go_sem,H1]
  rintro s ⟨g,rfl⟩
  refine Bt H1<|.seq ?_
  refine Bt H1<|.block ?_
  refine Bs e1.col.length (fun i8 (y8:Int×Int)=>⟨[(3,.own 0 y1.length),(5,.ptr 1 0),(6,.li g),(7,.li y8.1),(8,.li y8.2),(13,.mView l),(14,.li l.length),(15,.li i1),(28,.mI e1.col),(29,.li e1.col.length),(30,.li i8)],[.row 5 1 true false (tY y1),.box 128 (e1.a false)]⟩) (fun i8 y8=>True) (0,1) (wk H1 [0,1]) (trivial) fun i8 y8 hi8 hy8=>?_
  refine Bt H1<|.seq ?_
  refine Br ?_ ?_<;>intro h31
  ·refine Bp<|.seq<|.block ?_
   have H8:e1.col[i8]? = some e1.col[i8]:=Aa (by omega)
   generalize e1.col[i8]=e8 at H8
   refine Bt (Fa H1 H8) ?_
   refine Bt (Fa H1 H8) ?_
   refine B0 (Fa H1 H8) ?_
   refine B0 (Fa H1 H8) ?_
   exact⟨by omega,(IntKind.i64.wrap (y8.1+(IntKind.i64.wrap (e8*y8.2))),IntKind.i64.wrap (y8.2*4)),trivial,wk (Hq (Dx ((i8:Int)+1)) H1 H8) [0,1]⟩
  refine Bu<|.H H1 ?_
  refine Bt H1<|.block ?_
  refine Bs e1.cnt.length (fun i9 (y9:(List Int))=>⟨[(3,.own 0 y9.length),(13,.mView l),(14,.li l.length),(15,.li i1),(53,.mI e1.cnt),(54,.li e1.cnt.length),(55,.li i9)],[.row 5 1 true false (tY y9)]⟩) (fun i9 y9=>y9.length=vwl (l.take i1)+3+i9/\By y9) (y1++([IntKind.u8.wrap g,IntKind.u8.wrap (Int.fdiv y8.1 (2 ^ min (Int.toNat 8) 64)),IntKind.u8.wrap y8.1])) (wk H1 [0]) ⟨by simp;omega,.app hy1.2 (.cons (Rt _) (.cons (Rt _) (.u8 _)))⟩ fun i9 y9 hi9 hy9=>?_
  refine Bt H1<|.seq ?_
  refine Br ?_ ?_<;>intro h56
  ·refine Bp<|.seq<|.block ?_
   have H9:e1.cnt[i9]? = some e1.cnt[i9]:=Aa (by omega)
   generalize e1.cnt[i9]=e9 at H9
   refine Bt (Fa H1 H9) ?_
   refine B0 (Fa H1 H9) ?_
   refine B0 (Fa H1 H9) ?_
   exact⟨by omega,(y9++([IntKind.u8.wrap e9])),⟨by simp;omega,.app hy9.2 (.u8 _)⟩,wk (Hq (Dx ((i9:Int)+1)) H1 H9) [0]⟩
  refine Bu<|.H1 H1 ?_
  exact⟨by omega,(y9),⟨by omega,hy9.2⟩,wk (Fa (Dx ((i1:Int)+1)) H1) [0]⟩
 refine Bu<|.R ?_
 exact .ret ⟨y1,rW Dz [0],⟨by show y1.length=vwl l;rw[hy1.1,Bf (by omega)],hy1.2⟩⟩
def Hp:List Int:=(Lp l hl hv).choose
theorem Ur:PP 135 [] [.mView l] [.row 5 1 false false (tY (Hp l hl hv))] (.own 0 (Hp l hl hv).length):=(Lp l hl hv).choose_spec.1
theorem U1:(Hp l hl hv).length=vwl l:=(Lp l hl hv).choose_spec.2.1
theorem Acx:By (Hp l hl hv):=(Lp l hl hv).choose_spec.2.2
theorem R5:(Hp l hl hv).length<=11*l.length:=by rw[U1];exact Acf hv
end
theorem Aic (g:G3) (l:List Gp) (now:Int) (hl:l.length<=1000000) (hv:∀v∈l,v.col.length<=8):Ct 180 [g.g,.mView l,.li now] (fun d:Int=>.li d) (fun d=>True):=by
 refine Ex Tryz.func180 ?_
 refine Bq<|.seq ?_
 refine B8 Dz (Zc g now) ?_
 refine Br ?_ ?_<;>intro h23
 ·refine Bq ?_
  exact .ret (fin Dz 1 trivial)
 refine Bp ?_
 have H1:l[g.j.toNat]? = some l[g.j.toNat]:=Aa (by omega)
 generalize l[g.j.toNat]=e1 at H1
 refine Bt H1<|.seq ?_
 refine Bt H1 ?_
 refine Br ?_ ?_<;>intro h39
 ·refine Bt H1 ?_
  exact .ret (fin H1 1 trivial)
 refine Bp<|.seq ?_
 have H2:e1.col[g.p.toNat]? = some e1.col[g.p.toNat]:=Aa (by omega)
 generalize e1.col[g.p.toNat]=e2 at H2
 refine Bt (Fa H1 H2) ?_
 refine Br ?_ ?_<;>intro h55
 ·refine Bt (Fa H1 H2) ?_
  exact .ret (fin (Fa H1 H2) 3 trivial)
 refine Bp<|.H (Fa H1 H2) ?_
 exact .ret (fin (Fa H1 H2) 2 trivial)
section
variable {id0:Nat} {l:List Oper}
section
variable {P:Program} {n m:Nat} {st:St} {K:Exit->St->Prop}
theorem Xp {E:Gs} {F:Fence} (hF:FOk E F) {ops:Array Oper} {K:St->Prop} {Q:Exit->Act->World->Prop} (l2:List Oper) (hQ:∀st β a w,K st->Eu E β st a w->wpListIn F 0 P ops Q l2 a w):∀(l:List Oper) (hd:∀o∈l,∀x,o.dst=some x->x<E.n) (st:St) (β:Nat->Option Nat) (a:Act) (w:World),
 runs P (l.map fun o=>⟨o.dst,o.op,o.type,Oi ops o⟩) st K->Eu E β st a w->wpListIn F 0 P ops Q (l++l2) a w
 | [],_,st,β,a,w,h,r=>hQ st β a w h r
 | o::l,hd,st,β,a,w,h,r=>by
  obtain⟨hg,h⟩:=h
  rw[List.cons_append]
  unfold wpListIn
  simp only at h hg
  cases hc:Ff o.op with
  | true =>
   rw[hc,if_pos rfl] at h
   obtain⟨e,h1,h2⟩:=h
   exact Vs r (hd o (by simp)) hg (fun _ p _ hp=>Hf st p.1 hp) h1 hF fun β' a' w' r'=>Xp hF l2 hQ l (fun x hx=>hd x (by simp[hx])) _ β' a' w' h2 r'
  | false =>
   rw[hc,if_neg (by simp)] at h
   obtain⟨h1,h2⟩:=h
   exact Vs r (hd o (by simp)) hg (fun _ p _ hp=>Hf st p.1 hp) (fun hb=>Afy hc (h1 hb)) hF fun β' a' w' r'=>Xp hF l2 hQ l (fun x hx=>hd x (by simp[hx])) _ β' a' w' h2 r'
theorem VW.region_fz (j id:Nat) (hd:Ft n l=true) (h:runs P ((Gh l).take j) st (fun s=>F8 (s.o id)=true/\runs P ((Gh l).drop j) (s.freeze id) (K .normal))):VW P n m (.region id0 l.toArray false) st K:=fun E F hE hF β a w r=>by
 have hd':∀o∈l,∀x,o.dst=some x->x<E.n:=fun o ho x hx=>by rw[hE.1];exact Pq hd o ho x hx
 refine wpIn_region_lit ?_
 have key:=Xp (P:=P) (Q:=Ah1 E K) hF (ops:=l.toArray) (l.drop j) (fun s β a w hs r=>?_) (l.take j) (fun o ho=>hd' o (Aq ho)) st β a w (by
  have:=h
  simp only[Gh,<- List.map_take] at this
  exact this) r
 ·rwa[List.take_append_drop] at key
 obtain⟨h1,h2⟩:=hs
 have r2:Eu E β (s.freeze id) a w:=by
  unfold St.freeze
  cases hq:s.o id with
  | row ty k fr fz es=>exact (r.freeze hq).1.melt
  | _=>rw[hq] at h1;cases h1
 refine Aa9 hF (fun s β a w h1 h2=>⟨E,s,β,Hs.refl E,h1,h2⟩) (l.drop j) (fun o ho=>hd' o (Ay ho)) _ β a w ?_ r2
 rw[List.map_drop]
 exact h2
theorem VX.region_fz (j id:Nat) (hd:Ft n l=true) (h:∀K1:St->Prop,(∀s,K .normal s->K1 s)->runs P ((Gh l).take j) st (fun s=>F8 (s.o id)=true/\runs P ((Gh l).drop j) (s.freeze id) K1)):VX P n m (.region id0 l.toArray false) st K:=by
 obtain⟨s,h1,h2,h3⟩:=Q6 _ _ (h _ fun _ h=>h)
 obtain⟨s2,h4,h5⟩:=Q6 _ _ h3
 refine⟨.normal,s2,.region_fz j id hd (Lt _ _ ?_ h1),h5⟩
 rintro s' rfl
 exact⟨h2,Lt _ _ (by rintro s' rfl;exact⟨rfl,rfl⟩) h4⟩
theorem VX.region_fz_seq {y:Code} (j id:Nat) (hd:Ft n l=true) (h:∀K1:St->Prop,(∀s,VX P n m y s K->K1 s)->runs P ((Gh l).take j) st (fun s=>F8 (s.o id)=true/\runs P ((Gh l).drop j) (s.freeze id) K1)):VX P n m (.seq (.region id0 l.toArray false) y) st K :=
 .seq (.region_fz j id hd fun K1 hK1=>h K1 hK1)
abbrev Dk:=@VX.region_fz_seq
end
section
variable {P:Program} {n m:Nat} {st:St} {K:Exit->St->Prop} {c:Code}
theorem VX.rowIs (id:Nat) (es:List (List T)) (h:F8 (st.o id)=true) (he:Lu (st.o id)=es) (hv:VX P n m c (st.set id (.row (Abf (st.o id)) (T4 (st.o id)) (At2 (st.o id)) (At1 (st.o id)) es)) K):VX P n m c st K:=by
 obtain⟨e,s,h1,h2⟩:=hv
 refine⟨e,s,fun E F hE hF β a w r=>h1 E F hE hF β a w ?_,h2⟩
 subst he
 cases hq:st.o id with
 | row ty k fr fz es=>exact (r.flag hq (fun e=>.inl e) fun e=>e).1
 | _=>rw[hq] at h;exact absurd h (by simp[F8])
end
end
theorem Aib (n:Int) (l:List Gp) (hl:l.length<=4) (hv:∀v∈l,v.col.length<=8/\v.cnt.length<=8):Ct 101 [.li n,.mView l] (fun d:Ea=>d.g) (fun d=>d.kind=21/\d.args=[n]/\d.tok=[]/\d.data=Hp l hl hv):=by
 refine Ex Tryz.func101 ?_
 have hb:=R5 l hl hv
 refine Bq ?_
 refine B8 Dz (Ur l hl hv) ?_
 refine Do 1 ?_
 simp[go_sem]
 refine Do 2 ?_
 simp[go_sem]
 refine Bz (Fj ?_);simp[go_sem]
 exact⟨⟨21,[],[n],(Hp l hl hv)⟩,by rfl,(by simp)⟩
theorem Ab4 (n:Int) (l:List Gp) (c:List Int) (hl:l.length<=4) (hv:∀v∈l,v.col.length<=8/\v.cnt.length<=8) (hc:c.length<=1000):Ct 157 [.li n,.mView l,.mY c] (fun d:Ea=>d.g) (fun d=>d.kind=17/\d.args=[n]/\d.tok=[]/\d.data=Hp l hl hv++c):=by
 refine Ex Tryz.func157 ?_
 have hb:=R5 l hl hv
 refine Bq ?_
 refine B8 Dz (Ur l hl hv) ?_
 refine Do 1 ?_
 simp[go_sem]
 refine Do 2 ?_
 simp[go_sem]
 refine Bz (Fj ?_);simp[go_sem]
 exact⟨⟨17,[],[n],(Hp l hl hv)++c⟩,by first | rfl | simp[go_sem],(by simp)⟩
theorem Af1 (l:List Ew) (n:Int) (w:List Gp) (now:Int) (hl:l.length<=1000000) (hw:w.length<=1000000) (hv:∀v∈w,v.col.length<=8) (hn:n<=3):Ct 156 [.mReq l,.li n,.mView w,.li now] (fun d:List Int=>.mY d) (fun d=>d.length=(n*3).toNat/\By d):=by
 refine Ex Tryz.func156 ?_
 refine Bq<|.seq ?_
 refine Bq ?_
 refine Br ?_ ?_<;>intro h18
 ·refine Bq ?_
  exact .ret (fin Dz ([]) ⟨by simp;omega,.nil⟩)
 refine Bp ?_
 have hw1:=Dx (n*3:Int)
 refine Bt hw1<|.seq ?_
 refine Bt hw1<|.block ?_
 refine Bs ((n*3).toNat) (fun i1 (y1:(List Int))=>⟨[(0,.mReq l),(2,.mView w),(3,.li now),(9,.own 0 y1.length),(23,.li ((n*3).toNat)),(24,.li i1)],[.row 5 1 false false (tY y1)]⟩) (fun i1 y1=>y1.length=(n*3).toNat/\By y1) (List.replicate ((n*3).toNat) 0) (wk hw1 [0]) ⟨by simp,.rep _⟩ fun i1 y1 hi1 hy1=>?_
 refine Bt hw1<|.seq ?_
 refine Br ?_ ?_<;>intro h25
 ·refine Bp<|.seq<|.block<|.H hw1 ?_
  have hq:=Dx ((i1:Int) / 3)
  have hr:Int.tmod (i1:Int) 3=(i1:Int) % 3:=Int.tmod_eq_emod_of_nonneg (by omega)
  refine Bt (Fa hw1 hq) ?_
  obtain⟨e2,H2⟩:=gx y1 i1
  refine Bt (Fa hw1 H2) ?_
  obtain⟨R,hRe⟩:∃R,R=y1.set i1 0:=⟨_,rfl⟩
  have hR:R.length=(n*3).toNat:=by rw[hRe,List.length_set];exact hy1.1
  have hRy:By R:=by rw[hRe];exact hy1.2.set _ (by decide)
  refine VX.rowIs 0 (tY R) rfl (by simp[go_sem,hRe]) ?_
  simp[go_sem,-Prod.exists]
  refine Bt (Tf hw1 H2 hR hr) ?_
  by_cases hc10:((i1:Int) / 3)<l.length
  ·obtain⟨e3,H3⟩:=gx l (((i1:Int) / 3).toNat)
   refine Bt (X9 hw1 H2 hR hc10 H3) ?_
   refine Br ?_ ?_<;>intro h47
   ·obtain⟨e4,H4⟩:=gx e3.legs (((i1:Int) % 3).toNat)
    obtain⟨e5,H5⟩:=gx R i1
    obtain⟨Y1,cY1,qY1⟩:=Ep (Aic e4 w now (by assumption) (by assumption))
    refine Ck (fun K kk=>by simp[go_sem,hw1,H2,hR,hc10,H3,H4,H5];(repeat refine aK ?_);refine .l cY1 ?_;simp[go_sem,hw1,H2,hR,hc10,H3,H4,H5];(repeat first | exact kk | refine aK ?_)) ?_
    refine Ck (fun K kk=>by simp[go_sem,hw1,H2,hR,hc10,H3,H4,H5];exact kk) ?_
    refine⟨by omega,((R).set i1 (IntKind.u8.wrap Y1)),?_,wQ [0] ?_ ?_⟩
    ·exact⟨by simp;omega,hRy.set _ (Rt _)⟩
    all_goals simp[go_sem,Dx ((i1:Int)+1),hw1,H2,hR,hc10,H3,H4,H5,hy1.1]
   refine Bp<|.H1 (X9 hw1 H2 hR hc10 H3) ?_
   refine⟨by omega,(R),?_,wQ [0] ?_ ?_⟩
   ·exact⟨hR,hRy⟩
   all_goals simp[go_sem,Dx ((i1:Int)+1),hw1,H2,hR,hc10,H3,hy1.1]
  have hn:l[((i1:Int) / 3).toNat]? = none:=Ar (by omega)
  refine Bt (X9 hw1 H2 hR hc10 hn) ?_
  refine Cs ?_ ?_<;>intro h47<;>simp[go_sem] at h47
  refine Bp<|.H1 (X9 hw1 H2 hR hc10 hn) ?_
  refine⟨by omega,(R),?_,wQ [0] ?_ ?_⟩
  ·exact⟨hR,hRy⟩
  all_goals simp[go_sem,Dx ((i1:Int)+1),hw1,H2,hR,hc10,hn,hy1.1]
 refine Bu<|.H hw1 ?_
 refine B2 Dz 0 ?_
 exact .ret (fin hw1 y1 hy1)
section
def On (sel:List Nat) (p:Prop):Prop:=p
section
variable {P:Program} {d:Option Tmp} {os:List VO} {st:St} {K:St->Prop} {f:FuncId} {args args' G4:List AV} {bor:Bool} {σa σr:List Ob} {res:AV}
theorem Va.O {sel:List Nat} (hp:On sel (E7 P f σa args' σr res)) (h:runs P os (st.after d (Pp sel st.ob.length σr res).1 (Pp sel st.ob.length σr res).2) K) (hσ:(sel.map fun id=>((st.o id).passR st.o fun id=>Nq id sel 0).low)=σa:=by simp[go_sem]) (ha:Kq (G9 st.o (fun id=>Nq id sel 0) G4)=args':=by simp[go_sem]) (hc:Ad8 G4 st sel σr res:=by constructor<;>simp[go_sem]):Va P f args bor G4 d os st K:=.ob sel hp hσ ha hc h
end
variable {f:FuncId} {args:List AV} {σa σr:List Ob}
section
variable {P:Program} {n m:Nat} {st s':St} {K:Exit->St->Prop} {id:Nat} {l:List Oper} {y:Code}
theorem VX.O {p:Prop} {res:AV} (e:p) (sel:List Nat) (c:E7 P f σa args σr res) (h:VX P n m y s' K) (hr:∀K1:St->Prop,p->On sel (E7 P f σa args σr res)->K1 s'->runs P (Gh l) st K1:=by intro K e c k;simp[go_sem,e];(repeat refine aK ?_);refine .O c ?_;simp[go_sem,e];(repeat first | exact k | refine aK ?_)) (hd:Ft n l=true:=by rfl):VX P n m (.seq (.region id l.toArray false) y) st K:=.region_seq hd fun K1 h1=>hr K1 e c (h1 _ h)
abbrev Dc:=@VX.O
theorem VX.O1 {p:Prop} {res:AV} (e:p) (sel:List Nat) (c:E7 P f σa args σr res) (h:K .normal s') (hr:∀K1:St->Prop,p->On sel (E7 P f σa args σr res)->K1 s'->runs P (Gh l) st K1:=by intro K e c k;simp[go_sem,e];(repeat refine aK ?_);refine .O c ?_;simp[go_sem,e];(repeat first | exact k | refine aK ?_)) (hd:Ft n l=true:=by rfl):VX P n m (.region id l.toArray false) st K:=.region1 hd fun K1 h1=>hr K1 e c (h1 _ h)
abbrev C8:=@VX.O1
end
theorem cB {es:List (List T)} (h:es.length<=1000000:=by first | (simp;done) | (simp;omega) | (simp;assumption)) (hp:es.all (fun e=>e.all T.plain)=true:=by first | (simp[T.plain];done) | (rw[Am];intro e he;repeat (first | replace he:=Aq he | replace he:=Ay he);obtain⟨x,_,rfl⟩:=A4.1 he;rfl)):PP 63 [] [.imm false 1 es] [] (.imm true 1 es):=E7.froz (Gk es h hp)
end
section
theorem Aye (bs:ByteArray):∀(n i:Nat) (r:List UInt8),bs.size - i=n->ByteArray.toList.loop bs i r=r.reverse++bs.data.toList.drop i
 | 0,i,r,h=>by
  rw[ByteArray.toList.loop,if_neg (by omega),List.drop_eq_nil_of_le (by rw[Array.length_toList];show bs.size<=i;omega),List.append_nil]
 | n+1,i,r,h=>by
  have hi:i<bs.data.size:=by show i<bs.size;omega
  rw[ByteArray.toList.loop,if_pos (by show i<bs.size;omega),Aye bs n (i+1) _ (by omega),List.drop_eq_getElem_cons (i:=i) (by rw[Array.length_toList];exact hi),List.reverse_cons,List.append_assoc,List.singleton_append]
  congr 2
  rw[Array.getElem_toList]
  exact getElem!_pos bs.data i hi
theorem A2n (bs:ByteArray):bs.toList=bs.data.toList:=by
 rw[ByteArray.toList,Aye bs _ 0 [] rfl];simp
theorem Azn (l:List Int):∀acc:ByteArray,(l.foldl (fun r n=>r.push (UInt8.ofNat n.toNat)) acc).data.toList=acc.data.toList++l.map fun n=>UInt8.ofNat n.toNat:=by
 induction l with
 | nil=>intro acc;simp
 | cons x l ih=>intro acc;rw[List.foldl_cons,ih];simp
def sB (a:List Int):List UInt8:=a.map fun n=>UInt8.ofNat n.toNat
theorem Aa7 (a:List Int):(Aa8 (tY a)).toList=sB a:=by
 have e:(tY a).map Amj=a:=by
  induction a with
  | nil=>rfl
  | cons x l ih=>exact congrArg (x::·) ih
 rw[A2n,Aa8,e,Azn];simp[sB]
theorem eqB {a b:List Int} (h:((Aa8 (tY a)).toList == (Aa8 (tY b)).toList)=true):sB a=sB b:=by
 rw[beq_iff_eq,Aa7,Aa7] at h
 exact h
theorem Aii (a:List Int) (b:List Int) (h1:a.length<=1000000) (h2:b.length<=1000000):Ct 229 [.mY a,.mY b] (fun d:Bool=>.lb d) (fun d=>d=true->sB a=sB b):=by
 refine Ex Tryz.func229 ?_
 refine Bq ?_
 refine B3 (fun K kk=>by simp[go_sem,Ac6];exact kk) ?_
 refine Bz (Fj ?_);simp[go_sem]
 refine⟨_,by rfl,fun he=>?_⟩
 exact eqB he
variable {l:List Fq}
theorem Aod {i:Nat} {x:Fq} (h:∀t∈l,t.sec.length<=1000000) (hx:x.sec.length<=1000000):∀t∈l.set i x,t.sec.length<=1000000:=fun t ht=>by
 rcases Bi ht with h1 | h1
 ·exact h t h1
 subst h1;exact hx
theorem Avn {n:Nat} {a b c d:Int} {u:Bool}:∀t∈List.replicate n (⟨u,[],a,b,c,d⟩:Fq),t.sec.length<=1000000:=fun t ht=>by
 rw[(List.mem_replicate.1 ht).2]
 simp
section
variable (a:G2) (h:a.sec.length<=1000000)
include h
theorem Ti:∃d:List Fq,PP 111 [] [a.g] [.row 73 6 false false (P1 d)] (.own 0 d.length)/\(d.length=8/\∀t∈d,t.sec.length<=1000000):=by
 refine Oh (D:=List Fq) (F:=fun d=>.own 0 d.length) (S:=fun d=>[.row 73 6 false false (P1 d)]) (Q:=fun d=>d.length=8/\∀t∈d,t.sec.length<=1000000) Tryz.func111 rfl rfl rfl (by simp[Tryz.ntmps111]) ?_
 refine Bq ?_
 refine Bt Dz<|.seq ?_
 refine Bq<|.block ?_
 refine Bs 8 (fun i1 (y1:(List Fq))=>⟨[(1,.ptr 0 0),(3,.own 1 y1.length),(7,.li 8),(8,.li i1)],[.box 60 (a.a false),.row 73 6 false false (P1 y1)]⟩) (fun i1 y1=>y1.length=8/\∀t∈y1,t.sec.length<=1000000) (List.replicate 8 ⟨false,[],0,0,0,0⟩) (wk Dz [0,1]) (⟨rfl,Avn⟩) fun i1 y1 hi1 hy1=>?_
 refine Bq<|.seq ?_
 refine Br ?_ ?_<;>intro h9
 ·refine Bp<|.seq<|.block<|.R ?_
  obtain⟨e1,H1⟩:=gx y1 i1
  refine Dj H1 (Vn) ?_
  refine B0 H1 ?_
  exact⟨by omega,((y1).set i1 Vr),⟨by simp;omega,Aod hy1.2 (by simp[Vr])⟩,wk (Fa (Dx ((i1:Int)+1)) H1) [0,1]⟩
 refine Bu ?_
 obtain⟨e2,H2⟩:=gx y1 0
 refine Cy (fun K kk=>by simp[go_sem,H2];refine .lo cB rfl (by simp[AV.cln,Fu]) ?_;simp[go_sem,H2];(repeat first | exact kk | refine aK ?_)) ?_
 refine Bt H2 ?_
 exact .ret ⟨(y1).set 0 ⟨true,a.sec,(-1),a.ri,a.cls,0⟩,rW H2 [1],⟨by simp;omega,Aod hy1.2 h⟩⟩
def Kc:List Fq:=(Ti a h).choose
theorem Ain:PP 111 [] [a.g] [.row 73 6 false false (P1 (Kc a h))] (.own 0 (Kc a h).length):=(Ti a h).choose_spec.1
theorem Ano:PP 111 [] [a.g] [] (.mTok (Kc a h)):=(Ain a h).frozA (by simp[go_sem])
theorem Aoq:(Kc a h).length=8/\∀t∈(Kc a h),t.sec.length<=1000000:=(Ti a h).choose_spec.2
end
theorem Mt (l:List Fq) (hl:l.length<=1000000) (ht:∀t∈l,t.sec.length<=1000000):PP 183 [] [.mTok l] [.row 73 6 false false (P1 l)] (.own 0 l.length):=by
 refine Em Tryz.func183 ?_
 refine Bw ?_
 refine Ce (fun K kk=>by simp[go_sem];refine .lo (T1 _ (by simpa using hl)) rfl (by simp) ?_;simp[go_sem];exact kk)<|.seq ?_
 refine Bw<|.block ?_
 refine Cc l.length (fun i1=>⟨[(3,.own 0 l.length),(8,.li l.length),(9,.li i1)],[.row 73 6 false false (P1 l)]⟩) (wk Dz [0]) fun i1 hi1=>?_
 refine Bw<|.seq ?_
 refine B6 ?_ ?_<;>intro h10
 ·have hx:l[i1]? = some l[i1]:=Aa h10
  generalize l[i1]=t at hx
  have hs:=Gy (f:=Fq.t) hx
  simp only[Fq.t] at hs
  refine Bv<|.seq<|.block<|.R ?_
  refine VW.S1 (fun K kk=>by simp[go_sem,hx,hs];(repeat refine aK ?_);refine .lo (E7.froz (Gk _ (by simpa using ht t (Ac hx)) (by simp[T.plain]))) rfl (by simp) ?_;simp[go_sem,hx,hs];(repeat first | exact kk | refine aK ?_)) ?_
  refine Cm ?_
  refine⟨by omega,wQ [0] ?_ ?_⟩
  ·simp[go_sem,Dx ((i1:Int)+1)]
  simp[go_sem]
 refine B4<|.R ?_
 exact .ret (rW Dz [0])
theorem Pb (x:Jg) (hb:Uc x):PP 165 [] [x.g] [] (x.g):=by
 refine Em Tryz.func165 ?_
 have hb1:=hb.toks
 refine Bw ?_
 refine Di Dz (N4 x.ag hb.sec hb.lims) ?_
 refine Ce (fun K kk=>by simp[go_sem];refine .lo (T1 _ (by simpa using hb.toks)) rfl (by simp) ?_;simp[go_sem];exact kk)<|.seq ?_
 refine Bw<|.block ?_
 refine Cc x.toks.length (fun i1=>⟨[(1,.ptr 0 0),(2,.ptr 1 0),(14,.li x.toks.length),(15,.li i1)],[.box 66 [.li x.num,.mY x.ag.sec,.li x.ag.ri,.li x.ag.cls,.mI x.ag.lims,.li x.ag.rq,.li x.ag.se,.li x.ag.ra,.li x.ag.bu,.own 2 x.toks.length,.mVeh x.vehs,.li x.bk.lv,.li x.bk.ra,.li x.bk.bu],.box 66 [.li 0,.nil 1,.li 0,.li 0,.nil 1,.li 0,.li 0,.li 0,.li 0,.nil 6,.nil 2,.li 0,.li 0,.li 0],.row 73 6 false false (P1 x.toks)]⟩) (wk Dz [0,1,2]) fun i1 hi1=>?_
 refine Bw<|.seq ?_
 refine B6 ?_ ?_<;>intro h16
 ·have hx:x.toks[i1]? = some x.toks[i1]:=Aa h16
  generalize x.toks[i1]=t at hx
  have hs:=Gy (f:=Fq.t) hx
  simp only[Fq.t] at hs
  refine Bv<|.seq<|.block<|.R ?_
  refine VW.E1 (fun K kk=>by simp[go_sem,hx,hs];(repeat refine aK ?_);refine .lo (E7.froz (Gk _ (by simpa using hb.tsec t (Ac hx)) (by simp[T.plain]))) rfl (by simp) ?_;simp[go_sem,hx,hs];(repeat first | exact kk | refine aK ?_)) ?_
  refine Cm ?_
  refine⟨by omega,wQ [0,1,2] ?_ ?_⟩
  ·simp[go_sem,Dx ((i1:Int)+1)]
  simp[go_sem]
 refine B4 ?_
 refine Ch 2 (by simp[go_sem,F8]) ?_
 simp[go_sem]
 refine Ce (fun K kk=>by simp[go_sem];refine .lo (E7.froz (We _ (by simpa using hb.vehs) (by simp[T.plain,G6.t]))) rfl (by simp) ?_;simp[go_sem];exact kk) ?_
 refine Bw ?_
 exact .ret (rL h16)
theorem A1r {s:Int} {t:Fq} (h:Z9 l s 0=true) (hs:s≠0) (ht:l[s.toNat]? = some t):0<=t.par/\t.par<l.length:=by
 unfold Z9 Wi at h
 rw[Rz] at h
 split at h
 ·rw[List.contains_cons] at h
  have e:(0 == s)=false:=by simpa using fun e=>hs e.symm
  rw[e,Bool.false_or,Rz] at h
  split at h
  ·rename_i hu
   have hp:An5 l s=t.par:=by simp[An5,ht]
   rw[hp] at hu
   obtain⟨h0,t',h1,_⟩:=Ry hu
   have:=(Ab.1 h1).1
   omega
  simp at h
 simp at h
section
variable (l:List Fq) (hl:l.length<=1000000) (ht:∀t∈l,t.sec.length<=1000000)
include hl ht
theorem Md:Ct 253 [.mTok l] (fun d:Bool=>.lb d) (fun d=>d=true->l.length=8):=by
 refine Ex Tryz.func253 ?_
 refine Bq<|.seq ?_
 refine Bq ?_
 refine Br ?_ ?_<;>intro h9
 ·refine Bq ?_
  exact .ret (fin Dz false (by first | (intro _;omega) | (simp;done)))
 refine Bp ?_
 obtain⟨e1,H1⟩:=gx l 0
 refine Bt H1<|.seq ?_
 refine B3 (fun K kk=>by simp[go_sem,H1];refine Pv ?_;simp[go_sem,H1];refine .l (Zd e1) ?_;simp[go_sem,H1];exact kk) ?_
 refine Br ?_ ?_<;>intro h30
 ·refine Bt H1 ?_
  exact .ret (fin H1 false (by (intro _;omega)))
 refine Bp<|.seq<|.H H1<|.block ?_
 refine Cj (fun (y1:Int)=>⟨[(0,.mTok l),(4,.li y1)],[]⟩) (fun y1=>1<=y1/\y1<=l.length) (fun y1=>(l.length - y1).toNat) (1) (wk H1 []) (by omega) fun y1 hy1=>?_
 refine Ca<|.H H1 ?_
 refine Br ?_ ?_<;>intro h34
 ·refine Bp<|.seq<|.block ?_
  obtain⟨e2,H2⟩:=gx l y1.toNat
  refine Bt (Fa H1 H2)<|.seq ?_
  refine Bt (Fa H1 H2) ?_
  refine Br ?_ ?_<;>intro h43
  ·refine Ca<|.L (Fa H1 H2) (Af9 e2) ?_
   refine Br ?_ ?_<;>intro h46
   ·refine Bt (Fa H1 H2) ?_
    exact .ret (fin (Fa H1 H2) false (by (intro _;omega)))
   refine Bp<|.exit ?_
   have hw3:=Dx (y1+1:Int)
   refine B0 (Hq H1 H2 hw3) ?_
   refine⟨((y1+1)),?_,?_,wQ [] ?_ ?_⟩
   ·omega
   ·omega
   all_goals simp[go_sem,H1,H2,hw3]
  refine Bp<|.seq ?_
  refine B3 (fun K kk=>by simp[go_sem,H1,H2];refine .l (Zd e2) ?_;simp[go_sem,H1,H2];refine Pv ?_;simp[go_sem,H1,H2];refine .l (Un l y1 0) ?_;simp[go_sem,H1,H2];exact kk) ?_
  refine Br ?_ ?_<;>intro h55
  ·refine Bt (Fa H1 H2) ?_
   exact .ret (fin (Fa H1 H2) false (by (intro _;omega)))
  have hpar:=A1r (t:=e2) (by exact h55.2) (by omega) H2
  refine Bp ?_
  obtain⟨e4,H4⟩:=gx l e2.par.toNat
  refine Bt (Hq H1 H2 H4) ?_
  refine B3 (fun K kk=>by simp[go_sem,H1,H2,H4];refine .l (Wb e2.ri e4.ri) ?_;simp[go_sem,H1,H2,H4];refine Pv ?_;simp[go_sem,H1,H2,H4];refine .l (Ts e2.unt e4.unt) ?_;simp[go_sem,H1,H2,H4];exact kk) ?_
  refine Br ?_ ?_<;>intro h80
  ·refine Bt (Hq H1 H2 H4) ?_
   exact .ret (fin (Hq H1 H2 H4) false (by (intro _;omega)))
  refine Bp ?_
  have hw5:=Dx (y1+1:Int)
  refine B0 (Tf H1 H2 H4 hw5) ?_
  refine⟨((y1+1)),?_,?_,wQ [] ?_ ?_⟩
  ·omega
  ·omega
  all_goals simp[go_sem,H1,H2,H4,hw5]
 refine Bu<|.H H1 ?_
 exact .ret (fin H1 true (by (intro _;omega)))
def Zl:Bool:=(Ep (Md l hl ht)).choose
theorem Aim:PP 253 [] [.mTok l] [] (.lb (Zl l hl ht)):=(Ep (Md l hl ht)).choose_spec.1
theorem Ai0:(Zl l hl ht)=true->l.length=8:=(Ep (Md l hl ht)).choose_spec.2
end
end
theorem Afm {l:List Fq} {i:Nat} {x:Fq} (h:∀t∈l,t.sec.length<=1000000) (hx:x.sec.length<=1000000):∀t∈l.set i x,t.sec.length<=1000000:=fun t ht=>by
 rcases Bi ht with h1 | h1
 ·exact h t h1
 subst h1;exact hx
theorem Ws (l:List Fq) (p:Int) (ri:Int) (c:Int) (life:Int) (sec:List Int) (now:Int) (hl:l.length<=1000000) (ht:∀t∈l,t.sec.length<=1000000) (hs:sec.length<=1000000):Ct 256 [.mTok l,.li p,.li ri,.li c,.li life,.mY sec,.li now] (fun d:List Fq×Int×Int=>.tup [.mTok d.1,.li d.2.1,.li d.2.2]) (fun d=>d.1.length<=l.length/\(∀t∈d.1,t.sec.length<=1000000)/\(0<=d.2.2/\d.2.2<=99)/\(d.2.2=0->0<=d.2.1/\d.2.1<=1000000/\sec.length=8)):=by
 refine Ex Tryz.func256 ?_
 have hi:=Ahg (fun t:Fq=>!t.used) l
 refine Bq<|.seq ?_
 obtain⟨Y1,cY1,qY1⟩:=Ep (Md l (by assumption) (by assumption))
 refine B8 Dz cY1 ?_
 refine Br ?_ ?_<;>intro h36
 ·refine Bq ?_
  exact .ret (fin Dz ([],0,1) ⟨Ae _,fun t h=>absurd h A8,by decide,fun h=>absurd h (by decide)⟩)
 refine Bp<|.seq<|.L Dz (Q3 l p) ?_
 refine Br ?_ ?_<;>intro h40
 ·refine Bq ?_
  exact .ret (fin Dz ([],0,12) ⟨Ae _,fun t h=>absurd h A8,by decide,fun h=>absurd h (by decide)⟩)
 obtain⟨hp0,tp,hp1,_⟩:=Ry (by simpa using h40)
 have hp2:=(Ab.1 hp1).1
 refine Bp ?_
 obtain⟨e1,H1⟩:=gx l p.toNat
 refine Bt H1<|.seq ?_
 refine B8 H1 (Wb ri e1.ri) ?_
 refine Br ?_ ?_<;>intro h67
 ·refine Bt H1 ?_
  exact .ret (fin H1 ([],0,8) ⟨Ae _,fun t h=>absurd h A8,by decide,fun h=>absurd h (by decide)⟩)
 refine Bp<|.H H1<|.seq ?_
 refine Bt H1 ?_
 refine Br ?_ ?_<;>intro h69
 ·refine B0 H1<|.seq ?_
  refine B8 H1 (Ts (IntKind.i64.wrap (now+life)) e1.unt) ?_
  refine Br ?_ ?_<;>intro h76
  ·refine Bt H1 ?_
   exact .ret (fin H1 ([],0,8) ⟨Ae _,fun t h=>absurd h A8,by decide,fun h=>absurd h (by decide)⟩)
  refine Bp<|.S (fun K kk=>by simp[go_sem,H1];refine .lo (Sw l _ [] (fun t=>!t.used) hl Uy Uo) (by simp[go_sem]) (by simp[AV.cln,Fu]) ?_;simp[go_sem,H1];exact kk)<|.seq ?_
  refine Bt H1 ?_
  refine Br ?_ ?_<;>intro h80
  ·refine Bt H1 ?_
   exact .ret (fin H1 ([],0,10) ⟨Ae _,fun t h=>absurd h A8,by decide,fun h=>absurd h (by decide)⟩)
  refine Bp<|.L H1 (Mt l (by assumption) (by assumption)) ?_
  obtain⟨e2,H2⟩:=gx l ((Il (fun t:Fq=>!t.used) l).toNat)
  refine B3 (fun K kk=>by simp[go_sem,H1,H2];refine .lo (E7.froz (Gk _ (by (simp;omega)) (by simp[T.plain]))) rfl (by simp[AV.cln,Fu]) ?_;simp[go_sem,H1,H2];(repeat first | exact kk | refine aK ?_)) ?_
  refine Bt (Fa H1 H2) ?_
  refine B2 Dz 1 ?_
  exact .ret (fin (Fa H1 H2) ((l).set ((Il (fun t:Fq=>!t.used) l).toNat) ⟨true,sec,p,ri,c,IntKind.i64.wrap (now+life)⟩,(Il (fun t:Fq=>!t.used) l),0) ⟨by simp,Afm ht (by exact hs),by simp,fun _=>⟨by dsimp only;omega,by dsimp only;omega,by omega⟩⟩)
 refine Bp<|.seq<|.L H1 (Ts 0 e1.unt) ?_
 refine Br ?_ ?_<;>intro h76
 ·refine Bt H1 ?_
  exact .ret (fin H1 ([],0,8) ⟨Ae _,fun t h=>absurd h A8,by decide,fun h=>absurd h (by decide)⟩)
 refine Bp<|.S (fun K kk=>by simp[go_sem,H1];refine .lo (Sw l _ [] (fun t=>!t.used) hl Uy Uo) (by simp[go_sem]) (by simp[AV.cln,Fu]) ?_;simp[go_sem,H1];exact kk)<|.seq ?_
 refine Bt H1 ?_
 refine Br ?_ ?_<;>intro h80
 ·refine Bt H1 ?_
  exact .ret (fin H1 ([],0,10) ⟨Ae _,fun t h=>absurd h A8,by decide,fun h=>absurd h (by decide)⟩)
 refine Bp<|.L H1 (Mt l (by assumption) (by assumption)) ?_
 obtain⟨e3,H3⟩:=gx l ((Il (fun t:Fq=>!t.used) l).toNat)
 refine B3 (fun K kk=>by simp[go_sem,H1,H3];refine .lo (E7.froz (Gk _ (by (simp;omega)) (by simp[T.plain]))) rfl (by simp[AV.cln,Fu]) ?_;simp[go_sem,H1,H3];(repeat first | exact kk | refine aK ?_)) ?_
 refine Bt (Fa H1 H3) ?_
 refine B2 Dz 1 ?_
 exact .ret (fin (Fa H1 H3) ((l).set ((Il (fun t:Fq=>!t.used) l).toNat) ⟨true,sec,p,ri,c,0⟩,(Il (fun t:Fq=>!t.used) l),0) ⟨by simp,Afm ht (by exact hs),by simp,fun _=>⟨by dsimp only;omega,by dsimp only;omega,by omega⟩⟩)
theorem Af0 (l:List Fq) (slot:Int) (hl:l.length<=1000000) (ht:∀t∈l,t.sec.length<=1000000):Ct 234 [.mTok l,.li slot] (fun d:List Fq×Int=>.tup [.mTok d.1,.li d.2]) (fun d=>d.1.length<=l.length/\(∀t∈d.1,t.sec.length<=1000000)/\0<=d.2/\d.2<=99):=by
 refine Ex Tryz.func234 ?_
 refine Bq<|.seq ?_
 refine B8 Dz (Aim l (by assumption) (by assumption)) ?_
 refine Br ?_ ?_<;>intro h10
 ·refine Bq ?_
  refine Bz (Fj ?_);simp[go_sem]
  exact⟨([],1),by rfl,⟨Ae _,fun t h=>absurd h A8,by decide⟩⟩
 have h8:=Ai0 l hl ht (by simpa using h10)
 refine Bp<|.seq<|.R ?_
 refine Br ?_ ?_<;>intro h16
 ·refine Bq ?_
  refine Bz (Fj ?_);simp[go_sem]
  exact⟨([],8),by rfl,⟨Ae _,fun t h=>absurd h A8,by decide⟩⟩
 refine Bp<|.seq ?_
 obtain⟨e1,H1⟩:=gx l slot.toNat
 refine Bt H1 ?_
 refine Br ?_ ?_<;>intro h22
 ·refine Bt H1 ?_
  refine Bz (Fj ?_);simp[go_sem,H1]
  exact⟨([],12),by rfl,⟨Ae _,fun t h=>absurd h A8,by decide⟩⟩
 refine Bp<|.L H1 (Mt l (by assumption) (by assumption))<|.seq ?_
 refine Bt H1<|.block ?_
 refine Bs l.length (fun i1 (y1:(List Fq))=>⟨[(0,.mTok l),(1,.li slot),(6,.own 0 y1.length),(26,.li l.length),(27,.li i1)],[.row 73 6 false false (P1 y1)]⟩) (fun i1 y1=>y1.length=l.length/\∀t∈y1,t.sec.length<=1000000) (l) (wQ [0] ?_ ?_) (⟨rfl,ht⟩) fun i1 y1 hi1 hy1=>?_
 ·simp[go_sem,H1]
 ·simp[go_sem,H1]
 refine Bt H1<|.seq ?_
 refine Br ?_ ?_<;>intro h28
 ·refine Bp<|.seq<|.block<|.H H1 ?_
  refine B8 H1 (Un l i1 slot) ?_
  refine Br ?_ ?_<;>intro h33
  ·obtain⟨e2,H2⟩:=gx y1 i1
   refine Dj (Fa H1 H2) (Vn) ?_
   refine B0 (Fa H1 H2) ?_
   refine⟨by omega,((y1).set i1 Vr),?_,wQ [0] ?_ ?_⟩
   ·first | exact hy1 | exact⟨(List.length_set ..).trans hy1.1,Afm hy1.2 (by simp[Vr])⟩
   all_goals simp[go_sem,Dx ((i1:Int)+1),H1,H2]
  refine Bp<|.H1 H1 ?_
  refine⟨by omega,(y1),?_,wQ [0] ?_ ?_⟩
  ·exact hy1
  all_goals simp[go_sem,Dx ((i1:Int)+1),H1]
 refine Bu<|.H H1 ?_
 refine Do 0 ?_
 simp[go_sem]
 refine Bz (Fj ?_);simp[go_sem,H1]
 exact⟨(y1,0),by rfl,⟨Nat.le_of_eq hy1.1,hy1.2,by simp⟩⟩
section
variable (m:Ea) (h:1<=m.args.length) (h2:m.args.length<=1000000)
include h h2
theorem Rq:Ct 235 [m.g] (fun d:Ea=>d.g) (fun d=>d.kind=14/\d.tok=[]/\d.data=[]/\d.args.length=2/\∃v,m.args[0]? = some v/\d.args=[m.kind,v]):=by
 refine Ex Tryz.func235 ?_
 refine Bq ?_
 obtain⟨e1,H1⟩:=gx m.args 0
 refine C3 H1 ?_
 refine B2 Dz 2 ?_
 exact .ret (fin H1 ⟨14,[],[m.kind,e1],[]⟩ ⟨rfl,rfl,rfl,rfl,e1,H1,rfl⟩)
def Gu:Ea:=(Ep (Rq m h h2)).choose
theorem Rx:PP 235 [] [m.g] [] (.agg ((Gu m h h2).a false)):=(Ep (Rq m h h2)).choose_spec.1
theorem Xu:(Gu m h h2).kind=14/\(Gu m h h2).tok=[]/\(Gu m h h2).data=[]/\(Gu m h h2).args.length=2/\∃v,m.args[0]? = some v/\(Gu m h h2).args=[m.kind,v]:=(Ep (Rq m h h2)).choose_spec.2
end
section
variable (n:Int) (a:G2) (h1:a.sec.length<=1000000) (h2:a.lims.length<=1000000)
include n h1 h2
theorem Rr:Ct 82 [.li n,a.g] (fun d:Jg=>d.g) (fun d=>d.num=n/\d.ag=a/\d.toks=Kc a h1/\d.vehs=[]/\d.bk=Aoi a.ra a.bu):=by
 refine Ex Tryz.func82 ?_
 refine Bq ?_
 refine Cy (fun K kk=>by simp[go_sem];refine .l (N4 a (by assumption) (by assumption)) ?_;simp[go_sem];refine .l (Ano a (by assumption)) ?_;simp[go_sem];refine .l (Aqh a.ra a.bu) ?_;simp[go_sem];exact kk) ?_
 exact .ret (fin Dz ⟨n,a,(Kc a (by assumption)),[],(Aoi a.ra a.bu)⟩ ⟨rfl,rfl,rfl,rfl,rfl⟩)
def G5:Jg:=(Ep (Rr n a h1 h2)).choose
theorem Agb:PP 82 [] [.li n,a.g] [] (.agg ((G5 n a h1 h2).a false)):=(Ep (Rr n a h1 h2)).choose_spec.1
theorem Xv:(G5 n a h1 h2).num=n/\(G5 n a h1 h2).ag=a/\(G5 n a h1 h2).toks=Kc a h1/\(G5 n a h1 h2).vehs=[]/\(G5 n a h1 h2).bk=Aoi a.ra a.bu:=(Ep (Rr n a h1 h2)).choose_spec.2
end
def Ar4 (l:List Fq) (ag:Int) (b:List Int) (now s:Int):Prop:=∃t x y r,l[s.toNat]? = some t/\t.used=true/\b=x::y::r/\IntKind.i64.wrap x=ag/\IntKind.i64.wrap y=s/\sB r=sB t.sec/\Yi t now=false
theorem A7k {b:List Int} {x y:Int} (h0:b[0]? = some x) (h1:b[1]? = some y):b=x::y::b.drop 2:=by
 match b,h0,h1 with
 | [],h0,_=>cases h0
 | [_],_,h1=>cases h1
 | _::_::_,h0,h1=>cases h0;cases h1;rfl
theorem Ah7 (l:List Fq) (ag:Int) (b:List Int) (kind:Int) (now:Int) (hl:l.length<=1000000) (ht:∀t∈l,t.sec.length<=1000000) (hb:b.length<=1000000):Ct 208 [.mTok l,.li ag,.mY b,.li kind,.li now] (fun d:Int×Int=>.tup [.li d.1,.li d.2]) (fun d=>d.2=0->Iy l d.1=true/\Ar4 l ag b now d.1):=by
 refine Ex Tryz.func208 ?_
 refine Bq<|.seq ?_
 by_cases hc1:b.length=10
 ·have hg1:((b.length:Int) != 10)=false:=by simp[hc1]
  obtain⟨e1,H1⟩:=gx b 0
  refine Bt (Fa hg1 H1) ?_
  refine Br ?_ ?_<;>intro h24
  ·refine Bt (Fa hg1 H1) ?_
   exact .ret (fin (Fa hg1 H1) (0,9) (by intro h;simp at h;done))
  refine Bp ?_
  obtain⟨e2,H2⟩:=gx b 1
  refine Bt (Hq hg1 H1 H2)<|.seq ?_
  refine B8 (Hq hg1 H1 H2) (Q3 l (IntKind.i64.wrap e2)) ?_
  refine Br ?_ ?_<;>intro h32
  ·refine Bt (Hq hg1 H1 H2) ?_
   exact .ret (fin (Hq hg1 H1 H2) (0,9) (by intro h;simp at h;done))
  obtain⟨hp0,tp,hp1,hp2⟩:=Ry (by simpa using h32)
  have hp3:=(Ab.1 hp1).1
  refine Bp ?_
  obtain⟨e3,H3⟩:=gx l ((IntKind.i64.wrap e2).toNat)
  refine Bt (Tf hg1 H1 H2 H3)<|.seq ?_
  obtain⟨Y1,cY1,qY1⟩:=Ep (Aii (b.drop 2) e3.sec (by simp;omega) (ht e3 (Ac H3)))
  refine Cy (fun K kk=>by simp[go_sem,hg1,H1,H2,H3];(repeat refine aK ?_);refine .lo cY1 (by simp[go_sem,Bf (show (tY b).length<=b.length by simp)]) (by simp[AV.cln,Fu]) ?_;simp[go_sem,hg1,H1,H2,H3];refine Nf (by simp[go_sem]) (by simp[go_sem]) ?_;simp[go_sem,hg1,H1,H2,H3];refine .l (Wa e3 now) ?_;simp[go_sem,hg1,H1,H2,H3];refine Nf (by simp[go_sem]) (by simp[go_sem]) ?_;simp[go_sem,hg1,H1,H2,H3];refine .l (Ack e3.ri kind) ?_;simp[go_sem,hg1,H1,H2,H3];exact kk) ?_
  refine Br ?_ ?_<;>intro h54
  ·refine Bt (Tf hg1 H1 H2 H3) ?_
   exact .ret (fin (Tf hg1 H1 H2 H3) (0,9) (by intro h;simp at h;done))
  refine Bp<|.H (Tf hg1 H1 H2 H3) ?_
  exact .ret (fin (Tf hg1 H1 H2 H3) (IntKind.i64.wrap e2,0) (fun _=>⟨h32,e3,e1,e2,b.drop 2,H3,by rw[H3] at hp1;injection hp1 with hp1;rw[hp1];exact hp2,A7k H1 H2,h24,rfl,qY1 h54.1.1,h54.1.2⟩))
 have hg1:((b.length:Int) != 10)=true:=by simp[hc1];omega
 refine Bt hg1 ?_
 refine Cs ?_ ?_<;>intro h24<;>simp[go_sem] at h24
 refine Bt hg1 ?_
 exact .ret (fin hg1 (0,9) (by intro h;simp at h;done))
theorem Acc (r:Jg) (hb:Uc r):Ct 231 [r.g] (fun d:Bool=>.lb d) (fun d=>True):=by
 refine Ex Tryz.func231 ?_
 refine Bq ?_
 obtain⟨Y1,cY1,qY1⟩:=Ep (Md r.toks hb.toks hb.tsec)
 obtain⟨Y2,cY2,qY2⟩:=Ep (Mr r.vehs hb.vehs)
 obtain⟨Y3,cY3,qY3⟩:=Ep (Akt r.bk)
 refine B3 (fun K kk=>by simp +contextual[go_sem];refine Pv ?_;simp +contextual[go_sem];refine .l (Ze r.ag hb.sec hb.lims) ?_;simp +contextual[go_sem];refine Pv ?_;simp +contextual[go_sem];refine .l cY1 ?_;simp +contextual[go_sem];refine Pv ?_;simp +contextual[go_sem];refine .l cY2 ?_;simp +contextual[go_sem];refine Pv ?_;simp +contextual[go_sem];refine .l cY3 ?_;simp +contextual[go_sem];exact kk) ?_
 refine Bz (Fj ?_);simp[go_sem]
 exact⟨_,by rfl,trivial⟩
def LvR (k:Int) (a b:Jh):Prop:=if 2<=k/\k<=8 then R4 a=(b,true) else b=a
section
variable (r:Jg) (m:Ea) (now:Int) (hb:Uc r) (h:m.tok.length<=1000000)
include now hb h
theorem Qd:Ct 188 [r.g,m.g,.li now] (fun d:Jg×Int×Int=>.tup [d.1.g,.li d.2.1,.li d.2.2]) (fun d=>(d.2.2=0->(∃bk,d.1={ r with bk:=bk }/\LvR m.kind r.bk bk)/\Iy r.toks d.2.1=true/\Ar4 r.toks r.num m.tok now d.2.1)/\0<=d.2.2/\d.2.2<=99):=by
 refine Ex Tryz.func188 ?_
 refine Bq ?_
 obtain⟨Y1,cY1,qY1⟩:=Ep (Ah7 r.toks r.num m.tok m.kind now hb.toks hb.tsec h)
 refine B8 Dz cY1<|.seq ?_
 refine Bq ?_
 refine Br ?_ ?_<;>intro h28
 ·refine Bq ?_
  exact .ret (fin Dz (⟨0,⟨[],0,0,[],0,0,0,0⟩,[],[],⟨0,0,0⟩⟩,0,9) ⟨fun h=>absurd h (by decide),by decide⟩)
 refine Bp<|.L Dz (Pb r hb)<|.seq ?_
 refine Bq ?_
 refine Br ?_ ?_<;>intro h39
 ·refine B8 Dz (Anq r.bk)<|.seq ?_
  refine Bq ?_
  refine Br ?_ ?_<;>intro h47
  ·refine Bq ?_
   exact .ret (fin Dz (⟨0,⟨[],0,0,[],0,0,0,0⟩,[],[],⟨0,0,0⟩⟩,0,13) ⟨fun h=>absurd h (by decide),by decide⟩)
  refine Bp<|.R1 ?_
  refine Bq ?_
  exact .ret (fin Dz (⟨r.num,r.ag,r.toks,r.vehs,(R4 r.bk).1⟩,Y1.1,0) ⟨fun _=>⟨⟨_,rfl,by unfold LvR;rw[if_pos h39];exact Prod.ext rfl h47⟩,qY1 (by simpa using h28)⟩,by simp⟩)
 refine Bp<|.R ?_
 exact .ret (fin Dz (r,Y1.1,0) ⟨fun _=>⟨⟨_,rfl,by unfold LvR;rw[if_neg (by omega)]⟩,qY1 (by simpa using h28)⟩,by simp⟩)
def Gi:Jg×Int×Int:=(Ep (Qd r m now hb h)).choose
theorem Aeo:PP 188 [] [r.g,m.g,.li now] [] (.tup [.agg ((Gi r m now hb h).1.a false),.lit (.int .i64 (Gi r m now hb h).2.1),.lit (.int .i64 (Gi r m now hb h).2.2)]):=(Ep (Qd r m now hb h)).choose_spec.1
theorem M3:((Gi r m now hb h).2.2=0->(∃bk,(Gi r m now hb h).1={ r with bk:=bk }/\LvR m.kind r.bk bk)/\Iy r.toks (Gi r m now hb h).2.1=true/\Ar4 r.toks r.num m.tok now (Gi r m now hb h).2.1)/\0<=(Gi r m now hb h).2.2/\(Gi r m now hb h).2.2<=99:=(Ep (Qd r m now hb h)).choose_spec.2
end
theorem Ys (r:Jg) (l:List Int) (slot:Int) (hb:Uc r) (hl:2<=l.length) (hl2:l.length<=1000000) (h0:0<=slot) (h1:slot<r.toks.length):Ct 236 [r.g,.mI l,.li slot] (fun d:List G6×Int=>.tup [.mVeh d.1,.li d.2]) (fun d=>d.1.length<=8/\0<=d.2/\d.2<=99):=by
 refine Ex Tryz.func236 ?_
 iterate 2 refine Bq ?_
 obtain⟨e1,H1⟩:=gx r.toks slot.toNat
 refine C3 H1 ?_
 obtain⟨e2,H2⟩:=gx l 0
 obtain⟨e3,H3⟩:=gx l 1
 obtain⟨Y1,cY1,qY1⟩:=Ep (Zw r.vehs ⟨r.ag.sec,r.ag.ri,(if e1.cls<r.ag.cls then e1.cls else r.ag.cls),r.ag.lims,r.ag.rq,r.ag.se,r.ag.ra,r.ag.bu⟩ ⟨e2,e3⟩ hb.vehs)
 refine Db (Hq H1 H2 H3) cY1 ?_
 exact .ret (fin (Hq H1 H2 H3) (Y1.1,Y1.2) qY1)
theorem Acb (l:List Ew) (i:Int) (hl:l.length<=1000000) (hg:∀r∈l,r.legs.length<=1000000):Ct 214 [.mReq l,.li i] (fun d:List Ew×Int=>.tup [.mReq d.1,.li d.2]) (fun d=>d.1.length<=l.length/\(∀r∈d.1,r.legs.length<=1000000)/\((∀r∈l,Zs r)->∀r∈d.1,Zs r)/\0<=d.2/\d.2<=99):=by
 refine Ex Tryz.func214 ?_
 refine Bq<|.seq ?_
 obtain⟨Y1,cY1,qY1⟩:=Ep (Qb l 4 (by assumption) (by assumption))
 refine B8 Dz cY1 ?_
 refine Br ?_ ?_<;>intro h8
 ·refine Bq ?_
  exact .ret (fin Dz ([],1) ⟨Ae _,fun t h=>absurd h A8,fun _ t h=>absurd h A8,by decide⟩)
 refine Bp<|.seq<|.L Dz (Qn l i (by assumption)) ?_
 refine Br ?_ ?_<;>intro h12
 ·refine Bq ?_
  exact .ret (fin Dz ([],12) ⟨Ae _,fun t h=>absurd h A8,fun _ t h=>absurd h A8,by decide⟩)
 refine Bp ?_
 refine VX.sel1 0 rfl rfl (by simp) ?_
 simp[go_sem,-Prod.exists]
 refine B3 (fun K kk=>by simp[go_sem];refine .lo (N0 l _ [.iptr false [.li i] 0] (fun r=>r.id != i) hl hg (Xl _) (Z4 i)) (by simp[go_sem]) (by simp[AV.cln,Fu]) ?_;simp[go_sem];exact kk) ?_
 exact .ret (fin Dz ((List.filter (fun r:Ew=>r.id != i) l),0) ⟨Az _ _,fun r h=>hg r ((Bn.1 h).1),fun hB r h=>hB r ((Bn.1 h).1),by simp⟩)
end Go.Proofs.YtkkimgjinbaemaaGreat
