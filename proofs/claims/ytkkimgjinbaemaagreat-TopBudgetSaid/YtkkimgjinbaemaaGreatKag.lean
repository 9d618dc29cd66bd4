/- The walk. -/
import Derived.Test.YtkkimgjinbaemaaGreatKaf
noncomputable section
namespace Go.Proofs.YtkkimgjinbaemaaGreat
open Go.RowKit
set_option linter.unusedVariables false
set_option linter.unusedSimpArgs false
set_option linter.defProp false
set_option linter.unusedSectionVars false
set_option maxRecDepth 100000
set_option maxHeartbeats 4000000
def I0 (k:Int) (n:Int):List Int:=[90,165,1,IntKind.u8.wrap k,IntKind.u8.wrap (n.fdiv (2 ^ min 8 64)),IntKind.u8.wrap n]
def Kg (s:Int):List Int:=[IntKind.u8.wrap (s.fdiv (2 ^ min 24 32)),IntKind.u8.wrap (s.fdiv (2 ^ min 16 32)),IntKind.u8.wrap (s.fdiv (2 ^ min 8 32)),IntKind.u8.wrap (s.fdiv (2 ^ min 0 32))]
def Ig (k:Int) (p:List Int):List Int:=I0 k p.length++p++Kg (Ww ((I0 k p.length).drop 2++p))
def P5 (k:Int) (p:List Int):List Int×Int:=if k<0\/255<k then ([],8) else if 200<p.length then ([],7) else (Ig k p,0)
theorem A0x {α:Type} (z:α) (n:Nat):List.replicate (n+10) z=z::z::z::z::z::z::List.replicate (n+4) z:=rfl
theorem Ae9 {α:Type} (a:List α):∀(b c:List α),c.length<=b.length->Kf (a++b) a.length c=a++c++b.drop c.length
 | b,[],_=>by simp[Kf]
 | [],c::cs,h=>by simp at h
 | b::bs,c::cs,h=>by
  have ih:=Ae9 (a++[c]) bs cs (by simpa using h)
  have e:(a++b::bs).set a.length c=(a++[c])++bs:=by
   rw[List.set_append_right _ _ (Aj _)];simp
  rw[Kf,e,show a.length+1=(a++[c]).length by simp,ih]
  simp
theorem A0v {α β:Type} {g:β->α} (p:List β) (a b c d e f z:α) {m:Nat} (hm:p.length<=m):Kf (a::b::c::d::e::f::List.replicate (p.length+4) z) 6 (List.take m (List.map g p))=a::b::c::d::e::f::(List.map g p++[z,z,z,z]):=by
 rw[Bf (by simpa using hm)]
 have:=Ae9 [a,b,c,d,e,f] (List.replicate (p.length+4) z) (List.map g p) (by simp)
 simp only[A6,List.length_nil,List.cons_append,List.nil_append] at this
 rw[this,A2,List.drop_replicate,show p.length+4 - p.length=4 by omega]
 rfl
theorem Awr {A:List Int} {s:Int} {i:Nat} (hi:i<4):(A++((Kg s).take i++List.replicate (4 - i) 0)).set (A.length+i) ((Kg s).getD i 0)=A++((Kg s).take (i+1)++List.replicate (4 - (i+1)) 0):=by
 rw[List.set_append_right _ _ (by omega)]
 congr 1
 rw[show A.length+i - A.length=i by omega]
 rcases (by omega:i=0\/i=1\/i=2\/i=3) with rfl | rfl | rfl | rfl<;>simp[Kg,List.replicate]
theorem Ayf (l:List Int) (i:Nat) (x:Int):(tY l).set i [.lit (.int .u8 x)]=tY (l.set i x):=by simp[tY,List.map_set]
theorem Ayg {R:List Int} {n:Nat} (h:n<R.length) (v:T):(tY R).set n (((tY R)[n]?.getD []).set 0 v)=(tY R).set n [v]:=by
 simp[tY,Aa h]
theorem Ao8 {s:Int} {i:Nat} (hi:i<4):(Kg s).getD i 0=IntKind.u8.wrap (s.fdiv (2 ^ min (8*(3 - (i:Int))).toNat 32)):=by
 rcases (by omega:i=0\/i=1\/i=2\/i=3) with rfl | rfl | rfl | rfl<;>simp[Kg]
theorem Air {n:Nat} (h:n<=200):Abu n=n+10:=by
 have e1:=Dw (6+(n:Int))
 have e2:=Dw (6+(n:Int)+4)
 have hh:¬((n:Int)<0\/200<(n:Int)):=by omega
 simp only[Abu,if_neg hh,e1,e2]
 omega
theorem Ae1 (k:Int) (p:List Int) (hl:p.length<=1000000):PP 137 [] [.li k,.mY p] [] (.tup [.imm false 1 (tY (P5 k p).1),.lit (.int .i64 (P5 k p).2)]):=by
 refine Ei Tryz.func137 ?_
 refine Bw<|.seq ?_
 refine Bw ?_
 refine B7 ?_ ?_<;>intro h15
 ·refine Bw ?_
  refine B6 ?_
  simp[go_sem]
  simp[P5,h15]
 refine Bv<|.seq<|.R ?_
 refine B7 ?_ ?_<;>intro h18
 ·refine Bw ?_
  refine B6 ?_
  simp[go_sem]
  have hh:¬(k<0\/255<k):=by omega
  have hh2:200<p.length:=by omega
  simp[P5,hh,hh2]
 have hsz:=Air (n:=p.length) (by omega)
 have hn:((p.length:Int)+10).toNat=p.length+10:=by omega
 have h6:=Dw (6+(p.length:Int))
 have h7:(6+(p.length:Int)).toNat - 2=p.length+4:=by omega
 refine Bv<|.R ?_
 refine Di hsz (Zs p.length) ?_
 refine VW.wkE (s':=⟨[(0,.li k),(1,.mY p),(6,.li p.length),(7,.own 0 (p.length+10))],[.row 5 1 true false (tY (0::0::0::0::0::0::List.replicate (p.length+4) 0))]⟩) (wQ [0] ?_ ?_) ?_
 ·simp[go_sem,hn,A0x]
 ·simp[go_sem,hn,A0x]
 refine VW.H Dy ?_
 refine VW.H Dy ?_
 refine VW.H Dy ?_
 have hcp:=fun a b c d e f z=>A0v (g:=fun x=>[T.lit (Value.int IntKind.u8 x)]) p a b c d e f z (m:=((p.length:Int)+10).toNat - 6) (by omega)
 refine VW.wkE (s':=⟨[(0,.li k),(1,.mY p),(6,.li p.length),(7,.own 0 (p.length+10))],[.row 5 1 false false (tY ((I0 k p.length)++p++List.replicate 4 0))]⟩) (wQ [0] ?_ ?_) ?_
 ·simp[go_sem,hcp]
 ·simp[go_sem,hcp,I0,tY]
 refine Bx (by rfl) fun K1 hK1=>?_
 simp[go_sem,h6,h7]
 repeat' with_reducible refine Ax ?_ ?_
 all_goals try (intros;(repeat' refine Ax ?_ ?_)<;>omega)
 all_goals try (simp[I0];omega)
 refine .lo (Ah2 ((I0 k p.length).drop 2++p) (by simp[I0];omega)) (by simp[go_sem,I0,h7]) (by simp[AV.cln,Fb]) ?_
 simp[go_sem,h6,h7]
 refine hK1 _ ?_;clear hK1
 refine Du<|.R<|.block ?_
 refine Cb 4 (fun i1=>⟨[(6,.li p.length),(7,.own 0 (p.length+10)),(8,.lit (.int .u32 (Ww ((I0 k p.length).drop 2++p)))),(52,.li i1)],[.row 5 1 false false (tY ((I0 k p.length)++p++((Kg (Ww ((I0 k p.length).drop 2++p))).take i1++List.replicate (4 - i1) 0)))]⟩) (wQ [0] ?_ ?_) fun i1 hi1=>?_
 ·simp[go_sem]
 ·simp[go_sem]
 refine Bw<|.seq ?_
 refine B7 ?_ ?_<;>intro h53
 ·have hw1:=Dw (6+(p.length:Int)+i1)
  have hw2:=Dw (3 - (i1:Int))
  have hw3:=Dw (8*(3 - (i1:Int))) (by omega) (by omega)
  have he:(6+(p.length:Int)+i1).toNat=(I0 k p.length++p).length+i1:=by simp[I0];omega
  have hset:=congrArg tY (Awr (A:=I0 k p.length++p) (s:=Ww ((I0 k p.length).drop 2++p)) (i:=i1) (by omega))
  rw[Ao8 (by omega),<- Ayf,<- Ayg (by simp[I0,Kg];omega),<- he] at hset
  simp[tY] at hset
  refine Bv<|.seq<|.block<|.R ?_
  refine VW.region1 (by rfl) fun K1 hK1=>?_
  simp[go_sem,h6,hw1,hw2,hw3]
  repeat' with_reducible refine Ax ?_ ?_
  all_goals try (intros;(repeat' refine Ax ?_ ?_)<;>omega)
  all_goals try (simp[I0,Kg];omega)
  refine hK1 _ ?_;clear hK1
  refine Cm ?_
  refine⟨by omega,wQ [0] ?_ ?_⟩
  ·simp[go_sem,Dw ((i1:Int)+1),hset,h15,h18,h53]
  simp[go_sem,hset,h15,h18,h53]
 refine B5<|.R ?_
 have he:i1=4:=by omega
 subst he
 refine Ch 0 (by simp[go_sem,F5]) ?_
 simp[go_sem]
 refine B6 ?_
 simp[go_sem]
 have hh:¬(k<0\/255<k):=by omega
 have hh2:¬200<p.length:=by omega
 have hc:p.length+10=(I0 k p.length).length+(p.length+4):=by simp[I0];omega
 simp[P5,Ig,hh,hh2,tY,Kg,if_pos hc,go_sem]
theorem Aws {α β:Type} {g:β->α} (r:List β) {n:Nat} {z:α} (h:n<=r.length):Kf (List.replicate n z) 0 (List.take n (List.take n (List.map g r)))=List.map g (List.take n r):=by
 have:=Ae9 [] (List.replicate n z) (List.map g (List.take n r)) (by simp;omega)
 simp only[List.nil_append,List.length_nil] at this
 rw[List.take_take,Nat.min_self,<- List.map_take,this,List.drop_of_length_le (by simp;omega)]
 simp
theorem Ao9 {n:Int} (h0:0<=n) (h:n<=200):Abu n=n+10:=by
 obtain⟨m,rfl⟩:=Int.eq_ofNat_of_zero_le h0
 exact Air (by omega)
def By (l:List Int):Prop:=∀x,x∈l->0<=x/\x<256
theorem Ao2 {a b:Int} (ha:0<=a) (ha':a<4611686018427387904) (hb:0<=b) (hb':b<4611686018427387904):Ex .or .i64 a b=((a.toNat ||| b.toNat:Nat):Int):=by
 obtain⟨m,rfl⟩:=Int.eq_ofNat_of_zero_le ha
 obtain⟨n,rfl⟩:=Int.eq_ofNat_of_zero_le hb
 have hm:m<2 ^ 62:=by omega
 have hn:n<2 ^ 62:=by omega
 have h:=Nat.or_lt_two_pow hm hn
 have e:(BitVec.ofInt 64 (m:Int) ||| BitVec.ofInt 64 (n:Int)).toNat=m ||| n:=by
  rw[BitVec.ofInt_natCast,BitVec.ofInt_natCast,BitVec.toNat_or,BitVec.toNat_ofNat,BitVec.toNat_ofNat,Nat.mod_eq_of_lt (by omega),Nat.mod_eq_of_lt (by omega)]
 show IntKind.i64.wrap (((BitVec.ofInt 64 (m:Int) ||| BitVec.ofInt 64 (n:Int)).toNat:Nat):Int)=_
 rw[e,Dw _]
 simp
theorem A0z {x y:Int} (hx:0<=x/\x<256) (hy:0<=y/\y<256):Ex .or .i64 (IntKind.i64.wrap (IntKind.i64.wrap x*256)) (IntKind.i64.wrap y)=x*256+y:=by
 rw[Dw x,Dw (x*256),Dw y,Ao2 (by omega) (by omega) (by omega) (by omega)]
 obtain⟨m,rfl⟩:=Int.eq_ofNat_of_zero_le hx.1
 obtain⟨n,rfl⟩:=Int.eq_ofNat_of_zero_le hy.1
 have:=Nat.shiftLeft_add_eq_or_of_lt (i:=8) (b:=n) (by omega) m
 rw[Nat.shiftLeft_eq] at this
 rw[show ((m:Int)*256).toNat=m*2 ^ 8 by omega,Int.toNat_natCast,<- this]
 omega
def Fg:List Int->Ff×Int×Bool
 | []=>(⟨0,0,[]⟩,0,false)
 | [b0]=>if b0≠90 then (⟨2,0,[]⟩,1,true) else (⟨0,0,[]⟩,0,false)
 | b0::b1::r=>if b0≠90\/b1≠165 then (⟨2,0,[]⟩,1,true) else match r with
  | b2::b3::b4::b5::r =>
   let n:=b4*256+b5
   if 200<n then (⟨7,0,[]⟩,1,true)
   else if (r.length:Int)<n+4 then (⟨0,0,[]⟩,0,false)
   else if Ww (b2::b3::b4::b5::r.take n.toNat)≠Arr ((r.drop n.toNat).take 4) then (⟨4,0,[]⟩,1,true)
   else if b2≠1 then (⟨3,0,[]⟩,n+10,true)
   else if b3<1\/22<b3 then (⟨5,0,[]⟩,n+10,true)
   else (⟨0,b3,r.take n.toNat⟩,n+10,true)
  | _=>(⟨0,0,[]⟩,0,false)
theorem Ahb (b:List Int) (hl:b.length<=1000000) (hb:By b):PP 140 [] [.mY b] [] (.tup [.agg ((Fg b).1.a false),.lit (.int .i64 (Fg b).2.1),.lb ((Fg b).2.2)]):=by
 refine Ei Tryz.func140 ?_
 refine Bw<|.seq ?_
 refine Bw ?_
 refine B7 ?_ ?_<;>intro h11
 ·refine Bw ?_
  refine B6 ?_
  simp[go_sem,h11,Fg]
 refine Bv<|.seq ?_
 obtain⟨b0,r,rfl⟩:=List.exists_cons_of_ne_nil h11
 rcases r with _ | ⟨b1,r⟩
 ·refine VW.H Dy ?_
  refine B7 ?_ ?_<;>intro h27
  ·refine Bw ?_
   refine B6 ?_
   simp[go_sem]
   (simp[Fg,h27];done)
  refine Bv<|.seq<|.R ?_
  refine C8 ?_ ?_<;>intro h31<;>simp[go_sem] at h31
  refine Bw ?_
  refine B6 ?_
  simp[go_sem]
  (simp[Fg,h27];done)
 refine VW.H Dy ?_
 refine B7 ?_ ?_<;>intro h27
 ·refine Bw ?_
  refine B6 ?_
  simp[go_sem]
  first | (simp[Fg,h27];done) | (have e:¬b0=90\/¬b1=165:=(by omega);simp[Fg,e])
 refine Bv<|.seq<|.R ?_
 refine B7 ?_ ?_<;>intro h31
 ·refine Bw ?_
  refine B6 ?_
  simp[go_sem]
  first | (simp[Fg,h27];done) | (have e:¬(¬b0=90\/¬b1=165):=(by omega);rcases r with _ | ⟨b2,_ | ⟨b3,_ | ⟨b4,_ | ⟨b5,r⟩⟩⟩⟩<;>first | (simp[Fg,e];done) | (exfalso;simp at h31;done) | (exfalso;simp at h31;omega))
 obtain⟨b2,b3,b4,b5,r,rfl⟩:∃b2 b3 b4 b5 r',r=b2::b3::b4::b5::r':=by
  rcases r with _ | ⟨b2,_ | ⟨b3,_ | ⟨b4,_ | ⟨b5,r⟩⟩⟩⟩<;>first | exact⟨_,_,_,_,_,rfl⟩ | (exfalso;simp at h31;done)
 have h4:=hb b4 (by simp)
 have h5:=hb b5 (by simp)
 have hn:=A0z h4 h5
 refine Bv<|.G hn<|.seq ?_
 refine Bw ?_
 refine B7 ?_ ?_<;>intro h44
 ·refine Bw ?_
  refine B6 ?_
  simp[go_sem]
  have e27:¬(¬b0=90\/¬b1=165):=(by omega)
  simp[Fg,e27,h44]
 generalize hN:b4*256+b5=N at *
 have h0:0<=N:=by omega
 have hs:=Ao9 (n:=N) (by omega) (by omega)
 have hw:=Dw (6+N)
 have e1:(6+N).toNat=N.toNat+6:=by omega
 have e2:(N+10).toNat=N.toNat+10:=by omega
 refine Bv<|.L hs (Zs N)<|.seq ?_
 refine Bw ?_
 refine B7 ?_ ?_<;>intro h51
 ·refine Bw ?_
  refine B6 ?_
  simp[go_sem]
  have e27:¬(¬b0=90\/¬b1=165):=(by omega)
  have c44:¬200<N:=(by omega)
  have c51:(r.length:Int)<N+4:=(by omega)
  simp[Fg,e27,hN,c44,c51]
 refine Bv<|.seq<|.E (fun K kk=>by simp[go_sem,hw,e1,e2];(repeat refine aK ?_);refine .lo (Ah2 (b2::b3::b4::b5::r.take N.toNat) (by simp;omega)) (by simp[go_sem]) (by simp[AV.cln,Fb]) ?_;simp[go_sem,hw,e1,e2];(repeat refine aK ?_);refine .lo (Ae0 ((r.drop N.toNat).take 4) (by simp;omega)) (by simp[go_sem,List.drop_take]) (by simp[AV.cln,Fb]) ?_;simp[go_sem,hw,e1,e2];exact kk) ?_
 refine B7 ?_ ?_<;>intro h64
 ·refine Bw ?_
  refine B6 ?_
  simp[go_sem]
  have e27:¬(¬b0=90\/¬b1=165):=(by omega)
  have c44:¬200<N:=(by omega)
  have c51:¬(r.length:Int)<N+4:=(by omega)
  simp[Fg,e27,hN,c44,c51,h64]
 refine Bv<|.seq<|.H Dy ?_
 refine B7 ?_ ?_<;>intro h69
 ·refine Bw ?_
  refine B6 ?_
  simp[go_sem]
  have e27:¬(¬b0=90\/¬b1=165):=(by omega)
  have c44:¬200<N:=(by omega)
  have c51:¬(r.length:Int)<N+4:=(by omega)
  simp[Fg,e27,hN,c44,c51,h64,h69]
 have h3:=hb b3 (by simp)
 have hk:=Dw b3
 subst h69
 refine Bv<|.H hk<|.seq ?_
 refine Bw ?_
 refine B7 ?_ ?_<;>intro h81
 ·refine Bw ?_
  refine B6 ?_
  simp[go_sem]
  have e27:¬(¬b0=90\/¬b1=165):=(by omega)
  have c44:¬200<N:=(by omega)
  have c51:¬(r.length:Int)<N+4:=(by omega)
  have e81:b3<1\/22<b3:=(by omega)
  simp[Fg,e27,hN,c44,c51,h64,e81]
 refine Bv<|.H Dy ?_
 refine Cc (fun K kk=>by simp[go_sem,hw,e1];repeat first | exact kk | refine aK ?_) ?_
 have hrl:N.toNat<=r.length:=(by omega)
 have hm:min N.toNat r.length=N.toNat:=Nat.min_eq_left hrl
 have hcp:=Aws (g:=fun x=>[T.lit (Value.int IntKind.u8 x)]) r (z:=[T.lit (Value.int IntKind.u8 0)]) hrl
 simp only[hcp]
 refine Ch 1 (by simp[go_sem,F5]) ?_
 simp[go_sem,hm]
 refine Bw ?_
 refine B6 ?_
 simp[go_sem]
 have e27:¬(¬b0=90\/¬b1=165):=(by omega)
 have c44:¬200<N:=(by omega)
 have c51:¬(r.length:Int)<N+4:=(by omega)
 have e81:¬(b3<1\/22<b3):=(by omega)
 simp[Fg,e27,hN,c44,c51,h64,e81,hm,go_sem]
section
theorem Awm (v:Int) {n:Int} (h:1<=n):-n<v.tmod n/\v.tmod n<n:=by
 have h1:=Int.tmod_lt_of_pos v (show 0<n by omega)
 have h2:=Int.tmod_lt_of_pos (-v) (show 0<n by omega)
 rw[Int.neg_tmod] at h2
 omega
def Ny {α:Type} (f:α->List T) (n:Nat) (X:List (List T)):Prop:=∃R:List α,X=R.map f/\R.length=n
variable {z:List T}
section
variable {α:Type} {f:α->List T} {n k:Nat} {X Y:List (List T)}
theorem Mi {l:List α}:Ny f l.length (l.map f):=⟨l,rfl,rfl⟩
theorem Mh:Ny f 0 []:=⟨[],rfl,rfl⟩
theorem Mg {x:α} (h:z=f x):Ny f n (List.replicate n z):=⟨List.replicate n x,by simp[h],by simp⟩
theorem Ko (h:Ny f n X):Ny f (min k n) (List.take k X):=by
 obtain⟨R,rfl,rfl⟩:=h
 exact⟨R.take k,by simp,by simp⟩
theorem Kr (h:Ny f n X):Ny f (n - k) (List.drop k X):=by
 obtain⟨R,rfl,rfl⟩:=h
 exact⟨R.drop k,by simp,by simp⟩
theorem Qi (h:Ny f n X) (h2:Ny f k Y):Ny f (n+k) (X++Y):=by
 obtain⟨R,rfl,rfl⟩:=h
 obtain⟨S,rfl,rfl⟩:=h2
 exact⟨R++S,by simp,by simp⟩
theorem Qh {i:Nat} {x:α} (h:Ny f n X) (hz:z=f x):Ny f n (X.set i z):=by
 obtain⟨R,rfl,rfl⟩:=h
 exact⟨R.set i x,by simp[hz,List.map_set],by simp⟩
theorem Atw (R S:List α) (i:Nat):∃R':List α,Kf (R.map f) i (S.map f)=R'.map f/\R'.length=R.length:=by
 induction S generalizing R i with
 | nil=>exact⟨R,rfl,rfl⟩
 | cons x S ih =>
  obtain⟨R',h1,h2⟩:=ih (R.set i x) (i+1)
  refine⟨R',?_,by simpa using h2⟩
  rw[List.map_cons,Kf,<- List.map_set,h1]
theorem Kq {i:Nat} (h:Ny f n X) (h2:Ny f k Y):Ny f n (Kf X i Y):=by
 obtain⟨R,rfl,rfl⟩:=h
 obtain⟨S,rfl,rfl⟩:=h2
 exact Atw R S i
theorem Ks (h:Ny f n X) (e:n=k):Ny f k X:=e▸h
end
theorem Aia:∀(l:List Ob) (n:Nat),n<l.length->O7 l n (l.getD n .gone)=l
 | [],_,h=>by simp at h
 | _::_,0,_=>rfl
 | _::l,n+1,h=>by simp only[O7,List.getD_cons_succ];rw[Aia l n (by simpa using h)]
variable {P:Program}
theorem VX.gen {n m:Nat} {c:Code} {st:St} {K:Exit->St->Prop} {α:Type} (id:Nat) {ty k:Nat} {g fr:Bool} {X:List (List T)} (ho:st.o id=.row ty k g fr X) (hl:id<st.ob.length) (f:α->List T) (N:Nat) (h:Ny f N X) (hv:∀R:List α,R.length=N->VX P n m c (st.set id (.row ty k g fr (R.map f))) K):VX P n m c st K:=by
 obtain⟨R,rfl,h2⟩:=h
 have:=hv R h2
 rw[<- ho] at this
 rwa[show st.set id (st.o id)=st by show St.mk _ _=_;rw[show st.o id=st.ob.getD id .gone from rfl,Aia _ _ hl]] at this
abbrev Ds:=@VX.gen
def A1j (P:Program) {D:Type} (rs:List ResultVar) (F:D->AV) (S:D->List Ob) (Q:D->Prop) (e:Exit) (st:St):Prop:=∃d,Re P 0 rs (S d) (F d) e st/\Q d
theorem Nk {f:FuncId} {fn:Func} {c:Code} {args:List AV} {D:Type} {F:D->AV} {S:D->List Ob} {Q:D->Prop} (hf:P.funcs[f]? = some fn) (hb:fn.body=some c) (hn:(fn.name == "runtime.NumGoroutine")=false) {rs:List ResultVar} (hrs:fn.results=rs.toArray) (hk:args.length<=fn.ntmps) (h:VX P fn.ntmps 0 c ⟨Hr 0 args,[]⟩ (A1j P rs F S Q)):∃d,Ey P f [] args (S d) (F d)/\Q d:=by
 obtain⟨e,s,h1,d,h2,h3⟩:=h
 refine⟨d,Ad9 hf hb hn hrs hk (h1.mono ?_),h3⟩
 rintro e' s' ⟨rfl,rfl⟩
 exact h2
theorem Ab6 (p:F4):Ct 114 [p.g] (fun d:Int=>.li d) (fun d=>True):=by
 refine Er Tryz.func114 ?_
 iterate 2 refine Bq ?_
 refine Bz (Fk ?_);simp[go_sem]
 exact⟨_,rfl,trivial⟩
theorem Zj (p:F4) (l:Fy):Ct 84 [p.g,l.g] (fun d:Int=>.li d) (fun d=>True):=by
 refine Er Tryz.func84 ?_
 refine Bq<|.seq ?_
 refine Bq<|.block ?_
 refine Bq ?_
 refine Br ?_ ?_<;>intro h7
 ·obtain⟨Y1,cY1,qY1⟩:=Em (Ab6 p)
  refine Dd Dy cY1 ?_
  refine Bz (Fk ?_);simp[go_sem]
  exact⟨_,rfl,trivial⟩
 refine Bq ?_
 refine Br ?_ ?_<;>intro h16
 ·refine Bq ?_
  refine Bz (Fk ?_);simp[go_sem]
  exact⟨_,rfl,trivial⟩
 refine Bq ?_
 refine Br ?_ ?_<;>intro h24
 ·refine Bq ?_
  refine Bz (Fk ?_);simp[go_sem]
  exact⟨_,rfl,trivial⟩
 refine Bp<|.R ?_
 refine Bz (Fk ?_);simp[go_sem]
 exact⟨_,rfl,trivial⟩
theorem Vr (p:F4) (l:Fy) (b:Bool):Ct 202 [p.g,l.g,.lb b] (fun d:Fy=>d.g) (fun d=>True):=by
 refine Er Tryz.func202 ?_
 refine Bq<|.seq ?_
 refine Bq<|.block ?_
 refine Bq ?_
 refine Br ?_ ?_<;>intro h9
 ·refine Ca ?_
  refine Dc (by kernel_rfl) (by rfl) (by kernel_rfl) fun K1 hK1=>?_
  simp[go_sem]
  refine Oq (by simp[go_sem]) (by simp[go_sem]) ?_
  simp[go_sem]
  obtain⟨Y1,cY1,qY1⟩:=Em (Ab6 p)
  refine .lo cY1 rfl (by simp) ?_
  simp[go_sem]
  refine hK1 _ _ (by kernel_rfl) ?_;clear hK1
  refine Br ?_ ?_<;>intro h19
  ·refine Bq ?_
   refine Bz (Fk ?_);simp[go_sem]
   exact⟨⟨_,_⟩,by rfl,trivial⟩
  refine Bp<|.R ?_
  refine Bz (Fk ?_);simp[go_sem]
  exact⟨⟨_,_⟩,by rfl,trivial⟩
 refine Bq ?_
 refine Br ?_ ?_<;>intro h26
 ·refine Ca<|.R ?_
  refine Br ?_ ?_<;>intro h33
  ·refine Bq ?_
   refine Bz (Fk ?_);simp[go_sem]
   exact⟨⟨_,_⟩,by rfl,trivial⟩
  refine Bp<|.seq<|.R ?_
  refine Br ?_ ?_<;>intro h40
  ·refine Bq ?_
   refine Bz (Fk ?_);simp[go_sem]
   exact⟨⟨_,_⟩,by rfl,trivial⟩
  refine Bp<|.R ?_
  refine Bz (Fk ?_);simp[go_sem]
  exact⟨⟨_,_⟩,by rfl,trivial⟩
 refine Bq ?_
 refine Br ?_ ?_<;>intro h43
 ·refine Ca<|.R ?_
  refine Br ?_ ?_<;>intro h50
  ·refine Bq ?_
   refine Bz (Fk ?_);simp[go_sem]
   exact⟨⟨_,_⟩,by rfl,trivial⟩
  refine Bp<|.R ?_
  refine Bz (Fk ?_);simp[go_sem]
  exact⟨⟨_,_⟩,by rfl,trivial⟩
 refine Bp<|.R ?_
 refine Bz (Fk ?_);simp[go_sem]
 exact⟨⟨_,_⟩,by rfl,trivial⟩
def Aml (p:F4) (l:Fy) (b:Bool):Fy:=(Em (Vr p l b)).choose
theorem Alr (p:F4) (l:Fy) (b:Bool):PP 202 [] [p.g,l.g,.lb b] [] (.agg ((Aml p l b).a false)):=(Em (Vr p l b)).choose_spec.1
theorem Ai7 (p:F4) (l:Fy):Ct 219 [p.g,l.g] (fun d:Bool=>.lb d) (fun d=>True):=by
 refine Er Tryz.func219 ?_
 refine Bq<|.seq ?_
 refine Bq<|.block ?_
 refine Bq ?_
 refine Br ?_ ?_<;>intro h7
 ·refine Bq ?_
  refine Bz (Fk ?_);simp[go_sem]
  exact⟨_,rfl,trivial⟩
 refine Bq ?_
 refine Br ?_ ?_<;>intro h12
 ·refine Bq ?_
  refine Bz (Fk ?_);simp[go_sem]
  exact⟨_,rfl,trivial⟩
 refine Bq ?_
 refine Br ?_ ?_<;>intro h22
 ·refine Bq ?_
  refine Bz (Fk ?_);simp[go_sem]
  exact⟨_,rfl,trivial⟩
 refine Bq ?_
 refine Br ?_ ?_<;>intro h34
 ·refine Bq ?_
  refine Bz (Fk ?_);simp[go_sem]
  exact⟨_,rfl,trivial⟩
 refine Bp<|.R ?_
 refine Bz (Fk ?_);simp[go_sem]
 exact⟨_,rfl,trivial⟩
theorem Sx (n:Int):Ct 205 [.li n] (fun d:Bool=>.lb d) (fun d=>True):=by
 refine Er Tryz.func205 ?_
 iterate 2 refine Bq ?_
 refine Bz (Fk ?_);simp[go_sem]
 exact⟨_,rfl,trivial⟩
theorem Ai3 (b:Ja):Ct 255 [b.g] (fun d:Bool=>.lb d) (fun d=>True):=by
 refine Er Tryz.func255 ?_
 iterate 2 refine Bq ?_
 refine Bz (Fk ?_);simp[go_sem]
 exact⟨_,rfl,trivial⟩
theorem Ux (a:H0) (c:Int):Ct 277 [a.g,.li c] (fun d:Int=>.li d) (fun d=>True):=by
 refine Er Tryz.func277 ?_
 refine Bq<|.seq ?_
 refine Bq ?_
 refine Br ?_ ?_<;>intro h13
 ·refine Bq ?_
  refine Bz (Fk ?_);simp[go_sem]
  exact⟨_,rfl,trivial⟩
 have hxx:a.lims[c.toNat]? = some a.lims[c.toNat]:=Aa (by omega)
 generalize a.lims[c.toNat]=x at hxx
 refine Bp<|.H hxx ?_
 refine Bz (Fk ?_);simp[go_sem]
 exact⟨_,rfl,trivial⟩
theorem Rn (x:Int):0<=IntKind.u8.wrap x/\IntKind.u8.wrap x<256:=by
 have e:IntKind.u8.wrap x=x % 256:=by simp[IntKind.wrap,show IntKind.u8.signed=false from rfl,show IntKind.u8.bits=8 from rfl]
 omega
theorem By.app {l m:List Int} (h:By l) (h':By m):By (l++m):=fun x hx=>(A0.1 hx).elim (h x) (h' x)
theorem By.nil:By []:=fun _ h=>absurd h A8
variable {l:List Int}
theorem By.set (h:By l) (i:Nat) {x:Int} (hx:0<=x/\x<256):By (l.set i x):=fun y hy=>(Bi hy).elim (h y) fun e=>e▸hx
theorem By.u8 (x:Int):By [IntKind.u8.wrap x]:=fun y hy=>by rw[An.1 hy];exact Rn x
theorem By.cons {x:Int} (hx:0<=x/\x<256) (h:By l):By (x::l):=fun y hy=>(List.mem_cons.1 hy).elim (fun e=>e▸hx) (h y)
theorem By.rep (n:Nat):By (List.replicate n 0):=fun y hy=>by rw[(List.mem_replicate.1 hy).2];decide
section
variable (k:Int) (v:Int)
include k v
theorem Yi:Ct 191 [.li k,.li v] (fun d:D0=>d.g) (fun d=>d=⟨14,[],[k,v],[]⟩):=by
 refine Er Tryz.func191 ?_
 iterate 2 refine Bq ?_
 refine B2 Dy 1 ?_
 refine Bz (Fk ?_);simp[go_sem]
 exact⟨⟨_,[],[_,_],[]⟩,by rfl,rfl⟩
def Jd:D0:=(Em (Yi k v)).choose
theorem Ub:PP 191 [] [.li k,.li v] [] (.agg ((Jd k v).a false)):=(Em (Yi k v)).choose_spec.1
theorem Uk:Jd k v=⟨14,[],[k,v],[]⟩:=(Em (Yi k v)).choose_spec.2
end
theorem Jr (n:Int):Ct 77 [.li n] (fun d:Bool=>.lb d) (fun d=>True):=by
 refine Er Tryz.func77 ?_
 iterate 2 refine Bq ?_
 refine Bz (Fk ?_);simp[go_sem]
 exact⟨_,rfl,trivial⟩
def Hu (n:Int):Bool:=(Em (Jr n)).choose
theorem Jt (n:Int):PP 77 [] [.li n] [] (.lb (Hu n)):=(Em (Jr n)).choose_spec.1
section
variable (v:Int) (n:Int) (h:1<=n) (hn:n<=1000000)
include v h hn
theorem Il:Ct 15 [.li v,.li n] (fun d:Int=>.li d) (fun d=>0<=d/\d<n):=by
 refine Er Tryz.func15 ?_
 have hm:=Awm v h
 have hw:=Dw (v.tmod n+n)
 refine Bq ?_
 refine Bu Dy<|.seq ?_
 refine Bq ?_
 refine Br ?_ ?_<;>intro h10
 ·refine B0 hw ?_
  refine Bq ?_
  refine Bz (Fk ?_);simp[go_sem]
  exact⟨_,rfl,(by omega)⟩
 refine Bp<|.R ?_
 refine Bz (Fk ?_);simp[go_sem]
 exact⟨_,rfl,(by omega)⟩
def J3:Int:=(Em (Il v n h hn)).choose
theorem M0:PP 15 [] [.li v,.li n] [] (.li (J3 v n h hn)):=(Em (Il v n h hn)).choose_spec.1
theorem Nh:(fun d:Int=>0<=d/\d<n) (J3 v n h hn):=(Em (Il v n h hn)).choose_spec.2
end
end
section
variable (l:List He) (id:Int) (hl:l.length<=1000000)
include id hl
theorem Vn:Ct 239 [.mVeh l,.li id] (fun d:He×Bool=>.tup [d.1.g,.lb d.2]) (fun d=>True):=by
 refine Er Tryz.func239 ?_
 refine Bq<|.seq ?_
 refine Bq<|.block ?_
 refine Bs l.length (fun i1 (y1:Int×Int)=>⟨[(1,.li id),(4,.ptr 0 0),(8,.mVeh l),(9,.li l.length),(10,.li i1)],[.box 216 [.li y1.1,.li y1.2]]⟩) (fun i1 y1=>True) (0,0) (wk Dy [0]) (trivial) fun i1 y1 hi1 hy1=>?_
 refine Bq<|.seq ?_
 refine Br ?_ ?_<;>intro h11
 ·refine Bp<|.seq<|.block ?_
  have H1:l[i1]? = some l[i1]:=Aa (by omega)
  generalize l[i1]=e1 at H1
  refine Bu H1 ?_
  refine Bu H1 ?_
  refine Br ?_ ?_<;>intro h17
  ·refine Bu H1 ?_
   exact .ret (Ep H1 (e1,true) trivial)
  refine Bp<|.H1 H1 ?_
  exact⟨by omega,(y1.1,y1.2),trivial,wk (Fa (Dw ((i1:Int)+1)) H1) [0]⟩
 refine Bt<|.R ?_
 exact .ret (Ep Dy (⟨0,0⟩,false) trivial)
def Ht:He×Bool:=(Em (Vn l id hl)).choose
theorem Aer:PP 239 [] [.mVeh l,.li id] [] (.tup [.agg ((Ht l id hl).1.a false),.lit (.bool (Ht l id hl).2)]):=(Em (Vn l id hl)).choose_spec.1
end
theorem Uy (l:List He) (c:Int) (hl:l.length<=1000000):Ct 276 [.mVeh l,.li c] (fun d:Int=>.li d) (fun d=>True):=by
 refine Er Tryz.func276 ?_
 refine Bq ?_
 refine Bq<|.seq ?_
 refine Bq<|.block ?_
 refine Bs l.length (fun i1 (y1:Int)=>⟨[(1,.li c),(5,.li y1),(8,.mVeh l),(9,.li l.length),(10,.li i1)],[]⟩) (fun i1 y1=>True) (0) (wk Dy []) (trivial) fun i1 y1 hi1 hy1=>?_
 refine Bq<|.seq ?_
 refine Br ?_ ?_<;>intro h11
 ·refine Bp<|.seq<|.block ?_
  have H1:l[i1]? = some l[i1]:=Aa (by omega)
  generalize l[i1]=e1 at H1
  refine Bu H1 ?_
  refine Bu H1 ?_
  refine Br ?_ ?_<;>intro h17
  ·refine B0 H1 ?_
   refine B0 H1 ?_
   exact⟨by omega,(IntKind.i64.wrap (y1+1)),trivial,wk (Fa (Dw ((i1:Int)+1)) H1) []⟩
  refine Bp<|.H1 H1 ?_
  exact⟨by omega,(y1),trivial,wk (Fa (Dw ((i1:Int)+1)) H1) []⟩
 refine Bt<|.R ?_
 exact .ret (Ep Dy y1 trivial)
section
variable (l:List He) (hl:l.length<=1000000)
include hl
theorem Ls:Ct 254 [.mVeh l] (fun d:Bool=>.lb d) (fun d=>True):=by
 refine Er Tryz.func254 ?_
 refine Bq<|.seq ?_
 refine Bq ?_
 refine Br ?_ ?_<;>intro h7
 ·refine Bq ?_
  exact .ret (Ep Dy false trivial)
 refine Bp<|.seq<|.R<|.block ?_
 refine Bs l.length (fun i1 (y1:Unit)=>⟨[(0,.mVeh l),(8,.mVeh l),(9,.li l.length),(10,.li i1)],[]⟩) (fun i1 y1=>True) () (wk Dy []) (trivial) fun i1 y1 hi1 hy1=>?_
 refine Bq<|.seq ?_
 refine Br ?_ ?_<;>intro h11
 ·refine Bp<|.seq<|.block ?_
  have H1:l[i1]? = some l[i1]:=Aa (by omega)
  generalize l[i1]=e1 at H1
  refine Bu H1<|.seq ?_
  refine Bu H1 ?_
  refine Br ?_ ?_<;>intro h32
  ·refine Bu H1 ?_
   exact .ret (Ep H1 false trivial)
  refine Bp ?_
  by_cases hc8:0<i1
  ·have hw2:=Dw (i1 - 1:Int)
   have H3:l[(i1 - 1)]? = some l[(i1 - 1)]:=Aa (by omega)
   generalize l[(i1 - 1)]=e3 at H3
   refine C9 (P6 H1 hc8 hw2 H3) ?_
   refine Br ?_ ?_<;>intro h45
   ·refine Bu (P6 H1 hc8 hw2 H3) ?_
    exact .ret (Ep (P6 H1 hc8 hw2 H3) false trivial)
   refine Bp<|.H1 (P6 H1 hc8 hw2 H3) ?_
   exact⟨by omega,(),trivial,wk (Zd (Dw ((i1:Int)+1)) H1 hc8 hw2 H3) []⟩
  have hi0:i1=0:=by omega
  have hxb:l[i1 - 1]? = some e1:=by rw[<- H1,hi0]
  have hw4:=Dw (i1 - 1:Int)
  refine C9 (P6 H1 hc8 hxb hw4) ?_
  refine Cl ?_ ?_<;>intro h45<;>simp[go_sem] at h45
  refine Bp<|.H1 (P6 H1 hc8 hxb hw4) ?_
  exact⟨by omega,(),trivial,wk (Zd (Dw ((i1:Int)+1)) H1 hc8 hxb hw4) []⟩
 refine Bt<|.R ?_
 exact .ret (Ep Dy true trivial)
def Adt:Bool:=(Em (Ls l hl)).choose
theorem Ac7:PP 254 [] [.mVeh l] [] (.lb (Adt l hl)):=(Em (Ls l hl)).choose_spec.1
end
section
variable (l:List He) (id:Int) (hl:l.length<=1000000)
include id hl
theorem Lr:Ct 260 [.mVeh l,.li id] (fun d:Int=>.li d) (fun d=>0<=d/\d<=l.length):=by
 refine Er Tryz.func260 ?_
 refine Bq ?_
 refine Bq<|.seq<|.block ?_
 refine Cj (fun (y1:Int)=>⟨[(0,.mVeh l),(1,.li id),(5,.li y1)],[]⟩) (fun y1=>0<=y1/\y1<=l.length) (fun y1=>(l.length - y1).toNat) (0) (wk Dy []) (by omega) fun y1 hy1=>?_
 refine Ca ?_
 by_cases hc2:y1<l.length
 ·have H1:l[y1.toNat]? = some l[y1.toNat]:=Aa (by omega)
  generalize l[y1.toNat]=e1 at H1
  refine Bu (Fa hc2 H1) ?_
  refine Br ?_ ?_<;>intro h18
  ·refine Bp<|.block ?_
   have hw2:=Dw (y1+1:Int)
   refine B0 (Jb hc2 H1 hw2) ?_
   refine⟨((y1+1)),?_,?_,wQ [] ?_ ?_⟩
   ·omega
   ·omega
   all_goals simp[go_sem,hc2,H1,hw2]
  refine Bt<|.H (Fa hc2 H1) ?_
  exact .ret (Ep (Fa hc2 H1) y1 hy1)
 refine Bu hc2 ?_
 refine Cl ?_ ?_<;>intro h18<;>simp[go_sem] at h18
 refine Bt<|.H hc2 ?_
 exact .ret (Ep hc2 y1 hy1)
def Ly:Int:=(Em (Lr l id hl)).choose
theorem Ac6:PP 260 [] [.mVeh l,.li id] [] (.li (Ly l id hl)):=(Em (Lr l id hl)).choose_spec.1
theorem Adu:0<=(Ly l id hl)/\(Ly l id hl)<=l.length:=(Em (Lr l id hl)).choose_spec.2
end
theorem Yf (l:List He) (a:H0) (v:He) (hl:l.length<=1000000):Ct 259 [.mVeh l,a.g,v.g] (fun d:List He×Int=>.tup [.mVeh d.1,.li d.2]) (fun d=>d.1.length<=9):=by
 refine Er Tryz.func259 ?_
 obtain⟨Y1,cY1,qY1⟩:=Em (Lr l v.id hl)
 have hp:=qY1
 refine Bq<|.seq ?_
 obtain⟨Y2,cY2,qY2⟩:=Em (Ls l hl)
 refine B8 Dy cY2 ?_
 refine Br ?_ ?_<;>intro h12
 ·refine Bq ?_
  exact .ret (Ep Dy ([],1) (by first | omega | (simp;done)))
 refine Bp<|.seq<|.R ?_
 refine Br ?_ ?_<;>intro h20
 ·refine Bq ?_
  exact .ret (Ep Dy ([],8) (by first | omega | (simp;done)))
 refine Bp<|.seq<|.R ?_
 refine Br ?_ ?_<;>intro h30
 ·refine Bq ?_
  exact .ret (Ep Dy ([],17) (by first | omega | (simp;done)))
 refine Bp<|.L Dy cY1<|.seq ?_
 by_cases hc8:Y1<l.length
 ·have H1:l[Y1.toNat]? = some l[Y1.toNat]:=Aa (by omega)
  generalize l[Y1.toNat]=e1 at H1
  refine C9 (Fa hc8 H1) ?_
  refine Br ?_ ?_<;>intro h48
  ·refine Bu (Fa hc8 H1) ?_
   exact .ret (Ep (Fa hc8 H1) ([],11) (by first | omega | (simp;done)))
  refine Bp<|.seq ?_
  obtain⟨Y3,cY3,qY3⟩:=Em (Uy l v.cls hl)
  obtain⟨Y4,cY4,qY4⟩:=Em (Ux a v.cls)
  refine Cw (fun K kk=>by simp[go_sem,hc8,H1];refine .l cY3 ?_;simp[go_sem,hc8,H1];refine .l cY4 ?_;simp[go_sem,hc8,H1];exact kk) ?_
  refine Br ?_ ?_<;>intro h57
  ·refine Bu (Fa hc8 H1) ?_
   exact .ret (Ep (Fa hc8 H1) ([],14) (by first | omega | (simp;done)))
  refine Bp<|.seq<|.H (Fa hc8 H1) ?_
  refine Br ?_ ?_<;>intro h60
  ·refine Bu (Fa hc8 H1) ?_
   exact .ret (Ep (Fa hc8 H1) ([],10) (by first | omega | (simp;done)))
  refine Bp ?_
  have hw2:=Dw (l.length+1:Int)
  refine Bu (Jb hc8 H1 hw2) ?_
  refine Bu (Jb hc8 H1 hw2) ?_
  refine Ds 2 rfl (by simp) He.t (l.length+1) ?_ fun R hR=>?_
  ·apply Ks
   ·repeat' first | exact Mi | exact Mh | exact Mg (x:=(⟨0,0⟩:He)) rfl | apply Ko | apply Kr | apply Kq
   rfl
  simp[go_sem]
  have H3:R[Y1.toNat]? = some R[Y1.toNat]:=Aa (by omega)
  generalize R[Y1.toNat]=e3 at H3
  refine Bu (Zd hc8 H1 hw2 hR H3) ?_
  have hw4:=Dw (Y1+1:Int)
  refine C9 (cj6 hc8 H1 hw2 hR H3 hw4) ?_
  refine Ds 2 rfl (by simp) He.t (l.length+1) ?_ fun S hS=>?_
  ·apply Ks
   ·repeat' first | exact Mi | exact Mh | exact Mg (x:=(⟨0,0⟩:He)) rfl | apply Ko | apply Kr | apply Kq | apply Qi | apply (fun h=>Qh (x:=(⟨_,_⟩:He)) h rfl)
   first | rfl | omega
  simp[go_sem]
  refine B3 (fun K kk=>by simp[go_sem,hc8,H1,hw2,hR,H3,hw4,hS];exact kk) ?_
  refine B2 Dy 2 ?_
  refine Bz (Fk ?_);simp[go_sem,hc8,H1,hw2,hR,H3,hw4,hS]
  exact⟨(S,0),by rfl,(by first | omega | (simp;done) | (simp;omega))⟩
 have hn:l[Y1.toNat]? = none:=Ar (by omega)
 refine C9 (Fa hc8 hn) ?_
 refine Cl ?_ ?_<;>intro h48<;>simp[go_sem] at h48
 refine Bp<|.seq ?_
 obtain⟨Y5,cY5,qY5⟩:=Em (Uy l v.cls hl)
 obtain⟨Y6,cY6,qY6⟩:=Em (Ux a v.cls)
 refine Cw (fun K kk=>by simp[go_sem,hc8,hn];refine .l cY5 ?_;simp[go_sem,hc8,hn];refine .l cY6 ?_;simp[go_sem,hc8,hn];exact kk) ?_
 refine Br ?_ ?_<;>intro h57
 ·refine Bu (Fa hc8 hn) ?_
  exact .ret (Ep (Fa hc8 hn) ([],14) (by first | omega | (simp;done)))
 refine Bp<|.seq<|.H (Fa hc8 hn) ?_
 refine Br ?_ ?_<;>intro h60
 ·refine Bu (Fa hc8 hn) ?_
  exact .ret (Ep (Fa hc8 hn) ([],10) (by first | omega | (simp;done)))
 refine Bp ?_
 have hw5:=Dw (l.length+1:Int)
 refine Bu (Jb hc8 hn hw5) ?_
 refine Bu (Jb hc8 hn hw5) ?_
 refine Ds 2 rfl (by simp) He.t (l.length+1) ?_ fun R hR=>?_
 ·apply Ks
  ·repeat' first | exact Mi | exact Mh | exact Mg (x:=(⟨0,0⟩:He)) rfl | apply Ko | apply Kr | apply Kq
  rfl
 simp[go_sem]
 have H6:R[Y1.toNat]? = some R[Y1.toNat]:=Aa (by omega)
 generalize R[Y1.toNat]=e6 at H6
 refine Bu (Zd hc8 hn hw5 hR H6) ?_
 have hw7:=Dw (Y1+1:Int)
 refine C9 (cj6 hc8 hn hw5 hR H6 hw7) ?_
 refine Ds 2 rfl (by simp) He.t (l.length+1) ?_ fun S hS=>?_
 ·apply Ks
  ·repeat' first | exact Mi | exact Mh | exact Mg (x:=(⟨0,0⟩:He)) rfl | apply Ko | apply Kr | apply Kq | apply Qi | apply (fun h=>Qh (x:=(⟨_,_⟩:He)) h rfl)
  first | rfl | omega
 simp[go_sem]
 refine B3 (fun K kk=>by simp[go_sem,hc8,hn,hw5,hR,H6,hw7,hS];exact kk) ?_
 refine B2 Dy 2 ?_
 refine Bz (Fk ?_);simp[go_sem,hc8,hn,hw5,hR,H6,hw7,hS]
 exact⟨(S,0),by rfl,(by first | omega | (simp;done) | (simp;omega))⟩
structure Kx where
  ag:Int
  num:Int
  se:Int
def Kx.t (x:Kx):List T:=[.li x.ag,.li x.num,.li x.se]
def Kx.a (fr:Bool) (x:Kx):List AV:=[.li x.ag,.li x.num,.li x.se]
abbrev Kx.g (x:Kx):AV:=.agg (x.a false)
attribute [go_sem] Kx.g
structure Gt where
  tok:Int
  fix:Int
  grp:Int
  lea:Int
  mos:Int
  dat:Int
def Gt.t (x:Gt):List T:=[.li x.tok,.li x.fix,.li x.grp,.li x.lea,.li x.mos,.li x.dat]
def Gt.a (fr:Bool) (x:Gt):List AV:=[.li x.tok,.li x.fix,.li x.grp,.li x.lea,.li x.mos,.li x.dat]
abbrev Gt.g (x:Gt):AV:=.agg (x.a false)
attribute [go_sem] Gt.g
structure Nn where
  fix:Int
  grp:Int
  lea:Int
  mos:Int
  dat:Int
def Nn.t (x:Nn):List T:=[.li x.fix,.li x.grp,.li x.lea,.li x.mos,.li x.dat]
def Nn.a (fr:Bool) (x:Nn):List AV:=[.li x.fix,.li x.grp,.li x.lea,.li x.mos,.li x.dat]
abbrev Nn.g (x:Nn):AV:=.agg (x.a false)
attribute [go_sem] Nn.g
abbrev Rw (l:List (List D0)):List (List T):=l.map fun x=>[.sl 4 (Q4 x)]
abbrev Wa (l:List (List (List D0))):List (List T):=l.map fun x=>[.sl 1 (Rw x)]
abbrev Ach (l:List (Int×Int)):List (List T):=l.map fun x=>[.li x.1,.li x.2]
structure Wz where
  ses:List (List D0)
  feed:List D0
def Wz.t (x:Wz):List T:=[.sl 1 (Rw x.ses),.sl 4 (Q4 x.feed)]
def Wz.a (fr:Bool) (x:Wz):List AV:=[.imm fr 1 (Rw x.ses),.imm fr 4 (Q4 x.feed)]
abbrev Wz.g (x:Wz):AV:=.agg (x.a false)
attribute [go_sem] Wz.g
attribute [go_sem] Kx.t Kx.a Gt.t Gt.a Nn.t Nn.a Wz.t Wz.a
theorem M5 (a:H0) (h1:a.sec.length<=1000000) (h2:a.lims.length<=1000000):PP 110 [] [a.g] [] (a.g):=by
 refine Ei Tryz.func110 ?_
 refine Bw ?_
 refine Cc (fun K kk=>by simp[go_sem];refine .lo (Ey.froz (Gf _ (by simpa using h1) (by simp[T.plain]))) rfl (by simp) ?_;simp[go_sem];exact kk) ?_
 refine Cc (fun K kk=>by simp[go_sem];refine .lo (Ey.froz (Hh _ (by simpa using h2) (by simp[T.plain]))) rfl (by simp) ?_;simp[go_sem];exact kk) ?_
 refine Bw ?_
 exact .ret (rL Dy)
theorem U5 (r:Ew) (h:r.legs.length<=1000000):PP 186 [] [r.g] [] (r.g):=by
 refine Ei Tryz.func186 ?_
 refine Bw ?_
 refine Cc (fun K kk=>by simp[go_sem];refine .lo (Ey.froz (Mc _ (by simpa using h) (by simp[T.plain,G0.t]))) rfl (by simp) ?_;simp[go_sem];exact kk) ?_
 refine Bw ?_
 exact .ret (rL Dy)
theorem S7 (s:Hz) (h1:s.ctl.lights.length<=1000000) (h2:s.ctl.nxt.length<=1000000):PP 126 [] [s.g] [] (s.g):=by
 refine Ei Tryz.func126 ?_
 refine Bw ?_
 refine Cc (fun K kk=>by simp[go_sem];refine .lo (Ey.froz (Sk _ (by simpa using h1) (by simp[T.plain,Fy.t]))) rfl (by simp) ?_;simp[go_sem];exact kk) ?_
 refine Cc (fun K kk=>by simp[go_sem];refine .lo (Ey.froz (Hh _ (by simpa using h2) (by simp[T.plain]))) rfl (by simp) ?_;simp[go_sem];exact kk) ?_
 refine Bw ?_
 exact .ret (rL Dy)
section
variable (c:Fc) (a:Int) (h:c.ags.length<=1000000)
include a h
theorem Mb:Ct 33 [c.g,.li a] (fun d:Int=>.li d) (fun d=>True):=by
 refine Er Tryz.func33 ?_
 refine Bq ?_
 refine Bq<|.seq ?_
 refine Bq<|.block ?_
 refine Bs c.ags.length (fun i1 (y1:Int)=>⟨[(1,.li a),(5,.li y1),(9,.mAg c.ags),(10,.li c.ags.length),(11,.li i1)],[]⟩) (fun i1 y1=>True) (0) (wk Dy []) (trivial) fun i1 y1 hi1 hy1=>?_
 refine Bq<|.seq ?_
 refine Br ?_ ?_<;>intro h12
 ·refine Bp<|.seq<|.block ?_
  have H1:c.ags[i1]? = some c.ags[i1]:=Aa (by omega)
  generalize c.ags[i1]=e1 at H1
  refine Bu H1 ?_
  refine Bu H1 ?_
  refine Br ?_ ?_<;>intro h18
  ·refine B0 H1 ?_
   refine B0 H1 ?_
   exact⟨by omega,(IntKind.i64.wrap (y1+e1.se)),trivial,wk (Fa (Dw ((i1:Int)+1)) H1) []⟩
  refine Bp<|.H1 H1 ?_
  exact⟨by omega,(y1),trivial,wk (Fa (Dw ((i1:Int)+1)) H1) []⟩
 refine Bt<|.R ?_
 exact .ret (Ep Dy y1 trivial)
def Mj:Int:=(Em (Mb c a h)).choose
theorem S0:PP 33 [] [c.g,.li a] [] (.li (Mj c a h)):=(Em (Mb c a h)).choose_spec.1
end
theorem R7 (c:Fc) (s:Int) (h:c.ags.length<=1000000):Ct 36 [c.g,.li s] (fun d:Int=>.li d) (fun d=>True):=by
 refine Er Tryz.func36 ?_
 refine Bq<|.seq ?_
 refine Bq<|.block ?_
 refine Bs c.ags.length (fun i1 (y1:Int)=>⟨[(1,.li y1),(8,.mAg c.ags),(9,.li c.ags.length),(10,.li i1)],[]⟩) (fun i1 y1=>True) (s) (wk Dy []) (trivial) fun i1 y1 hi1 hy1=>?_
 refine Bq<|.seq ?_
 refine Br ?_ ?_<;>intro h11
 ·refine Bp<|.seq<|.block ?_
  have H1:c.ags[i1]? = some c.ags[i1]:=Aa (by omega)
  generalize c.ags[i1]=e1 at H1
  refine Bu H1<|.seq ?_
  refine Bu H1 ?_
  refine Br ?_ ?_<;>intro h18
  ·refine Bu H1 ?_
   exact .ret (Ep H1 i1 trivial)
  refine Bp<|.H1 H1 ?_
  refine B0 H1 ?_
  exact⟨by omega,(IntKind.i64.wrap (y1 - e1.se)),trivial,wk (Fa (Dw ((i1:Int)+1)) H1) []⟩
 refine Bt<|.R ?_
 exact .ret (Ep Dy 0 trivial)
theorem Agp (a:Int) (s:Int) (b:List Int) (h:b.length<=1000):Ct 257 [.li a,.li s,.mY b] (fun d:List Int=>.mY d) (fun d=>d.length=b.length+2/\(By b->By d)):=by
 refine Er Tryz.func257 ?_
 have e2:2+b.length=b.length+1+1:=by omega
 refine Bq ?_
 have hw1:=Dw (2+b.length:Int)
 refine Bu hw1 ?_
 refine Bu hw1 ?_
 refine Bu hw1 ?_
 refine B2 Dy 0 ?_
 refine Bz (Fk ?_);simp[go_sem,hw1,e2]
 exact⟨(List.replicate 0 0)++([IntKind.u8.wrap a,IntKind.u8.wrap s])++b,by rfl,⟨by simp,fun hB=>.app (.app (.rep 0) (.cons (Rn a) (.u8 s))) hB⟩⟩
theorem Adb (l:List F6) (s:Int):PP 232 [] [.mTok l,.li s] [] (.lb (Im l s)):=by
 refine Ei Tryz.func232 ?_
 refine Bw ?_
 rcases (by omega:s<0\/(0<=s/\(l.length:Int)<=s)\/(0<=s/\s<l.length)) with hs | hs | hs
 ·replace hs:¬0<=s:=by omega
  refine Cc (fun K kk=>by simp[go_sem,hs];repeat first | exact kk | refine aK ?_) ?_
  refine B6 ?_
  first | (simp[go_sem,Im,hs,hx];done) | (simp[go_sem,Im,hs];done)
 ·refine Cc (fun K kk=>by simp[go_sem,hs];repeat first | exact kk | refine aK ?_) ?_
  refine B6 ?_
  first | (simp[go_sem,Im,hs,hx];done) | (simp[go_sem,Im,hs];done)
 have hx:l[s.toNat]? = some l[s.toNat]:=Aa (by omega)
 generalize l[s.toNat]=t at hx
 refine Cc (fun K kk=>by simp[go_sem,hs];repeat first | exact kk | refine aK ?_) ?_
 refine B6 ?_
 (simp[go_sem,Im,hs,hx];done)
section
variable (j:Ga) (h:j.phs.length<=1000000)
include h
theorem Lg:∃d:Gp,PP 54 [] [j.g] [.row 3 1 false false (tI d.col),.row 3 1 false false (tI d.cnt)] (.agg [.lb d.fl,.lb d.ov,.own 0 d.col.length,.own 1 d.cnt.length])/\(d.col.length=j.phs.length/\d.cnt.length=j.phs.length):=by
 refine Nk (D:=Gp) (F:=fun d=>.agg [.lb d.fl,.lb d.ov,.own 0 d.col.length,.own 1 d.cnt.length]) (S:=fun d=>[.row 3 1 false false (tI d.col),.row 3 1 false false (tI d.cnt)]) (Q:=fun d=>d.col.length=j.phs.length/\d.cnt.length=j.phs.length) Tryz.func54 rfl rfl rfl (by simp[Tryz.ntmps54]) ?_
 refine Bq ?_
 refine C9 Dy ?_
 exact .ret ⟨⟨true,false,List.replicate j.phs.length 0,List.replicate j.phs.length 0⟩,rW Dy [2,3],(by simp)⟩
def E5:Gp:=(Lg j h).choose
theorem Xp:PP 54 [] [j.g] [.row 3 1 false false (tI (E5 j h).col),.row 3 1 false false (tI (E5 j h).cnt)] (.agg [.lit (.bool (E5 j h).fl),.lit (.bool (E5 j h).ov),.own 0 ((E5 j h).col).length,.own 1 ((E5 j h).cnt).length]):=(Lg j h).choose_spec.1
theorem Z8:(E5 j h).col.length=j.phs.length/\(E5 j h).cnt.length=j.phs.length:=(Lg j h).choose_spec.2
end
section
variable (s:F3) (b:Bool) (h:s.ended.length<=1000000)
include b h
theorem Pk:Ct 154 [s.g,.lb b] (fun d:F3=>d.g) (fun d=>d.ended=s.ended):=by
 refine Er Tryz.func154 ?_
 refine Bq ?_
 refine B8 Dy (K3 s (by assumption))<|.seq ?_
 refine Bq ?_
 refine Br ?_ ?_<;>intro h12
 ·refine Ci ?_
  refine Bq ?_
  exact .ret (Ep Dy ⟨s.ph,IntKind.i64.wrap ((if 59<s.gr then 59 else s.gr)+1),s.ended⟩ rfl)
 refine Bp<|.R ?_
 exact .ret (Ep Dy s rfl)
def L3:F3:=(Em (Pk s b h)).choose
theorem Va:PP 154 [] [s.g,.lb b] [] (.agg ((L3 s b h).a false)):=(Em (Pk s b h)).choose_spec.1
theorem Ve:(L3 s b h).ended=s.ended:=(Em (Pk s b h)).choose_spec.2
end
theorem An6 (c:No) (h:c.lights.length<=1000000):Ct 221 [c.g] (fun d:Int=>.li d) (fun d=>True):=by
 refine Er Tryz.func221 ?_
 refine Bq ?_
 refine Bq<|.seq ?_
 refine Bq<|.block ?_
 refine Bs c.lights.length (fun i1 (y1:Int)=>⟨[(3,.li y1),(7,.mLight c.lights),(8,.li c.lights.length),(9,.li i1)],[]⟩) (fun i1 y1=>True) (0) (wk Dy []) (trivial) fun i1 y1 hi1 hy1=>?_
 refine Bq<|.seq ?_
 refine Br ?_ ?_<;>intro h10
 ·refine Bp<|.seq<|.block ?_
  have H1:c.lights[i1]? = some c.lights[i1]:=Aa (by omega)
  generalize c.lights[i1]=e1 at H1
  refine Bu H1 ?_
  refine Bu H1 ?_
  refine Br ?_ ?_<;>intro h16
  ·refine B0 H1 ?_
   refine B0 H1 ?_
   exact⟨by omega,(Ex .or .i64 y1 (IntKind.i64.wrap (1*2 ^ min (Int.toNat i1) 64))),trivial,wk (Fa (Dw ((i1:Int)+1)) H1) []⟩
  refine Bp<|.H1 H1 ?_
  exact⟨by omega,(y1),trivial,wk (Fa (Dw ((i1:Int)+1)) H1) []⟩
 refine Bt<|.R ?_
 exact .ret (Ep Dy y1 trivial)
section
mutual
def AV.sel1 (id:Nat) (ts:List T):AV->AV
 | .ptr i off=>bif i == id then .iptr false ts off else .ptr i off
 | .agg cs=>.agg (Q5 id ts cs)
 | .tup cs=>.tup (Q5 id ts cs)
 | .fn f cs=>.fn f (Q5 id ts cs)
 | .gd t v=>.gd t (v.sel1 id ts)
 | .any=>.any
 | .lit v=>.lit v
 | .nil k=>.nil k
 | .imm fr k es=>.imm fr k es
 | .own i n=>.own i n
 | .sub i n lo m=>.sub i n lo m
 | .rptr i n j off=>.rptr i n j off
 | .bsl i n=>bif i == id then .any else .bsl i n
 | .iptr fr cs off=>.iptr fr cs off
def Q5 (id:Nat) (ts:List T):List AV->List AV
 | []=>[]
 | c::cs=>c.sel1 id ts::Q5 id ts cs
end
section
variable {id:Nat} {ts:List T}
theorem Abd:∀(cs:List AV) (i:Nat),(Q5 id ts cs)[i]? = (cs[i]?).map (AV.sel1 id ts)
 | [],i=>by simp[Q5]
 | c::cs,0=>by simp[Q5]
 | c::cs,i+1=>by simp[Q5,Abd cs i]
theorem M9:∀(cs:List AV),(Q5 id ts cs).length=cs.length
 | []=>rfl
 | c::cs=>by simp[Q5,M9 cs]
end
def Ob.sel1 (id:Nat) (ts:List T):Ob->Ob
 | .box ty cs=>.box ty (Q5 id ts cs)
 | x=>x
def Aic (id:Nat) (ts:List T):List (Nat×AV)->List (Nat×AV)
 | []=>[]
 | p::l=>(p.1,p.2.sel1 id ts)::Aic id ts l
theorem Afv (id:Nat) (ts:List T):∀(l:List (Nat×AV)) (t:Nat),Ez (Aic id ts l) t=(Ez l t).sel1 id ts
 | [],t=>rfl
 | p::l,t=>by
  simp only[Aic,Ez]
  cases p.1 == t
  ·exact Afv id ts l t
  rfl
def Acj (id:Nat) (ts:List T):List Ob->List Ob
 | []=>[]
 | x::l=>x.sel1 id ts::Acj id ts l
theorem Aid (id:Nat) (ts:List T):∀(l:List Ob) (i:Nat),(Acj id ts l).getD i .gone=(l.getD i .gone).sel1 id ts
 | [],i=>by simp[Acj,Ob.sel1]
 | x::l,0=>by simp[Acj]
 | x::l,i+1=>by have:=Aid id ts l i;simp[Acj] at this ⊢;exact this
def St.sel1 (st:St) (id:Nat) (ts:List T):St:=⟨Aic id ts st.sl,O7 (Acj id ts st.ob) id .gone⟩
theorem Wg (st:St) (id:Nat) (ts:List T) (i:Nat):(st.sel1 id ts).o i=if i=id then .gone else (st.o i).sel1 id ts:=by
 show (O7 (Acj id ts st.ob) id .gone).getD i .gone=_
 rw[We,Aid]
 rfl
variable {ty:TypeId} {cs:List AV} {ts:List T}
theorem Eo.sel1 {E:Gi} {β:Nat->Option Nat} {st:St} {a:Act} {w:World} (r:Eo E β st a w) {id:Nat} (ho:st.o id=.box ty cs) (ht:ttL cs=some ts) (hE:E.o0 id=.gone):Eo E β (st.sel1 id ts) a w:=by
 have hlv:∀b,(E.C β (st.sel1 id ts) w).lives b->(E.C β st w).lives b:=by
  rintro b ⟨i,h1,h2⟩
  have h2:((st.sel1 id ts).o i).live:=h2
  rw[Wg] at h2
  by_cases e:i=id
  ·rw[if_pos e] at h2;exact h2.elim
  rw[if_neg e] at h2
  refine⟨i,h1,?_⟩
  show (st.o i).live
  cases hq:st.o i<;>rw[hq] at h2<;>exact h2
 have hS:∀fr b,(E.C β st w).S fr b->(E.C β (st.sel1 id ts) w).S fr b:=fun fr b ⟨h1,h2,h3⟩=>⟨h1,fun h=>h2 (hlv b h),h3⟩
 have hT:∀fr t u,Gh w.heap ((E.C β st w).S fr) t u->Gh w.heap ((E.C β (st.sel1 id ts) w).S fr) t u:=fun fr t u h=>h.keep (fun _ _=>rfl) (hS fr)
 obtain⟨b,cur,q1,q2,q3,q4⟩:J8 (E.C β st w) id (.box ty cs):=by have:=r.ob id;rwa[ho] at this
 have q1:β id=some b:=q1
 have hSb:(E.C β (st.sel1 id ts) w).S false b:=by
  obtain⟨g1,g2⟩:=r.rng id b (by rw[ho];simp) q1
  refine⟨g1,?_,g2.elim .inl fun h=>.inr (.inl h)⟩
  rintro⟨i,h1,h2⟩
  have h1:β i=some b:=h1
  have h2:((st.sel1 id ts).o i).live:=h2
  rw[Wg] at h2
  by_cases e:i=id
  ·rw[if_pos e] at h2;exact h2
  rw[if_neg e] at h2
  refine e (r.inj i id b (fun hg=>?_) (by rw[ho];simp) h1 q1)
  rw[hg] at h2
  exact h2
 have hrow:∀i ty' k fr fz es,st.o i=.row ty' k fr fz es->(st.sel1 id ts).o i=.row ty' k fr fz es:=fun i ty' k fr fz es h=>by
  rw[Wg,if_neg (fun e=>by subst e;rw[ho] at h;cases h),h]
  rfl
 have hV:∀(c:AV) (u:Value),Ea (E.C β st w) c u->Ea (E.C β (st.sel1 id ts) w) (c.sel1 id ts) u:=by
  intro c u h
  have hL:∀(cs:List AV) (us:Array Value),(∀(i:Nat) (c:AV) (u:Value),cs[i]? = some c->us[i]? = some u->Ea (E.C β (st.sel1 id ts) w) (c.sel1 id ts) u)->∀(i:Nat) (c:AV) (u:Value),(Q5 id ts cs)[i]? = some c->us[i]? = some u->Ea (E.C β (st.sel1 id ts) w) c u:=fun cs us ih i c u hc hu=>by
   rw[Abd] at hc
   cases hx:cs[i]? with
   | none=>rw[hx] at hc;cases hc
   | some x =>
    rw[hx] at hc
    simp only[Ai,Option.some.injEq] at hc
    subst hc
    exact ih i x u hx hu
  induction h with
  | any u=>exact .any u
  | lit v=>exact .lit v
  | nil k A=>exact .nil k A
  | imm fr k es u h=>exact .imm _ _ _ _ (hT fr _ _ h)
  | own i n u h =>
   obtain⟨h1,ty',k,fr,fz,es,h2,h3⟩:=h
   exact .own i n u ⟨h1,ty',k,fr,fz,es,hrow _ _ _ _ _ _ h2,h3⟩
  | sub i n lo m u h =>
   obtain⟨h1,ty',k,fr,fz,es,h2,h3⟩:=h
   exact .sub i n lo m u ⟨h1,ty',k,fr,fz,es,hrow _ _ _ _ _ _ h2,h3⟩
  | rptr i n j off u h =>
   obtain⟨h1,ty',k,fr,fz,es,h2,h3⟩:=h
   exact .rptr i n j off u ⟨h1,ty',k,fr,fz,es,hrow _ _ _ _ _ _ h2,h3⟩
  | ptr i off u h =>
   obtain⟨ty',cs',b',h1,h2,rfl⟩:=h
   have h1:st.o i=_:=h1
   have h2:β i=some b':=h2
   by_cases e:i=id
   ·subst e
    rw[q1] at h2
    injection h2 with h2
    subst h2
    have hcell:∀(j:Nat) (x:T),ts[j]? = some x->cur[0+j]? = some ((cur[j]?).getD undef)/\Gh w.heap ((E.C β (st.sel1 i ts) w).S false) x ((cur[j]?).getD undef):=fun j x hx=>by
     obtain⟨c,g1,g2⟩:=Ad4 ht j x hx
     have hj:j<cur.size:=Nat.lt_of_lt_of_le (Ab.1 g1).1 q3
     have g3:cur[j]? = some cur[j]:=Al hj
     obtain⟨g4,g5⟩:=q4 j c _ g1 g3
     rw[Bm,g3]
     refine⟨rfl,?_⟩
     simp only[Bh]
     generalize cur[j]=u at g4 g5
     cases g4 with
     | lit v=>simp only[Yu,Option.some.injEq] at g2;subst g2;exact .lit _ g5
     | nil k A=>simp only[Yu,Option.some.injEq] at g2;subst g2;exact .nil _ _ _
     | imm fr k es u h=>simp only[Yu,Option.some.injEq] at g2;subst g2;exact VC.T_weak (C:=E.C β (st.sel1 i ts) w) (g:=false) (hT fr _ _ h) fun e=>by cases e
     | fn f cs us k1 k2 =>
      obtain⟨fr,ts',off',rfl,rfl⟩:=Aju g2
      exact VC.T_weak (C:=E.C β (st.sel1 i ts) w) (g:=false) (hT fr _ _ (Ea.fn1 (.fn f _ us k1 k2))) fun e=>by cases e
     | _=>cases g2
    have:=Ea.iptr (C:=E.C β (st.sel1 i ts) w) false ts off b 0 cur ty (0,0) (fun j=>(cur[j]?).getD undef) q2 hSb hcell
    rw[Bm] at this
    simp only[AV.sel1,beq_self_eq_true,cond_true]
    exact this
   have e':(i == id)=false:=by simpa using e
   simp only[AV.sel1,e',cond_false]
   exact .ptr i off _ ⟨ty',Q5 id ts cs',b',by show (st.sel1 id ts).o i=_;rw[Wg,if_neg e,h1];rfl,h2,rfl⟩
  | bsl i n u h =>
   obtain⟨ty',cs',b',c',h1,h2,h3⟩:=h
   have h1:st.o i=_:=h1
   by_cases e:i=id
   ·subst e
    simp only[AV.sel1,beq_self_eq_true,cond_true]
    exact .any _
   have e':(i == id)=false:=by simpa using e
   simp only[AV.sel1,e',cond_false]
   exact .bsl i n _ ⟨ty',Q5 id ts cs',b',c',by show (st.sel1 id ts).o i=_;rw[Wg,if_neg e,h1];rfl,h2,h3⟩
  | iptr fr cs off b o cur ty fz us h1 h2 h3=>exact .iptr fr cs off b o cur ty fz us h1 (hS fr b h2) fun j x hx=>⟨(h3 j x hx).1,hT fr _ _ (h3 j x hx).2⟩
  | agg cs us h1 h2 ih=>exact .agg _ _ (by rw[M9];exact h1) (hL cs us ih)
  | tup cs us h1 h2 ih=>exact .tup _ _ (by rw[M9];exact h1) (hL cs us ih)
  | fn f cs us h1 h2 ih=>exact .fn f _ _ (by rw[M9];exact h1) (hL cs us ih)
  | gd t v u h1 h2 ih=>exact .gd t _ u (fun e=>ih e) h2
 have hng:∀i,(st.sel1 id ts).o i≠.gone->st.o i≠.gone:=fun i h e=>h (by rw[Wg,e];split<;>rfl)
 refine⟨r.sz,fun t=>?_,r.df,fun i=>?_,fun i j b hi hj=>r.inj i j b (hng i hi) (hng j hj),fun i b hi=>r.rng i b (hng i hi),r.kp,⟨fun i ty' cs' h=>?_,fun i ty' k fr fz es h=>?_⟩,r.kb,r.dk⟩
 ·show Ea _ (Ez (Aic id ts st.sl) t) _
  rw[Afv]
  exact hV _ _ (r.sl t)
 ·rw[Wg]
  by_cases e:i=id
  ·rw[if_pos e];trivial
  rw[if_neg e]
  have:=r.ob i
  cases hq:st.o i with
  | gone=>trivial
  | row ty' k fr fz es =>
   rw[hq] at this
   obtain⟨h1,h2⟩:=this
   refine⟨h1,?_⟩
   cases hb:(E.C β (st.sel1 id ts) w).β i with
   | none =>
    have hb:β i=none:=hb
    have h2:(match β i with | none=>es=[] | some b=>_):=h2
    rw[hb] at h2;exact h2
   | some b =>
    have hb:β i=some b:=hb
    have h2:(match β i with | none=>es=[] | some b=>_):=h2
    rw[hb] at h2
    obtain⟨cur,c,g1,g2,g3,g4,g5⟩:=h2
    exact⟨cur,c,g1,g2,g3,g4,fun i e j x he hx=>let ⟨u,p1,p2⟩:=g5 i e j x he hx;⟨u,p1,hT _ _ _ p2⟩⟩
  | box ty' cs' =>
   rw[hq] at this
   obtain⟨b,cur,g1,g2,g3,g4⟩:=this
   refine⟨b,cur,g1,g2,by rw[M9];exact g3,fun j c u hc hu=>?_⟩
   rw[Abd] at hc
   cases hx:cs'[j]? with
   | none=>rw[hx] at hc;cases hc
   | some x =>
    rw[hx] at hc
    simp only[Ai,Option.some.injEq] at hc
    subst hc
    exact⟨hV _ _ (g4 j x u hx hu).1,(g4 j x u hx hu).2⟩
 ·obtain⟨⟨cs2,h1⟩,h2⟩:=r.ct.box i ty' cs' h
  have e:i≠id:=fun e=>by subst e;rw[hE] at h;cases h
  have h1:st.o i=_:=h1
  exact⟨⟨_,by show (st.sel1 id ts).o i=_;rw[Wg,if_neg e,h1];rfl⟩,h2⟩
 obtain⟨fr',fz',es',h1,h2⟩:=r.ct.row i ty' k fr fz es h
 exact⟨fr',fz',es',hrow _ _ _ _ _ _ h1,h2⟩
section
variable {P:Program} {n m:Nat} {st:St} {K:Exit->St->Prop} {c:Code}
theorem VW.sel1 (id:Nat) (ho:st.o id=.box ty cs) (ht:ttL cs=some ts) (hm:m<=id) (hv:VW P n m c (st.sel1 id ts) K):VW P n m c st K:=fun E F hE hF β a w r =>
 hv E F hE hF β a w (r.sel1 ho ht (hE.2 id hm))
theorem VX.sel1 (id:Nat) (ho:st.o id=.box ty cs) (ht:ttL cs=some ts) (hm:m<=id) (hv:VX P n m c (st.sel1 id ts) K):VX P n m c st K:=by
 obtain⟨e,s,h1,h2⟩:=hv
 exact⟨e,s,.sel1 id ho ht hm h1,h2⟩
end
attribute [go_sem] St.sel1 Aic Acj Q5 AV.sel1 Ob.sel1
theorem Wc (x:T):Aaq [.iptr false [x] 0]:=by
 constructor<;>intros<;>first | rfl | exact⟨trivial,trivial⟩
theorem Ta:Aaq []:=by
 constructor<;>intros<;>first | rfl | exact trivial
end
theorem Yo (now:Int) (r:Ew):PP 169 [] [r.g,.iptr false [.li now] 0] [] (.lb (decide (now<=r.unt))):=by
 refine Ei Tryz.func169 ?_
 iterate 2 refine Bw ?_
 exact .ret (rL Dy)
theorem Km (r:Ew):PP 193 [] [r.g] [] (.lb (true)):=by
 refine Ei Tryz.func193 ?_
 iterate 2 refine Bw ?_
 exact .ret (rL Dy)
theorem Xo (v:Int) (r:Ew):PP 238 [] [r.g,.iptr false [.li v] 0] [] (.lb (r.veh != v)):=by
 refine Ei Tryz.func238 ?_
 iterate 2 refine Bw ?_
 exact .ret (rL Dy)
theorem Yq (i:Int) (r:Ew):PP 245 [] [r.g,.iptr false [.li i] 0] [] (.lb (r.id != i)):=by
 refine Ei Tryz.func245 ?_
 iterate 2 refine Bw ?_
 exact .ret (rL Dy)
theorem Zm (i:Int) (r:Ew):PP 268 [] [r.g,.iptr false [.li i] 0] [] (.lb (r.id == i)):=by
 refine Ei Tryz.func268 ?_
 iterate 2 refine Bw ?_
 exact .ret (rL Dy)
theorem Yp (j:Int) (g:G0):PP 179 [] [g.g,.iptr false [.li j] 0] [] (.lb (g.j == j)):=by
 refine Ei Tryz.func179 ?_
 iterate 2 refine Bw ?_
 exact .ret (rL Dy)
theorem Sz (t:F6):PP 275 [] [t.g] [] (.lb (!t.used)):=by
 refine Ei Tryz.func275 ?_
 iterate 2 refine Bw ?_
 exact .ret (rL Dy)
theorem Ac9 (x:Fy):PP 250 [] [x.g] [] (.lb (x.l != 0)):=by
 refine Ei Tryz.func250 ?_
 iterate 2 refine Bw ?_
 exact .ret (rL Dy)
theorem M4 (l:List Ew) (fid:FuncId) (caps:List AV) (p:Ew->Bool) (hl:l.length<=1000000) (hg:∀r∈l,r.legs.length<=1000000) (hc:Aaq caps) (hp:∀t,PP fid [] (t.g::caps) [] (.lb (p t))):PP 168 [] [.mReq l,.fn fid caps] [] (.mReq (l.filter p)):=by
 refine Ei Tryz.func168 ?_
 refine Cc (fun K kk=>by simp[go_sem,hc.pass,hc.passC,hc.bor,hc.low];exact kk) ?_
 refine Cc (fun K kk=>by simp[go_sem,hc.pass,hc.passC,hc.bor,hc.low];exact kk)<|.seq ?_
 refine Cc (fun K kk=>by simp[go_sem,hc.pass,hc.passC,hc.bor,hc.low];exact kk)<|.block ?_
 refine Cn 5 164 5 (by decide) (k':=5) (by simp[go_sem]) ?_
 simp[go_sem]
 refine Cb l.length (fun i1=>⟨[(1,.fn fid caps),(5,.own 0 ((l.take i1).filter p).length),(8,.mReq l),(9,.li l.length),(10,.li i1)],[.row 164 5 false false (G6 ((l.take i1).filter p))]⟩) (wQ [0] ?_ ?_) fun i1 hi1=>?_
 ·simp[go_sem,hc.ren]
 ·simp[go_sem,hc.ren]
 refine Cc (fun K kk=>by simp[go_sem,hc.pass,hc.passC,hc.bor,hc.low];exact kk)<|.seq ?_
 refine B7 ?_ ?_<;>intro h11
 ·have hx:l[i1]? = some l[i1]:=Aa (by omega)
  generalize l[i1]=e at hx
  have hf:((l.take i1).filter p).length<=i1:=Ak (Az _ _) (by simp;omega)
  have ht:List.take (i1+1) l=List.take i1 l++[e]:=by rw[List.take_add_one,hx];rfl
  refine Bv<|.seq<|.block<|.H hx ?_
  refine Cc (fun K kk=>by simp[go_sem,hc.pass,hc.passC,hc.bor,hc.low];refine .lo (hp e) (by simp[go_sem,hc.low]) (by simp[AV.cln,Fb]) ?_;simp[go_sem,hc.pass,hc.passC,hc.bor,hc.low];exact kk) ?_
  refine B7 ?_ ?_<;>intro h16
  ·refine VW.S1 (fun K kk=>by simp[go_sem,hc.pass,hc.passC,hc.bor,hc.low];refine .l (U5 e (hg e (Ac hx))) ?_;simp[go_sem,hc.pass,hc.passC,hc.bor,hc.low];(repeat first | exact kk | refine aK ?_)) ?_
   refine VW.S1 (fun K kk=>by simp[go_sem,hc.pass,hc.passC,hc.bor,hc.low];exact kk) ?_
   refine⟨by omega,wQ [0] ?_ ?_⟩
   ·simp[go_sem,Dw ((i1:Int)+1),hc.ren,ht,List.filter_append,h11,h16]
   simp[go_sem,hc.ren,ht,List.filter_append,h11,h16]
  refine Bv<|.S1 (fun K kk=>by simp[go_sem,hc.pass,hc.passC,hc.bor,hc.low];exact kk) ?_
  refine⟨by omega,wQ [0] ?_ ?_⟩
  ·simp[go_sem,Dw ((i1:Int)+1),hc.ren,ht,List.filter_append,h11,h16]
  simp[go_sem,hc.ren,ht,List.filter_append,h11,h16]
 refine B5<|.S (fun K kk=>by simp[go_sem,hc.pass,hc.passC,hc.bor,hc.low];exact kk) ?_
 have he:l.take i1=l:=Bf (by omega)
 simp only[he]
 refine Ch 0 (by simp[go_sem,F5]) ?_
 simp[go_sem]
 exact .ret (rL Dy)
theorem Aa8 (l:List Ew) (now:Int) (hl:l.length<=1000000) (hg:∀r∈l,r.legs.length<=1000000):PP 148 [] [.mReq l,.li now] [] (.mReq (l.filter fun r=>decide (now<=r.unt))):=by
 refine Ei Tryz.func148 ?_
 refine Bw ?_
 refine VW.sel1 0 rfl rfl (by simp) ?_
 simp[go_sem]
 refine Cc (fun K kk=>by simp[go_sem];refine .lo (M4 l _ [.iptr false [.li now] 0] (fun r=>decide (now<=r.unt)) hl hg (Wc _) (Yo now)) (by simp[go_sem]) (by simp[AV.cln,Fb]) ?_;simp[go_sem];exact kk) ?_
 exact .ret (rL Dy)
theorem Ki (l:List Ew) (v:Int) (hl:l.length<=1000000) (hg:∀r∈l,r.legs.length<=1000000):PP 211 [] [.mReq l,.li v] [] (.mReq (l.filter fun r=>r.veh != v)):=by
 refine Ei Tryz.func211 ?_
 refine Bw ?_
 refine VW.sel1 0 rfl rfl (by simp) ?_
 simp[go_sem]
 refine Cc (fun K kk=>by simp[go_sem];refine .lo (M4 l _ [.iptr false [.li v] 0] (fun r=>r.veh != v) hl hg (Wc _) (Xo v)) (by simp[go_sem]) (by simp[AV.cln,Fb]) ?_;simp[go_sem];exact kk) ?_
 exact .ret (rL Dy)
section
variable (l:List Ew) (hl:l.length<=1000000) (hg:∀r∈l,r.legs.length<=1000000)
include hl hg
theorem Aur:PP 168 [] [.mReq l,.fn 193 []] [] (.mReq l):=by
 have h:=M4 l _ [] (fun _=>true) hl hg Ta (Km)
 rwa[show l.filter (fun _=>true)=l by simp] at h
theorem Yn:PP 171 [] [.mReq l] [] (.mReq l):=by
 refine Ei Tryz.func171 ?_
 refine Bw ?_
 refine Cc (fun K kk=>by simp[go_sem];refine .lo (Aur l hl hg) (by simp[go_sem]) (by simp[AV.cln,Fb]) ?_;simp[go_sem];exact kk) ?_
 exact .ret (rL Dy)
end
theorem Pq (l:List Ew) (i:Int) (hl:l.length<=1000000):PP 244 [] [.mReq l,.li i] [] (.li (Hx (fun r:Ew=>r.id == i) l)):=by
 refine Ei Tryz.func244 ?_
 refine Bw ?_
 refine VW.sel1 0 rfl rfl (by simp) ?_
 simp[go_sem]
 refine Cc (fun K kk=>by simp[go_sem];refine .lo (Xr l _ [.iptr false [.li i] 0] (fun r=>r.id == i) hl (Wc _) (Zm i)) (by simp[go_sem]) (by simp[AV.cln,Fb]) ?_;simp[go_sem];exact kk) ?_
 exact .ret (rL Dy)
theorem Af3 {α:Type} (p:α->Bool):∀(l:List α) (i:Nat),Gs p l i<i+l.length /\ -1<=Gs p l i
 | [],i=>by simp[Gs];omega
 | t::ts,i=>by
  unfold Gs
  split
  ·simp;omega
  have:=Af3 p ts (i+1)
  simp at this ⊢
  omega
theorem Af2 {α:Type} (p:α->Bool) (l:List α):Hx p l<l.length /\ -1<=Hx p l:=by
 have:=Af3 p l 0
 simpa[Hx] using this
theorem P4 (l:List G0) (hl:l.length<=1000000):Ct 265 [.mLeg l] (fun d:Bool=>.lb d) (fun d=>True):=by
 refine Er Tryz.func265 ?_
 refine Bq<|.seq ?_
 refine Bq ?_
 refine Br ?_ ?_<;>intro h14
 ·refine Bq ?_
  exact .ret (Ep Dy false trivial)
 refine Bp<|.seq<|.R<|.block ?_
 refine Bs l.length (fun i1 (y1:Unit)=>⟨[(0,.mLeg l),(15,.mLeg l),(16,.li l.length),(17,.li i1)],[]⟩) (fun i1 y1=>True) () (wk Dy []) (trivial) fun i1 y1 hi1 hy1=>?_
 refine Bq<|.seq ?_
 refine Br ?_ ?_<;>intro h18
 ·refine Bp<|.seq<|.block ?_
  have H1:l[i1]? = some l[i1]:=Aa (by omega)
  generalize l[i1]=e1 at H1
  refine Bu H1<|.seq ?_
  refine B8 H1 (Aeq e1) ?_
  refine Br ?_ ?_<;>intro h24
  ·refine Bu H1 ?_
   exact .ret (Ep H1 false trivial)
  refine Bp<|.H H1<|.block ?_
  refine Bs ((l.take i1).length) (fun i2 (y2:Unit)=>⟨[(0,.mLeg l),(4,.ptr 0 0),(15,.mLeg l),(16,.li l.length),(17,.li i1),(27,.mLeg (l.take i1)),(28,.li ((l.take i1).length)),(29,.li i2)],[.box 166 [.li e1.j,.li e1.p,.li e1.fr,.li e1.to,.li e1.si]]⟩) (fun i2 y2=>True) () (wk H1 [0]) (trivial) fun i2 y2 hi2 hy2=>?_
  refine Bu H1<|.seq ?_
  refine Br ?_ ?_<;>intro h30
  ·have hlt:i2<i1:=(Nat.lt_min.1 h30).1
   have hlt2:i2<l.length:=(Nat.lt_min.1 h30).2
   have hxq:l[i2]? = some l[i2]:=Aa (by omega)
   generalize l[i2]=q at hxq
   refine Bp<|.seq<|.block<|.H (Jb H1 hxq hlt) ?_
   refine Bu (Fa H1 hxq) ?_
   refine Br ?_ ?_<;>intro h37
   ·refine Bu H1 ?_
    exact .ret (Ep H1 false trivial)
   refine Bp<|.H1 H1 ?_
   have hN:i2<(l.take i1).length:=by rw[A5];exact Nat.lt_min.2 ⟨hlt,hlt2⟩
   exact⟨by omega,(),trivial,wk (Fa (Dw ((i2:Int)+1)) H1) [0]⟩
  refine Bt<|.H1 H1 ?_
  exact⟨by omega,(),trivial,wk (Fa (Dw ((i1:Int)+1)) H1) []⟩
 refine Bt<|.R ?_
 exact .ret (Ep Dy true trivial)
theorem Pd (l:List Ew) (n:Int) (hl:l.length<=1000000) (hg:∀r∈l,r.legs.length<=1000000):Ct 242 [.mReq l,.li n] (fun d:Bool=>.lb d) (fun d=>True):=by
 refine Er Tryz.func242 ?_
 refine Bq<|.seq ?_
 refine Bq ?_
 refine Br ?_ ?_<;>intro h15
 ·refine Bq ?_
  exact .ret (Ep Dy false trivial)
 refine Bp<|.seq<|.R<|.block ?_
 refine Bs l.length (fun i1 (y1:Unit)=>⟨[(0,.mReq l),(16,.mReq l),(17,.li l.length),(18,.li i1)],[]⟩) (fun i1 y1=>True) () (wk Dy []) (trivial) fun i1 y1 hi1 hy1=>?_
 refine Bq<|.seq ?_
 refine Br ?_ ?_<;>intro h19
 ·refine Bp<|.seq<|.block ?_
  have H1:l[i1]? = some l[i1]:=Aa (by omega)
  generalize l[i1]=e1 at H1
  refine Bu H1<|.seq ?_
  refine B4 (by rfl) fun K1 hK1=>?_
  simp[go_sem,H1]
  refine .l (Kz e1.id) ?_
  simp[go_sem,H1]
  refine P3 ?_
  simp[go_sem,H1]
  refine .lo (Kz e1.veh) rfl (by simp[AV.cln,Fb]) ?_
  simp[go_sem,H1]
  refine P3 ?_
  simp[go_sem,H1]
  refine .lo (U6 e1.cls) rfl (by simp[AV.cln,Fb]) ?_
  simp[go_sem,H1]
  refine P3 ?_
  simp[go_sem,H1]
  obtain⟨Y1,cY1,qY1⟩:=Em (P4 e1.legs (hg e1 (Ac H1)))
  refine .lo cY1 rfl (by simp[AV.cln,Fb]) ?_
  simp[go_sem,H1]
  refine hK1 _ ?_;clear hK1
  refine Br ?_ ?_<;>intro h44
  ·refine Bu H1 ?_
   exact .ret (Ep H1 false trivial)
  refine Bp<|.seq<|.H H1 ?_
  refine Br ?_ ?_<;>intro h52
  ·refine Bu H1 ?_
   exact .ret (Ep H1 false trivial)
  refine Bp ?_
  by_cases hc10:0<i1
  ·have hw2:=Dw (i1 - 1:Int)
   have H3:l[(i1 - 1)]? = some l[(i1 - 1)]:=Aa (by omega)
   generalize l[(i1 - 1)]=e3 at H3
   refine C9 (P6 H1 hc10 hw2 H3) ?_
   refine Br ?_ ?_<;>intro h65
   ·refine Bu (P6 H1 hc10 hw2 H3) ?_
    exact .ret (Ep (P6 H1 hc10 hw2 H3) false trivial)
   refine Bp<|.H1 (P6 H1 hc10 hw2 H3) ?_
   exact⟨by omega,(),trivial,wk (Zd (Dw ((i1:Int)+1)) H1 hc10 hw2 H3) []⟩
  have hi0:i1=0:=by omega
  have hxb:l[i1 - 1]? = some e1:=by rw[<- H1,hi0]
  have hw4:=Dw (i1 - 1:Int)
  refine C9 (P6 H1 hc10 hxb hw4) ?_
  refine Cl ?_ ?_<;>intro h65<;>simp[go_sem] at h65
  refine Bp<|.H1 (P6 H1 hc10 hxb hw4) ?_
  exact⟨by omega,(),trivial,wk (Zd (Dw ((i1:Int)+1)) H1 hc10 hxb hw4) []⟩
 refine Bt<|.R ?_
 exact .ret (Ep Dy true trivial)
theorem Aay (l:List Ew) (a:Int) (j:Int) (hl:l.length<=1000000) (hg:∀r∈l,r.legs.length<=1000000):Ct 155 [.mReq l,.li a,.li j] (fun d:List E7=>.mClaim d) (fun d=>d.length<=l.length):=by
 refine Er Tryz.func155 ?_
 refine Bq ?_
 refine VX.sel1 0 rfl rfl (by simp) ?_
 simp[go_sem]
 refine Bq<|.seq ?_
 refine Bq<|.block ?_
 refine Cf 7 287 5 (by decide) (k':=5) (by simp[go_sem]) ?_
 simp[go_sem]
 refine Bs l.length (fun i1 (y1:(List E7))=>⟨[(1,.li a),(5,.iptr false [.li j] 0),(7,.own 0 y1.length),(12,.mReq l),(13,.li l.length),(14,.li i1)],[.row 287 5 true false (Wb y1)]⟩) (fun i1 y1=>y1.length<=i1) ([]) (wk Dy [1]) (by simp) fun i1 y1 hi1 hy1=>?_
 refine Bq<|.seq ?_
 refine Br ?_ ?_<;>intro h15
 ·refine Bp<|.seq<|.block ?_
  have H1:l[i1]? = some l[i1]:=Aa (by omega)
  generalize l[i1]=e1 at H1
  refine Bu H1 ?_
  refine B3 (fun K kk=>by simp[go_sem,H1];refine .lo (Adk e1.legs _ [.iptr false [.li j] 0] (fun g=>g.j == j) (hg e1 (Ac H1)) (Wc _) (Yp j)) (by simp[go_sem]) (by simp[AV.cln,Fb]) ?_;simp[go_sem,H1];exact kk)<|.seq ?_
  by_cases hc6:0<=Hx (fun g:G0=>g.j == j) e1.legs
  ·have hi:=Af2 (fun g:G0=>g.j == j) e1.legs
   have H2:e1.legs[(Hx (fun g:G0=>g.j == j) e1.legs).toNat]? = some e1.legs[(Hx (fun g:G0=>g.j == j) e1.legs).toNat]:=Aa (by omega)
   generalize e1.legs[(Hx (fun g:G0=>g.j == j) e1.legs).toNat]=e2 at H2
   refine Bu (Jb H1 hc6 H2) ?_
   refine Br ?_ ?_<;>intro h32
   ·refine Bt<|.H1 (Jb H1 hc6 H2) ?_
    refine⟨by omega,(y1),?_,wk (P6 (Dw ((i1:Int)+1)) H1 hc6 H2) [0]⟩
    omega
   refine Bp<|.H (Jb H1 hc6 H2) ?_
   refine B0 (Jb H1 hc6 H2) ?_
   refine B0 (Jb H1 hc6 H2) ?_
   refine⟨by omega,(y1++([⟨a,e1.id,e2.p,e1.cls,e2.si⟩])),?_,wk (P6 (Dw ((i1:Int)+1)) H1 hc6 H2) [0]⟩
   first | omega | (simp;omega)
  have hneg:Hx (fun g:G0=>g.j == j) e1.legs<0:=by omega
  have hi:=Af2 (fun g:G0=>g.j == j) e1.legs
  refine Bu (Jb H1 hc6 hneg) ?_
  refine Cl ?_ ?_<;>intro h32<;>simp[go_sem] at h32
  refine Bt<|.H1 (Jb H1 hc6 hneg) ?_
  refine⟨by omega,(y1),?_,wk (P6 (Dw ((i1:Int)+1)) H1 hc6 hneg) [0]⟩
  omega
 refine Bt<|.R ?_
 refine B2 Dy 0 ?_
 exact .ret (Ep Dy y1 (by omega))
def vwl (l:List Gp):Nat:=(l.map fun v=>3+v.cnt.length).sum
theorem As6 {l:List Gp} {i:Nat} {e:Gp} (h:l[i]? = some e):vwl (l.take (i+1))=vwl (l.take i)+3+e.cnt.length:=by
 unfold vwl
 rw[List.take_add_one,h]
 simp only[List.map_append,List.sum_append,Option.toList_some,List.map_cons,List.map_nil,List.sum_cons,List.sum_nil]
 omega
theorem Aeo:∀{l:List Gp},(∀v∈l,v.col.length<=8/\v.cnt.length<=8)->vwl l<=11*l.length
 | [],_=>Ae _
 | v::l,h=>by
  have h1:=(h v (List.mem_cons_self ..)).2
  have h2:=Aeo (l:=l) fun w hw=>h w (List.mem_cons_of_mem _ hw)
  show 3+v.cnt.length+vwl l<=11*(l.length+1)
  omega
section
variable (l:List Gp) (hl:l.length<=4) (hv:∀v∈l,v.col.length<=8/\v.cnt.length<=8)
include hl hv
theorem Ky:∃d:List Int,PP 135 [] [.mView l] [.row 5 1 false false (tY d)] (.own 0 d.length)/\(d.length=vwl l/\By d):=by
 refine Nk (D:=List Int) (F:=fun d=>.own 0 d.length) (S:=fun d=>[.row 5 1 false false (tY d)]) (Q:=fun d=>d.length=vwl l/\By d) Tryz.func135 rfl rfl rfl (by simp[Tryz.ntmps135]) ?_
 refine Bq ?_
 refine Bq<|.seq ?_
 refine Bq<|.block ?_
 refine Cf 3 5 1 (by decide) (k':=1) (by simp[go_sem]) ?_
 simp[go_sem]
 refine Bs l.length (fun i1 (y1:(List Int))=>⟨[(3,.own 0 y1.length),(13,.mView l),(14,.li l.length),(15,.li i1)],[.row 5 1 true false (tY y1)]⟩) (fun i1 y1=>y1.length=vwl (l.take i1)/\By y1) ([]) (wk Dy [0]) ⟨by simp[vwl],.nil⟩ fun i1 y1 hi1 hy1=>?_
 refine Bq<|.seq ?_
 refine Br ?_ ?_<;>intro h16
 ·refine Bp<|.seq<|.block ?_
  have H1:l[i1]? = some l[i1]:=Aa (by omega)
  generalize l[i1]=e1 at H1
  refine Bu H1 ?_
  have hb:=hv e1 (Ac H1)
  have hvs:=As6 H1
  have hvb:vwl (l.take i1)<=44:=by have:=Aeo (l:=l.take i1) fun v h=>hv v (Aq h);rw[A5] at this;omega
  refine Bu H1 ?_
  refine Do (fun s=>∃(f:Int),s=⟨[(3,.own 0 y1.length),(5,.ptr 1 0),(6,.li f),(13,.mView l),(14,.li l.length),(15,.li i1)],[.row 5 1 true false (tY y1),.box 128 (e1.a false)]⟩) ?_ ?_
  ·refine Bu H1 ?_
   refine Br ?_ ?_<;>intro h20
   ·refine B0 H1 ?_
    refine⟨[0,1],_,El (by decide) ?_ ?_,by simp,(IntKind.i64.wrap (0+1)),rfl⟩
    all_goals simp[go_sem,H1]
   refine Bp ?_
   refine⟨[0,1],_,El (by decide) ?_ ?_,by simp,0,rfl⟩
   all_goals simp[go_sem,H1]
  rintro s ⟨f,rfl⟩
  refine Do (fun s=>∃(g:Int),s=⟨[(3,.own 0 y1.length),(5,.ptr 1 0),(6,.li g),(13,.mView l),(14,.li l.length),(15,.li i1)],[.row 5 1 true false (tY y1),.box 128 (e1.a false)]⟩) ?_ ?_
  ·refine Bu H1 ?_
   refine Br ?_ ?_<;>intro h24
   ·refine B0 H1 ?_
    refine⟨[0,1],_,El (by decide) ?_ ?_,by simp,(IntKind.i64.wrap (f+2)),rfl⟩
    all_goals simp[go_sem,H1]
   refine Bp ?_
   refine⟨[0,1],_,El (by decide) ?_ ?_,by simp,f,rfl⟩
   all_goals simp[go_sem,H1]
  rintro s ⟨g,rfl⟩
  refine Bu H1<|.seq ?_
  refine Bu H1<|.block ?_
  refine Bs e1.col.length (fun i8 (y8:Int×Int)=>⟨[(3,.own 0 y1.length),(5,.ptr 1 0),(6,.li g),(7,.li y8.1),(8,.li y8.2),(13,.mView l),(14,.li l.length),(15,.li i1),(28,.mI e1.col),(29,.li e1.col.length),(30,.li i8)],[.row 5 1 true false (tY y1),.box 128 (e1.a false)]⟩) (fun i8 y8=>True) (0,1) (wk H1 [0,1]) (trivial) fun i8 y8 hi8 hy8=>?_
  refine Bu H1<|.seq ?_
  refine Br ?_ ?_<;>intro h31
  ·refine Bp<|.seq<|.block ?_
   have H8:e1.col[i8]? = some e1.col[i8]:=Aa (by omega)
   generalize e1.col[i8]=e8 at H8
   refine Bu (Fa H1 H8) ?_
   refine Bu (Fa H1 H8) ?_
   refine B0 (Fa H1 H8) ?_
   refine B0 (Fa H1 H8) ?_
   exact⟨by omega,(IntKind.i64.wrap (y8.1+(IntKind.i64.wrap (e8*y8.2))),IntKind.i64.wrap (y8.2*4)),trivial,wk (Jb (Dw ((i8:Int)+1)) H1 H8) [0,1]⟩
  refine Bt<|.H H1 ?_
  refine Bu H1<|.block ?_
  refine Bs e1.cnt.length (fun i9 (y9:(List Int))=>⟨[(3,.own 0 y9.length),(13,.mView l),(14,.li l.length),(15,.li i1),(53,.mI e1.cnt),(54,.li e1.cnt.length),(55,.li i9)],[.row 5 1 true false (tY y9)]⟩) (fun i9 y9=>y9.length=vwl (l.take i1)+3+i9/\By y9) (y1++([IntKind.u8.wrap g,IntKind.u8.wrap (Int.fdiv y8.1 (2 ^ min (Int.toNat 8) 64)),IntKind.u8.wrap y8.1])) (wk H1 [0]) ⟨by simp;omega,.app hy1.2 (.cons (Rn _) (.cons (Rn _) (.u8 _)))⟩ fun i9 y9 hi9 hy9=>?_
  refine Bu H1<|.seq ?_
  refine Br ?_ ?_<;>intro h56
  ·refine Bp<|.seq<|.block ?_
   have H9:e1.cnt[i9]? = some e1.cnt[i9]:=Aa (by omega)
   generalize e1.cnt[i9]=e9 at H9
   refine Bu (Fa H1 H9) ?_
   refine B0 (Fa H1 H9) ?_
   refine B0 (Fa H1 H9) ?_
   exact⟨by omega,(y9++([IntKind.u8.wrap e9])),⟨by simp;omega,.app hy9.2 (.u8 _)⟩,wk (Jb (Dw ((i9:Int)+1)) H1 H9) [0]⟩
  refine Bt<|.H1 H1 ?_
  exact⟨by omega,(y9),⟨by omega,hy9.2⟩,wk (Fa (Dw ((i1:Int)+1)) H1) [0]⟩
 refine Bt<|.R ?_
 exact .ret ⟨y1,rW Dy [0],⟨by show y1.length=vwl l;rw[hy1.1,Bf (by omega)],hy1.2⟩⟩
def Hi:List Int:=(Ky l hl hv).choose
theorem S3:PP 135 [] [.mView l] [.row 5 1 false false (tY (Hi l hl hv))] (.own 0 (Hi l hl hv).length):=(Ky l hl hv).choose_spec.1
theorem Tc:(Hi l hl hv).length=vwl l:=(Ky l hl hv).choose_spec.2.1
theorem Abi:By (Hi l hl hv):=(Ky l hl hv).choose_spec.2.2
theorem Q7:(Hi l hl hv).length<=11*l.length:=by rw[Tc];exact Aeo hv
end
theorem Agu (g:G0) (l:List Gp) (now:Int) (hl:l.length<=1000000) (hv:∀v∈l,v.col.length<=8):Ct 180 [g.g,.mView l,.li now] (fun d:Int=>.li d) (fun d=>True):=by
 refine Er Tryz.func180 ?_
 refine Bq<|.seq ?_
 refine B8 Dy (Xw g now) ?_
 refine Br ?_ ?_<;>intro h23
 ·refine Bq ?_
  exact .ret (Ep Dy 1 trivial)
 refine Bp ?_
 have H1:l[g.j.toNat]? = some l[g.j.toNat]:=Aa (by omega)
 generalize l[g.j.toNat]=e1 at H1
 refine Bu H1<|.seq ?_
 refine Bu H1 ?_
 refine Br ?_ ?_<;>intro h39
 ·refine Bu H1 ?_
  exact .ret (Ep H1 1 trivial)
 refine Bp<|.seq ?_
 have H2:e1.col[g.p.toNat]? = some e1.col[g.p.toNat]:=Aa (by omega)
 generalize e1.col[g.p.toNat]=e2 at H2
 refine Bu (Fa H1 H2) ?_
 refine Br ?_ ?_<;>intro h55
 ·refine Bu (Fa H1 H2) ?_
  exact .ret (Ep (Fa H1 H2) 3 trivial)
 refine Bp<|.H (Fa H1 H2) ?_
 exact .ret (Ep (Fa H1 H2) 2 trivial)
section
variable {id0:Nat} {l:List Oper}
section
variable {P:Program} {n m:Nat} {st:St} {K:Exit->St->Prop}
theorem Wh {E:Gi} {F:Fence} (hF:FOk E F) {ops:Array Oper} {K:St->Prop} {Q:Exit->Act->World->Prop} (l2:List Oper) (hQ:∀st β a w,K st->Eo E β st a w->wpListIn F 0 P ops Q l2 a w):∀(l:List Oper) (hd:∀o∈l,∀x,o.dst=some x->x<E.n) (st:St) (β:Nat->Option Nat) (a:Act) (w:World),
 runs P (l.map fun o=>⟨o.dst,o.op,o.type,Nl ops o⟩) st K->Eo E β st a w->wpListIn F 0 P ops Q (l++l2) a w
 | [],_,st,β,a,w,h,r=>hQ st β a w h r
 | o::l,hd,st,β,a,w,h,r=>by
  obtain⟨hg,h⟩:=h
  rw[List.cons_append]
  unfold wpListIn
  simp only at h hg
  cases hc:E8 o.op with
  | true =>
   rw[hc,if_pos rfl] at h
   obtain⟨e,h1,h2⟩:=h
   exact Ud r (hd o (by simp)) hg (fun _ p _ hp=>Ha st p.1 hp) h1 hF fun β' a' w' r'=>Wh hF l2 hQ l (fun x hx=>hd x (by simp[hx])) _ β' a' w' h2 r'
  | false =>
   rw[hc,if_neg (by simp)] at h
   obtain⟨h1,h2⟩:=h
   exact Ud r (hd o (by simp)) hg (fun _ p _ hp=>Ha st p.1 hp) (fun hb=>Aeh hc (h1 hb)) hF fun β' a' w' r'=>Wh hF l2 hQ l (fun x hx=>hd x (by simp[hx])) _ β' a' w' h2 r'
theorem VW.region_fz (j id:Nat) (hd:Ft n l=true) (h:runs P ((Gc l).take j) st (fun s=>F5 (s.o id)=true/\runs P ((Gc l).drop j) (s.freeze id) (K .normal))):VW P n m (.region id0 l.toArray false) st K:=fun E F hE hF β a w r=>by
 have hd':∀o∈l,∀x,o.dst=some x->x<E.n:=fun o ho x hx=>by rw[hE.1];exact Oo hd o ho x hx
 refine wpIn_region_lit ?_
 have key:=Wh (P:=P) (Q:=Agk E K) hF (ops:=l.toArray) (l.drop j) (fun s β a w hs r=>?_) (l.take j) (fun o ho=>hd' o (Aq ho)) st β a w (by
  have:=h
  simp only[Gc,<- List.map_take] at this
  exact this) r
 ·rwa[List.take_append_drop] at key
 obtain⟨h1,h2⟩:=hs
 have r2:Eo E β (s.freeze id) a w:=by
  unfold St.freeze
  cases hq:s.o id with
  | row ty k fr fz es=>exact (r.freeze hq).1.melt
  | _=>rw[hq] at h1;cases h1
 refine Zy hF (fun s β a w h1 h2=>⟨E,s,β,Hj.refl E,h1,h2⟩) (l.drop j) (fun o ho=>hd' o (Ay ho)) _ β a w ?_ r2
 rw[List.map_drop]
 exact h2
theorem VX.region_fz (j id:Nat) (hd:Ft n l=true) (h:∀K1:St->Prop,(∀s,K .normal s->K1 s)->runs P ((Gc l).take j) st (fun s=>F5 (s.o id)=true/\runs P ((Gc l).drop j) (s.freeze id) K1)):VX P n m (.region id0 l.toArray false) st K:=by
 obtain⟨s,h1,h2,h3⟩:=Qb _ _ (h _ fun _ h=>h)
 obtain⟨s2,h4,h5⟩:=Qb _ _ h3
 refine⟨.normal,s2,.region_fz j id hd (K4 _ _ ?_ h1),h5⟩
 rintro s' rfl
 exact⟨h2,K4 _ _ (by rintro s' rfl;exact⟨rfl,rfl⟩) h4⟩
theorem VX.region_fz_seq {y:Code} (j id:Nat) (hd:Ft n l=true) (h:∀K1:St->Prop,(∀s,VX P n m y s K->K1 s)->runs P ((Gc l).take j) st (fun s=>F5 (s.o id)=true/\runs P ((Gc l).drop j) (s.freeze id) K1)):VX P n m (.seq (.region id0 l.toArray false) y) st K :=
 .seq (.region_fz j id hd fun K1 hK1=>h K1 hK1)
abbrev Dj:=@VX.region_fz_seq
end
section
variable {P:Program} {n m:Nat} {st:St} {K:Exit->St->Prop} {c:Code}
theorem VX.rowIs (id:Nat) (es:List (List T)) (h:F5 (st.o id)=true) (he:K5 (st.o id)=es) (hv:VX P n m c (st.set id (.row (Z2 (st.o id)) (Sl (st.o id)) (Arj (st.o id)) (Ari (st.o id)) es)) K):VX P n m c st K:=by
 obtain⟨e,s,h1,h2⟩:=hv
 refine⟨e,s,fun E F hE hF β a w r=>h1 E F hE hF β a w ?_,h2⟩
 subst he
 cases hq:st.o id with
 | row ty k fr fz es=>exact (r.flag hq (fun e=>.inl e) fun e=>e).1
 | _=>rw[hq] at h;exact absurd h (by simp[F5])
end
end
theorem Agt (n:Int) (l:List Gp) (hl:l.length<=4) (hv:∀v∈l,v.col.length<=8/\v.cnt.length<=8):Ct 101 [.li n,.mView l] (fun d:D0=>d.g) (fun d=>d.kind=21/\d.args=[n]/\d.tok=[]/\d.data=Hi l hl hv):=by
 refine Er Tryz.func101 ?_
 have hb:=Q7 l hl hv
 refine Bq ?_
 refine B8 Dy (S3 l hl hv) ?_
 refine Dm 1 ?_
 simp[go_sem]
 refine Dm 2 ?_
 simp[go_sem]
 refine Bz (Fk ?_);simp[go_sem]
 exact⟨⟨21,[],[n],(Hi l hl hv)⟩,by rfl,(by simp)⟩
theorem Aat (n:Int) (l:List Gp) (c:List Int) (hl:l.length<=4) (hv:∀v∈l,v.col.length<=8/\v.cnt.length<=8) (hc:c.length<=1000):Ct 157 [.li n,.mView l,.mY c] (fun d:D0=>d.g) (fun d=>d.kind=17/\d.args=[n]/\d.tok=[]/\d.data=Hi l hl hv++c):=by
 refine Er Tryz.func157 ?_
 have hb:=Q7 l hl hv
 refine Bq ?_
 refine B8 Dy (S3 l hl hv) ?_
 refine Dm 1 ?_
 simp[go_sem]
 refine Dm 2 ?_
 simp[go_sem]
 refine Bz (Fk ?_);simp[go_sem]
 exact⟨⟨17,[],[n],(Hi l hl hv)++c⟩,by first | rfl | simp[go_sem],(by simp)⟩
theorem Aej (l:List Ew) (n:Int) (w:List Gp) (now:Int) (hl:l.length<=1000000) (hw:w.length<=1000000) (hv:∀v∈w,v.col.length<=8) (hn:n<=3):Ct 156 [.mReq l,.li n,.mView w,.li now] (fun d:List Int=>.mY d) (fun d=>d.length=(n*3).toNat/\By d):=by
 refine Er Tryz.func156 ?_
 refine Bq<|.seq ?_
 refine Bq ?_
 refine Br ?_ ?_<;>intro h18
 ·refine Bq ?_
  exact .ret (Ep Dy ([]) ⟨by simp;omega,.nil⟩)
 refine Bp ?_
 have hw1:=Dw (n*3:Int)
 refine Bu hw1<|.seq ?_
 refine Bu hw1<|.block ?_
 refine Bs ((n*3).toNat) (fun i1 (y1:(List Int))=>⟨[(0,.mReq l),(2,.mView w),(3,.li now),(9,.own 0 y1.length),(23,.li ((n*3).toNat)),(24,.li i1)],[.row 5 1 false false (tY y1)]⟩) (fun i1 y1=>y1.length=(n*3).toNat/\By y1) (List.replicate ((n*3).toNat) 0) (wk hw1 [0]) ⟨by simp,.rep _⟩ fun i1 y1 hi1 hy1=>?_
 refine Bu hw1<|.seq ?_
 refine Br ?_ ?_<;>intro h25
 ·refine Bp<|.seq<|.block<|.H hw1 ?_
  have hq:=Dw ((i1:Int) / 3)
  have hr:Int.tmod (i1:Int) 3=(i1:Int) % 3:=Int.tmod_eq_emod_of_nonneg (by omega)
  refine Bu (Fa hw1 hq) ?_
  obtain⟨e2,H2⟩:=gx y1 i1
  refine Bu (Fa hw1 H2) ?_
  obtain⟨R,hRe⟩:∃R,R=y1.set i1 0:=⟨_,rfl⟩
  have hR:R.length=(n*3).toNat:=by rw[hRe,List.length_set];exact hy1.1
  have hRy:By R:=by rw[hRe];exact hy1.2.set _ (by decide)
  refine VX.rowIs 0 (tY R) rfl (by simp[go_sem,hRe]) ?_
  simp[go_sem,-Prod.exists]
  refine Bu (P6 hw1 H2 hR hr) ?_
  by_cases hc10:((i1:Int) / 3)<l.length
  ·obtain⟨e3,H3⟩:=gx l (((i1:Int) / 3).toNat)
   refine Bu (Zd hw1 H2 hR hc10 H3) ?_
   refine Br ?_ ?_<;>intro h47
   ·obtain⟨e4,H4⟩:=gx e3.legs (((i1:Int) % 3).toNat)
    obtain⟨e5,H5⟩:=gx R i1
    obtain⟨Y1,cY1,qY1⟩:=Em (Agu e4 w now (by assumption) (by assumption))
    refine Cg (fun K kk=>by simp[go_sem,hw1,H2,hR,hc10,H3,H4,H5];(repeat refine aK ?_);refine .l cY1 ?_;simp[go_sem,hw1,H2,hR,hc10,H3,H4,H5];(repeat first | exact kk | refine aK ?_)) ?_
    refine Cg (fun K kk=>by simp[go_sem,hw1,H2,hR,hc10,H3,H4,H5];exact kk) ?_
    refine⟨by omega,((R).set i1 (IntKind.u8.wrap Y1)),?_,wQ [0] ?_ ?_⟩
    ·exact⟨by simp;omega,hRy.set _ (Rn _)⟩
    all_goals simp[go_sem,Dw ((i1:Int)+1),hw1,H2,hR,hc10,H3,H4,H5,hy1.1]
   refine Bp<|.H1 (Zd hw1 H2 hR hc10 H3) ?_
   refine⟨by omega,(R),?_,wQ [0] ?_ ?_⟩
   ·exact⟨hR,hRy⟩
   all_goals simp[go_sem,Dw ((i1:Int)+1),hw1,H2,hR,hc10,H3,hy1.1]
  have hn:l[((i1:Int) / 3).toNat]? = none:=Ar (by omega)
  refine Bu (Zd hw1 H2 hR hc10 hn) ?_
  refine Cl ?_ ?_<;>intro h47<;>simp[go_sem] at h47
  refine Bp<|.H1 (Zd hw1 H2 hR hc10 hn) ?_
  refine⟨by omega,(R),?_,wQ [0] ?_ ?_⟩
  ·exact⟨hR,hRy⟩
  all_goals simp[go_sem,Dw ((i1:Int)+1),hw1,H2,hR,hc10,hn,hy1.1]
 refine Bt<|.H hw1 ?_
 refine B2 Dy 0 ?_
 exact .ret (Ep hw1 y1 hy1)
section
def On (sel:List Nat) (p:Prop):Prop:=p
section
variable {P:Program} {d:Option Tmp} {os:List VO} {st:St} {K:St->Prop} {f:FuncId} {args args' Gx:List AV} {bor:Bool} {σa σr:List Ob} {res:AV}
theorem Tq.O {sel:List Nat} (hp:On sel (Ey P f σa args' σr res)) (h:runs P os (st.after d (Om sel st.ob.length σr res).1 (Om sel st.ob.length σr res).2) K) (hσ:(sel.map fun id=>((st.o id).passR st.o fun id=>Ms id sel 0).low)=σa:=by simp[go_sem]) (ha:J6 (G4 st.o (fun id=>Ms id sel 0) Gx)=args':=by simp[go_sem]) (hc:Ac0 Gx st sel σr res:=by constructor<;>simp[go_sem]):Tq P f args bor Gx d os st K:=.ob sel hp hσ ha hc h
end
variable {f:FuncId} {args:List AV} {σa σr:List Ob}
section
variable {P:Program} {n m:Nat} {st s':St} {K:Exit->St->Prop} {id:Nat} {l:List Oper} {y:Code}
theorem VX.O {p:Prop} {res:AV} (e:p) (sel:List Nat) (c:Ey P f σa args σr res) (h:VX P n m y s' K) (hr:∀K1:St->Prop,p->On sel (Ey P f σa args σr res)->K1 s'->runs P (Gc l) st K1:=by intro K e c k;simp[go_sem,e];(repeat refine aK ?_);refine .O c ?_;simp[go_sem,e];(repeat first | exact k | refine aK ?_)) (hd:Ft n l=true:=by rfl):VX P n m (.seq (.region id l.toArray false) y) st K:=.region_seq hd fun K1 h1=>hr K1 e c (h1 _ h)
abbrev Da:=@VX.O
theorem VX.O1 {p:Prop} {res:AV} (e:p) (sel:List Nat) (c:Ey P f σa args σr res) (h:K .normal s') (hr:∀K1:St->Prop,p->On sel (Ey P f σa args σr res)->K1 s'->runs P (Gc l) st K1:=by intro K e c k;simp[go_sem,e];(repeat refine aK ?_);refine .O c ?_;simp[go_sem,e];(repeat first | exact k | refine aK ?_)) (hd:Ft n l=true:=by rfl):VX P n m (.region id l.toArray false) st K:=.region1 hd fun K1 h1=>hr K1 e c (h1 _ h)
abbrev C6:=@VX.O1
end
theorem cB {es:List (List T)} (h:es.length<=1000000:=by first | (simp;done) | (simp;omega) | (simp;assumption)) (hp:es.all (fun e=>e.all T.plain)=true:=by first | (simp[T.plain];done) | (rw[Am];intro e he;repeat (first | replace he:=Aq he | replace he:=Ay he);obtain⟨x,_,rfl⟩:=A4.1 he;rfl)):PP 63 [] [.imm false 1 es] [] (.imm true 1 es):=Ey.froz (Gf es h hp)
end
section
theorem Agz (a:List Int) (b:List Int) (h1:a.length<=1000000) (h2:b.length<=1000000):Ct 229 [.mY a,.mY b] (fun d:Bool=>.lb d) (fun d=>True):=by
 refine Er Tryz.func229 ?_
 refine Bq ?_
 refine B3 (fun K kk=>by simp[go_sem,Af1];exact kk) ?_
 refine Bz (Fk ?_);simp[go_sem]
 exact⟨_,by rfl,trivial⟩
variable {l:List F6}
theorem Al9 {i:Nat} {x:F6} (h:∀t∈l,t.sec.length<=1000000) (hx:x.sec.length<=1000000):∀t∈l.set i x,t.sec.length<=1000000:=fun t ht=>by
 rcases Bi ht with h1 | h1
 ·exact h t h1
 subst h1;exact hx
theorem As3 {n:Nat} {a b c d:Int} {u:Bool}:∀t∈List.replicate n (⟨u,[],a,b,c,d⟩:F6),t.sec.length<=1000000:=fun t ht=>by
 rw[(List.mem_replicate.1 ht).2]
 simp
section
variable (a:H0) (h:a.sec.length<=1000000)
include h
theorem R5:∃d:List F6,PP 111 [] [a.g] [.row 73 6 false false (O5 d)] (.own 0 d.length)/\(d.length=8/\∀t∈d,t.sec.length<=1000000):=by
 refine Nk (D:=List F6) (F:=fun d=>.own 0 d.length) (S:=fun d=>[.row 73 6 false false (O5 d)]) (Q:=fun d=>d.length=8/\∀t∈d,t.sec.length<=1000000) Tryz.func111 rfl rfl rfl (by simp[Tryz.ntmps111]) ?_
 refine Bq ?_
 refine Bu Dy<|.seq ?_
 refine Bq<|.block ?_
 refine Bs 8 (fun i1 (y1:(List F6))=>⟨[(1,.ptr 0 0),(3,.own 1 y1.length),(7,.li 8),(8,.li i1)],[.box 60 (a.a false),.row 73 6 false false (O5 y1)]⟩) (fun i1 y1=>y1.length=8/\∀t∈y1,t.sec.length<=1000000) (List.replicate 8 ⟨false,[],0,0,0,0⟩) (wk Dy [0,1]) (⟨rfl,As3⟩) fun i1 y1 hi1 hy1=>?_
 refine Bq<|.seq ?_
 refine Br ?_ ?_<;>intro h9
 ·refine Bp<|.seq<|.block<|.R ?_
  obtain⟨e1,H1⟩:=gx y1 i1
  refine Dr H1 (T5) ?_
  refine B0 H1 ?_
  exact⟨by omega,((y1).set i1 Uc),⟨by simp;omega,Al9 hy1.2 (by simp[Uc])⟩,wk (Fa (Dw ((i1:Int)+1)) H1) [0,1]⟩
 refine Bt ?_
 obtain⟨e2,H2⟩:=gx y1 0
 refine Cw (fun K kk=>by simp[go_sem,H2];refine .lo cB rfl (by simp[AV.cln,Fb]) ?_;simp[go_sem,H2];(repeat first | exact kk | refine aK ?_)) ?_
 refine Bu H2 ?_
 exact .ret ⟨(y1).set 0 ⟨true,a.sec,(-1),a.ri,a.cls,0⟩,rW H2 [1],⟨by simp;omega,Al9 hy1.2 h⟩⟩
def Ju:List F6:=(R5 a h).choose
theorem Ag4:PP 111 [] [a.g] [.row 73 6 false false (O5 (Ju a h))] (.own 0 (Ju a h).length):=(R5 a h).choose_spec.1
theorem Aln:PP 111 [] [a.g] [] (.mTok (Ju a h)):=(Ag4 a h).frozA (by simp[go_sem])
theorem Amm:(Ju a h).length=8/\∀t∈(Ju a h),t.sec.length<=1000000:=(R5 a h).choose_spec.2
end
theorem Lu (l:List F6) (hl:l.length<=1000000) (ht:∀t∈l,t.sec.length<=1000000):PP 183 [] [.mTok l] [.row 73 6 false false (O5 l)] (.own 0 l.length):=by
 refine Ei Tryz.func183 ?_
 refine Bw ?_
 refine Cc (fun K kk=>by simp[go_sem];refine .lo (Sj _ (by simpa using hl)) rfl (by simp) ?_;simp[go_sem];exact kk)<|.seq ?_
 refine Bw<|.block ?_
 refine Cb l.length (fun i1=>⟨[(3,.own 0 l.length),(8,.li l.length),(9,.li i1)],[.row 73 6 false false (O5 l)]⟩) (wk Dy [0]) fun i1 hi1=>?_
 refine Bw<|.seq ?_
 refine B7 ?_ ?_<;>intro h10
 ·have hx:l[i1]? = some l[i1]:=Aa h10
  generalize l[i1]=t at hx
  have hs:=Gq (f:=F6.t) hx
  simp only[F6.t] at hs
  refine Bv<|.seq<|.block<|.R ?_
  refine VW.S1 (fun K kk=>by simp[go_sem,hx,hs];(repeat refine aK ?_);refine .lo (Ey.froz (Gf _ (by simpa using ht t (Ac hx)) (by simp[T.plain]))) rfl (by simp) ?_;simp[go_sem,hx,hs];(repeat first | exact kk | refine aK ?_)) ?_
  refine Cm ?_
  refine⟨by omega,wQ [0] ?_ ?_⟩
  ·simp[go_sem,Dw ((i1:Int)+1)]
  simp[go_sem]
 refine B5<|.R ?_
 exact .ret (rW Dy [0])
theorem Oc (x:Jq) (hb:P2 x):PP 165 [] [x.g] [] (x.g):=by
 refine Ei Tryz.func165 ?_
 have hb1:=hb.toks
 refine Bw ?_
 refine Di Dy (M5 x.ag hb.sec hb.lims) ?_
 refine Cc (fun K kk=>by simp[go_sem];refine .lo (Sj _ (by simpa using hb.toks)) rfl (by simp) ?_;simp[go_sem];exact kk)<|.seq ?_
 refine Bw<|.block ?_
 refine Cb x.toks.length (fun i1=>⟨[(1,.ptr 0 0),(2,.ptr 1 0),(14,.li x.toks.length),(15,.li i1)],[.box 66 [.li x.num,.mY x.ag.sec,.li x.ag.ri,.li x.ag.cls,.mI x.ag.lims,.li x.ag.rq,.li x.ag.se,.li x.ag.ra,.li x.ag.bu,.own 2 x.toks.length,.mVeh x.vehs,.li x.bk.lv,.li x.bk.ra,.li x.bk.bu],.box 66 [.li 0,.nil 1,.li 0,.li 0,.nil 1,.li 0,.li 0,.li 0,.li 0,.nil 6,.nil 2,.li 0,.li 0,.li 0],.row 73 6 false false (O5 x.toks)]⟩) (wk Dy [0,1,2]) fun i1 hi1=>?_
 refine Bw<|.seq ?_
 refine B7 ?_ ?_<;>intro h16
 ·have hx:x.toks[i1]? = some x.toks[i1]:=Aa h16
  generalize x.toks[i1]=t at hx
  have hs:=Gq (f:=F6.t) hx
  simp only[F6.t] at hs
  refine Bv<|.seq<|.block<|.R ?_
  refine VW.E1 (fun K kk=>by simp[go_sem,hx,hs];(repeat refine aK ?_);refine .lo (Ey.froz (Gf _ (by simpa using hb.tsec t (Ac hx)) (by simp[T.plain]))) rfl (by simp) ?_;simp[go_sem,hx,hs];(repeat first | exact kk | refine aK ?_)) ?_
  refine Cm ?_
  refine⟨by omega,wQ [0,1,2] ?_ ?_⟩
  ·simp[go_sem,Dw ((i1:Int)+1)]
  simp[go_sem]
 refine B5 ?_
 refine Ch 2 (by simp[go_sem,F5]) ?_
 simp[go_sem]
 refine Cc (fun K kk=>by simp[go_sem];refine .lo (Ey.froz (U7 _ (by simpa using hb.vehs) (by simp[T.plain,He.t]))) rfl (by simp) ?_;simp[go_sem];exact kk) ?_
 refine Bw ?_
 exact .ret (rL h16)
theorem Aye {s:Int} {t:F6} (h:Yv l s 0=true) (hs:s≠0) (ht:l[s.toNat]? = some t):0<=t.par/\t.par<l.length:=by
 unfold Yv Vb at h
 rw[Q1] at h
 split at h
 ·rw[List.contains_cons] at h
  have e:(0 == s)=false:=by simpa using fun e=>hs e.symm
  rw[e,Bool.false_or,Q1] at h
  split at h
  ·rename_i hu
   have hp:Al3 l s=t.par:=by simp[Al3,ht]
   rw[hp] at hu
   obtain⟨h0,t',h1,_⟩:=Q0 hu
   have:=(Ab.1 h1).1
   omega
  simp at h
 simp at h
section
variable (l:List F6) (hl:l.length<=1000000) (ht:∀t∈l,t.sec.length<=1000000)
include hl ht
theorem Lk:Ct 253 [.mTok l] (fun d:Bool=>.lb d) (fun d=>d=true->l.length=8):=by
 refine Er Tryz.func253 ?_
 refine Bq<|.seq ?_
 refine Bq ?_
 refine Br ?_ ?_<;>intro h9
 ·refine Bq ?_
  exact .ret (Ep Dy false (by first | (intro _;omega) | (simp;done)))
 refine Bp ?_
 obtain⟨e1,H1⟩:=gx l 0
 refine Bu H1<|.seq ?_
 refine B4 (by rfl) fun K1 hK1=>?_
 simp[go_sem,H1]
 refine P3 ?_
 simp[go_sem,H1]
 refine .lo (Xx e1) rfl (by simp[AV.cln,Fb]) ?_
 simp[go_sem,H1]
 refine hK1 _ ?_;clear hK1
 refine Br ?_ ?_<;>intro h30
 ·refine Bu H1 ?_
  exact .ret (Ep H1 false (by (intro _;omega)))
 refine Bp<|.seq<|.H H1<|.block ?_
 refine Cj (fun (y1:Int)=>⟨[(0,.mTok l),(4,.li y1)],[]⟩) (fun y1=>1<=y1/\y1<=l.length) (fun y1=>(l.length - y1).toNat) (1) (wk H1 []) (by omega) fun y1 hy1=>?_
 refine Ca<|.H H1 ?_
 refine Br ?_ ?_<;>intro h34
 ·refine Bp<|.seq<|.block ?_
  obtain⟨e2,H2⟩:=gx l y1.toNat
  refine Bu (Fa H1 H2)<|.seq ?_
  refine Bu (Fa H1 H2) ?_
  refine Br ?_ ?_<;>intro h43
  ·refine Ca<|.L (Fa H1 H2) (Aes e2) ?_
   refine Br ?_ ?_<;>intro h46
   ·refine Bu (Fa H1 H2) ?_
    exact .ret (Ep (Fa H1 H2) false (by (intro _;omega)))
   refine Bp<|.exit ?_
   have hw3:=Dw (y1+1:Int)
   refine B0 (Jb H1 H2 hw3) ?_
   refine⟨((y1+1)),?_,?_,wQ [] ?_ ?_⟩
   ·omega
   ·omega
   all_goals simp[go_sem,H1,H2,hw3]
  refine Bp<|.seq ?_
  refine B4 (by rfl) fun K1 hK1=>?_
  simp[go_sem,H1,H2]
  refine .l (Xx e2) ?_
  simp[go_sem,H1,H2]
  refine P3 ?_
  simp[go_sem,H1,H2]
  refine .lo (Sy l y1 0) rfl (by simp[AV.cln,Fb]) ?_
  simp[go_sem,H1,H2]
  refine hK1 _ ?_;clear hK1
  refine Br ?_ ?_<;>intro h55
  ·refine Bu (Fa H1 H2) ?_
   exact .ret (Ep (Fa H1 H2) false (by (intro _;omega)))
  have hpar:=Aye (t:=e2) (by exact h55.2) (by omega) H2
  refine Bp ?_
  obtain⟨e4,H4⟩:=gx l e2.par.toNat
  refine Bu (Jb H1 H2 H4) ?_
  refine B4 (by rfl) fun K1 hK1=>?_
  simp[go_sem,H1,H2,H4]
  refine .l (U4 e2.ri e4.ri) ?_
  simp[go_sem,H1,H2,H4]
  refine P3 ?_
  simp[go_sem,H1,H2,H4]
  refine .lo (Sg e2.unt e4.unt) rfl (by simp[AV.cln,Fb]) ?_
  simp[go_sem,H1,H2,H4]
  refine hK1 _ ?_;clear hK1
  refine Br ?_ ?_<;>intro h80
  ·refine Bu (Jb H1 H2 H4) ?_
   exact .ret (Ep (Jb H1 H2 H4) false (by (intro _;omega)))
  refine Bp ?_
  have hw5:=Dw (y1+1:Int)
  refine B0 (P6 H1 H2 H4 hw5) ?_
  refine⟨((y1+1)),?_,?_,wQ [] ?_ ?_⟩
  ·omega
  ·omega
  all_goals simp[go_sem,H1,H2,H4,hw5]
 refine Bt<|.H H1 ?_
 exact .ret (Ep H1 true (by (intro _;omega)))
def X7:Bool:=(Em (Lk l hl ht)).choose
theorem Ag3:PP 253 [] [.mTok l] [] (.lb (X7 l hl ht)):=(Em (Lk l hl ht)).choose_spec.1
theorem Ahh:(X7 l hl ht)=true->l.length=8:=(Em (Lk l hl ht)).choose_spec.2
end
end
theorem M8 {l:List F6} {i:Nat} {x:F6} (h:∀t∈l,t.sec.length<=1000000) (hx:x.sec.length<=1000000):∀t∈l.set i x,t.sec.length<=1000000:=fun t ht=>by
 rcases Bi ht with h1 | h1
 ·exact h t h1
 subst h1;exact hx
theorem Vo (l:List F6) (p:Int) (ri:Int) (c:Int) (life:Int) (sec:List Int) (now:Int) (hl:l.length<=1000000) (ht:∀t∈l,t.sec.length<=1000000) (hs:sec.length<=1000000):Ct 256 [.mTok l,.li p,.li ri,.li c,.li life,.mY sec,.li now] (fun d:List F6×Int×Int=>.tup [.mTok d.1,.li d.2.1,.li d.2.2]) (fun d=>d.1.length<=l.length/\(∀t∈d.1,t.sec.length<=1000000)):=by
 refine Er Tryz.func256 ?_
 have hi:=Af2 (fun t:F6=>!t.used) l
 refine Bq<|.seq ?_
 obtain⟨Y1,cY1,qY1⟩:=Em (Lk l (by assumption) (by assumption))
 refine B8 Dy cY1 ?_
 refine Br ?_ ?_<;>intro h36
 ·refine Bq ?_
  exact .ret (Ep Dy ([],0,1) (by first | exact⟨by simp,M8 ht (by exact hs)⟩ | exact⟨Ae _,fun t h=>absurd h A8⟩))
 refine Bp<|.seq<|.L Dy (P8 l p) ?_
 refine Br ?_ ?_<;>intro h40
 ·refine Bq ?_
  exact .ret (Ep Dy ([],0,12) (by first | exact⟨by simp,M8 ht (by exact hs)⟩ | exact⟨Ae _,fun t h=>absurd h A8⟩))
 obtain⟨hp0,tp,hp1,_⟩:=Q0 (by simpa using h40)
 have hp2:=(Ab.1 hp1).1
 refine Bp ?_
 obtain⟨e1,H1⟩:=gx l p.toNat
 refine Bu H1<|.seq ?_
 refine B8 H1 (U4 ri e1.ri) ?_
 refine Br ?_ ?_<;>intro h67
 ·refine Bu H1 ?_
  exact .ret (Ep H1 ([],0,8) (by first | exact⟨by simp,M8 ht (by exact hs)⟩ | exact⟨Ae _,fun t h=>absurd h A8⟩))
 refine Bp<|.H H1<|.seq ?_
 refine Bu H1 ?_
 refine Br ?_ ?_<;>intro h69
 ·refine B0 H1<|.seq ?_
  refine B8 H1 (Sg (IntKind.i64.wrap (now+life)) e1.unt) ?_
  refine Br ?_ ?_<;>intro h76
  ·refine Bu H1 ?_
   exact .ret (Ep H1 ([],0,8) (by first | exact⟨by simp,M8 ht (by exact hs)⟩ | exact⟨Ae _,fun t h=>absurd h A8⟩))
  refine Bp<|.S (fun K kk=>by simp[go_sem,H1];refine .lo (Rr l _ [] (fun t=>!t.used) hl Ta Sz) (by simp[go_sem]) (by simp[AV.cln,Fb]) ?_;simp[go_sem,H1];exact kk)<|.seq ?_
  refine Bu H1 ?_
  refine Br ?_ ?_<;>intro h80
  ·refine Bu H1 ?_
   exact .ret (Ep H1 ([],0,10) (by first | exact⟨by simp,M8 ht (by exact hs)⟩ | exact⟨Ae _,fun t h=>absurd h A8⟩))
  refine Bp<|.L H1 (Lu l (by assumption) (by assumption)) ?_
  obtain⟨e2,H2⟩:=gx l ((Hx (fun t:F6=>!t.used) l).toNat)
  refine B3 (fun K kk=>by simp[go_sem,H1,H2];refine .lo (Ey.froz (Gf _ (by (simp;omega)) (by simp[T.plain]))) rfl (by simp[AV.cln,Fb]) ?_;simp[go_sem,H1,H2];(repeat first | exact kk | refine aK ?_)) ?_
  refine Bu (Fa H1 H2) ?_
  refine B2 Dy 1 ?_
  exact .ret (Ep (Fa H1 H2) ((l).set ((Hx (fun t:F6=>!t.used) l).toNat) ⟨true,sec,p,ri,c,IntKind.i64.wrap (now+life)⟩,(Hx (fun t:F6=>!t.used) l),0) (by exact⟨by simp,M8 ht (by exact hs)⟩))
 refine Bp<|.seq<|.L H1 (Sg 0 e1.unt) ?_
 refine Br ?_ ?_<;>intro h76
 ·refine Bu H1 ?_
  exact .ret (Ep H1 ([],0,8) (by first | exact⟨by simp,M8 ht (by exact hs)⟩ | exact⟨Ae _,fun t h=>absurd h A8⟩))
 refine Bp<|.S (fun K kk=>by simp[go_sem,H1];refine .lo (Rr l _ [] (fun t=>!t.used) hl Ta Sz) (by simp[go_sem]) (by simp[AV.cln,Fb]) ?_;simp[go_sem,H1];exact kk)<|.seq ?_
 refine Bu H1 ?_
 refine Br ?_ ?_<;>intro h80
 ·refine Bu H1 ?_
  exact .ret (Ep H1 ([],0,10) (by first | exact⟨by simp,M8 ht (by exact hs)⟩ | exact⟨Ae _,fun t h=>absurd h A8⟩))
 refine Bp<|.L H1 (Lu l (by assumption) (by assumption)) ?_
 obtain⟨e3,H3⟩:=gx l ((Hx (fun t:F6=>!t.used) l).toNat)
 refine B3 (fun K kk=>by simp[go_sem,H1,H3];refine .lo (Ey.froz (Gf _ (by (simp;omega)) (by simp[T.plain]))) rfl (by simp[AV.cln,Fb]) ?_;simp[go_sem,H1,H3];(repeat first | exact kk | refine aK ?_)) ?_
 refine Bu (Fa H1 H3) ?_
 refine B2 Dy 1 ?_
 exact .ret (Ep (Fa H1 H3) ((l).set ((Hx (fun t:F6=>!t.used) l).toNat) ⟨true,sec,p,ri,c,0⟩,(Hx (fun t:F6=>!t.used) l),0) (by exact⟨by simp,M8 ht (by exact hs)⟩))
theorem Aei (l:List F6) (slot:Int) (hl:l.length<=1000000) (ht:∀t∈l,t.sec.length<=1000000):Ct 234 [.mTok l,.li slot] (fun d:List F6×Int=>.tup [.mTok d.1,.li d.2]) (fun d=>d.1.length<=l.length/\(∀t∈d.1,t.sec.length<=1000000)):=by
 refine Er Tryz.func234 ?_
 refine Bq<|.seq ?_
 refine B8 Dy (Ag3 l (by assumption) (by assumption)) ?_
 refine Br ?_ ?_<;>intro h10
 ·refine Bq ?_
  refine Bz (Fk ?_);simp[go_sem]
  exact⟨([],1),by rfl,(by first | exact⟨Nat.le_of_eq hy1.1,hy1.2⟩ | exact⟨Ae _,fun t h=>absurd h A8⟩)⟩
 have h8:=Ahh l hl ht (by simpa using h10)
 refine Bp<|.seq<|.R ?_
 refine Br ?_ ?_<;>intro h16
 ·refine Bq ?_
  refine Bz (Fk ?_);simp[go_sem]
  exact⟨([],8),by rfl,(by first | exact⟨Nat.le_of_eq hy1.1,hy1.2⟩ | exact⟨Ae _,fun t h=>absurd h A8⟩)⟩
 refine Bp<|.seq ?_
 obtain⟨e1,H1⟩:=gx l slot.toNat
 refine Bu H1 ?_
 refine Br ?_ ?_<;>intro h22
 ·refine Bu H1 ?_
  refine Bz (Fk ?_);simp[go_sem,H1]
  exact⟨([],12),by rfl,(by first | exact⟨Nat.le_of_eq hy1.1,hy1.2⟩ | exact⟨Ae _,fun t h=>absurd h A8⟩)⟩
 refine Bp<|.L H1 (Lu l (by assumption) (by assumption))<|.seq ?_
 refine Bu H1<|.block ?_
 refine Bs l.length (fun i1 (y1:(List F6))=>⟨[(0,.mTok l),(1,.li slot),(6,.own 0 y1.length),(26,.li l.length),(27,.li i1)],[.row 73 6 false false (O5 y1)]⟩) (fun i1 y1=>y1.length=l.length/\∀t∈y1,t.sec.length<=1000000) (l) (wQ [0] ?_ ?_) (⟨rfl,ht⟩) fun i1 y1 hi1 hy1=>?_
 ·simp[go_sem,H1]
 ·simp[go_sem,H1]
 refine Bu H1<|.seq ?_
 refine Br ?_ ?_<;>intro h28
 ·refine Bp<|.seq<|.block<|.H H1 ?_
  refine B8 H1 (Sy l i1 slot) ?_
  refine Br ?_ ?_<;>intro h33
  ·obtain⟨e2,H2⟩:=gx y1 i1
   refine Dr (Fa H1 H2) (T5) ?_
   refine B0 (Fa H1 H2) ?_
   refine⟨by omega,((y1).set i1 Uc),?_,wQ [0] ?_ ?_⟩
   ·first | exact hy1 | exact⟨(List.length_set ..).trans hy1.1,M8 hy1.2 (by simp[Uc])⟩
   all_goals simp[go_sem,Dw ((i1:Int)+1),H1,H2]
  refine Bp<|.H1 H1 ?_
  refine⟨by omega,(y1),?_,wQ [0] ?_ ?_⟩
  ·exact hy1
  all_goals simp[go_sem,Dw ((i1:Int)+1),H1]
 refine Bt<|.H H1 ?_
 refine Dm 0 ?_
 simp[go_sem]
 refine Bz (Fk ?_);simp[go_sem,H1]
 exact⟨(y1,0),by rfl,(by exact⟨Nat.le_of_eq hy1.1,hy1.2⟩)⟩
section
variable (m:D0) (h:1<=m.args.length) (h2:m.args.length<=1000000)
include h h2
theorem Qs:Ct 235 [m.g] (fun d:D0=>d.g) (fun d=>d.kind=14/\d.tok=[]/\d.data=[]/\d.args.length=2):=by
 refine Er Tryz.func235 ?_
 refine Bq ?_
 obtain⟨e1,H1⟩:=gx m.args 0
 refine C9 H1 ?_
 refine B2 Dy 2 ?_
 exact .ret (Ep H1 ⟨14,[],[m.kind,e1],[]⟩ (by simp))
def Gy:D0:=(Em (Qs m h h2)).choose
theorem Qz:PP 235 [] [m.g] [] (.agg ((Gy m h h2).a false)):=(Em (Qs m h h2)).choose_spec.1
theorem Wl:(Gy m h h2).kind=14/\(Gy m h h2).tok=[]/\(Gy m h h2).data=[]/\(Gy m h h2).args.length=2:=(Em (Qs m h h2)).choose_spec.2
end
section
variable (n:Int) (a:H0) (h1:a.sec.length<=1000000) (h2:a.lims.length<=1000000)
include n h1 h2
theorem Qt:Ct 82 [.li n,a.g] (fun d:Jq=>d.g) (fun d=>d.num=n/\d.ag=a/\d.toks=Ju a h1/\d.vehs=[]/\d.bk=Amd a.ra a.bu):=by
 refine Er Tryz.func82 ?_
 refine Bq ?_
 refine Cw (fun K kk=>by simp[go_sem];refine .l (M5 a (by assumption) (by assumption)) ?_;simp[go_sem];refine .l (Aln a (by assumption)) ?_;simp[go_sem];refine .l (Aof a.ra a.bu) ?_;simp[go_sem];exact kk) ?_
 exact .ret (Ep Dy ⟨n,a,(Ju a (by assumption)),[],(Amd a.ra a.bu)⟩ ⟨rfl,rfl,rfl,rfl,rfl⟩)
def Gz:Jq:=(Em (Qt n a h1 h2)).choose
theorem Aeu:PP 82 [] [.li n,a.g] [] (.agg ((Gz n a h1 h2).a false)):=(Em (Qt n a h1 h2)).choose_spec.1
theorem Wm:(Gz n a h1 h2).num=n/\(Gz n a h1 h2).ag=a/\(Gz n a h1 h2).toks=Ju a h1/\(Gz n a h1 h2).vehs=[]/\(Gz n a h1 h2).bk=Amd a.ra a.bu:=(Em (Qt n a h1 h2)).choose_spec.2
end
theorem Ago (l:List F6) (ag:Int) (b:List Int) (kind:Int) (now:Int) (hl:l.length<=1000000) (ht:∀t∈l,t.sec.length<=1000000) (hb:b.length<=1000000):Ct 208 [.mTok l,.li ag,.mY b,.li kind,.li now] (fun d:Int×Int=>.tup [.li d.1,.li d.2]) (fun d=>d.2=0->Im l d.1=true):=by
 refine Er Tryz.func208 ?_
 refine Bq<|.seq ?_
 by_cases hc1:b.length=10
 ·have hg1:((b.length:Int) != 10)=false:=by simp[hc1]
  obtain⟨e1,H1⟩:=gx b 0
  refine Bu (Fa hg1 H1) ?_
  refine Br ?_ ?_<;>intro h24
  ·refine Bu (Fa hg1 H1) ?_
   exact .ret (Ep (Fa hg1 H1) (0,9) (by first | exact fun _=>h32 | (intro h;simp at h;done)))
  refine Bp ?_
  obtain⟨e2,H2⟩:=gx b 1
  refine Bu (Jb hg1 H1 H2)<|.seq ?_
  refine B8 (Jb hg1 H1 H2) (P8 l (IntKind.i64.wrap e2)) ?_
  refine Br ?_ ?_<;>intro h32
  ·refine Bu (Jb hg1 H1 H2) ?_
   exact .ret (Ep (Jb hg1 H1 H2) (0,9) (by first | exact fun _=>h32 | (intro h;simp at h;done)))
  obtain⟨hp0,tp,hp1,hp2⟩:=Q0 (by simpa using h32)
  have hp3:=(Ab.1 hp1).1
  refine Bp ?_
  obtain⟨e3,H3⟩:=gx l ((IntKind.i64.wrap e2).toNat)
  refine Bu (P6 hg1 H1 H2 H3)<|.seq ?_
  refine Dc (by kernel_rfl) (by rfl) (by kernel_rfl) fun K1 hK1=>?_
  simp[go_sem,hg1,H1,H2,H3]
  repeat' with_reducible refine Ax ?_ ?_
  all_goals try (intros;(repeat' refine Ax ?_ ?_)<;>omega)
  obtain⟨Y1,cY1,qY1⟩:=Em (Agz (b.drop 2) e3.sec (by simp;omega) (ht e3 (Ac H3)))
  refine .lo cY1 (by simp[go_sem,Bf (show (tY b).length<=b.length by simp)]) (by simp[AV.cln,Fb]) ?_
  simp[go_sem,hg1,H1,H2,H3]
  refine Oq (by simp[go_sem]) (by simp[go_sem]) ?_
  simp[go_sem,hg1,H1,H2,H3]
  refine .lo (U2 e3 now) rfl (by simp[AV.cln,Fb]) ?_
  simp[go_sem,hg1,H1,H2,H3]
  refine Oq (by simp[go_sem]) (by simp[go_sem]) ?_
  simp[go_sem,hg1,H1,H2,H3]
  refine .lo (Aa4 e3.ri kind) rfl (by simp[AV.cln,Fb]) ?_
  simp[go_sem,hg1,H1,H2,H3]
  refine hK1 _ _ (by kernel_rfl) ?_;clear hK1
  refine Br ?_ ?_<;>intro h54
  ·refine Bu (P6 hg1 H1 H2 H3) ?_
   exact .ret (Ep (P6 hg1 H1 H2 H3) (0,9) (by first | exact fun _=>h32 | (intro h;simp at h;done)))
  refine Bp<|.H (P6 hg1 H1 H2 H3) ?_
  exact .ret (Ep (P6 hg1 H1 H2 H3) (IntKind.i64.wrap e2,0) (by exact fun _=>h32))
 have hg1:((b.length:Int) != 10)=true:=by simp[hc1];omega
 refine Bu hg1 ?_
 refine Cl ?_ ?_<;>intro h24<;>simp[go_sem] at h24
 refine Bu hg1 ?_
 exact .ret (Ep hg1 (0,9) (by first | exact fun _=>h32 | (intro h;simp at h;done)))
theorem Aaz (r:Jq) (hb:P2 r):Ct 231 [r.g] (fun d:Bool=>.lb d) (fun d=>True):=by
 refine Er Tryz.func231 ?_
 refine Bq ?_
 refine B4 (by rfl) fun K1 hK1=>?_
 simp +contextual[go_sem]
 refine P3 ?_
 simp +contextual[go_sem]
 refine .lo (Xz r.ag hb.sec hb.lims) rfl (by simp[AV.cln,Fb]) ?_
 simp +contextual[go_sem]
 refine P3 ?_
 simp +contextual[go_sem]
 obtain⟨Y1,cY1,qY1⟩:=Em (Lk r.toks hb.toks hb.tsec)
 refine .lo cY1 rfl (by simp[AV.cln,Fb]) ?_
 simp +contextual[go_sem]
 refine P3 ?_
 simp +contextual[go_sem]
 obtain⟨Y2,cY2,qY2⟩:=Em (Ls r.vehs hb.vehs)
 refine .lo cY2 rfl (by simp[AV.cln,Fb]) ?_
 simp +contextual[go_sem]
 refine P3 ?_
 simp +contextual[go_sem]
 obtain⟨Y3,cY3,qY3⟩:=Em (Ai3 r.bk)
 refine .lo cY3 rfl (by simp[AV.cln,Fb]) ?_
 simp +contextual[go_sem]
 refine hK1 _ ?_;clear hK1
 refine Bz (Fk ?_);simp[go_sem]
 exact⟨_,by rfl,trivial⟩
def LvR (k:Int) (a b:Ja):Prop:=if 2<=k/\k<=8 then Q6 a=(b,true) else b=a
section
variable (r:Jq) (m:D0) (now:Int) (hb:P2 r) (h:m.tok.length<=1000000)
include now hb h
theorem Pf:Ct 188 [r.g,m.g,.li now] (fun d:Jq×Int×Int=>.tup [d.1.g,.li d.2.1,.li d.2.2]) (fun d=>d.2.2=0->(∃bk,d.1={ r with bk:=bk }/\LvR m.kind r.bk bk)/\Im r.toks d.2.1=true):=by
 refine Er Tryz.func188 ?_
 refine Bq ?_
 obtain⟨Y1,cY1,qY1⟩:=Em (Ago r.toks r.num m.tok m.kind now hb.toks hb.tsec h)
 refine B8 Dy cY1<|.seq ?_
 refine Bq ?_
 refine Br ?_ ?_<;>intro h28
 ·refine Bq ?_
  exact .ret (Ep Dy (⟨0,⟨[],0,0,[],0,0,0,0⟩,[],[],⟨0,0,0⟩⟩,0,9) (fun h=>absurd h (by decide)))
 refine Bp<|.L Dy (Oc r hb)<|.seq ?_
 refine Bq ?_
 refine Br ?_ ?_<;>intro h39
 ·refine B8 Dy (Alp r.bk)<|.seq ?_
  refine Bq ?_
  refine Br ?_ ?_<;>intro h47
  ·refine Bq ?_
   exact .ret (Ep Dy (⟨0,⟨[],0,0,[],0,0,0,0⟩,[],[],⟨0,0,0⟩⟩,0,13) (fun h=>absurd h (by decide)))
  refine Bp<|.R1 ?_
  refine Bq ?_
  exact .ret (Ep Dy (⟨r.num,r.ag,r.toks,r.vehs,(Q6 r.bk).1⟩,Y1.1,0) (fun _=>⟨⟨_,rfl,by unfold LvR;rw[if_pos h39];exact Prod.ext rfl h47⟩,qY1 (by simpa using h28)⟩))
 refine Bp<|.R ?_
 exact .ret (Ep Dy (r,Y1.1,0) (fun _=>⟨⟨_,rfl,by unfold LvR;rw[if_neg (by omega)]⟩,qY1 (by simpa using h28)⟩))
def Hl:Jq×Int×Int:=(Em (Pf r m now hb h)).choose
theorem Add:PP 188 [] [r.g,m.g,.li now] [] (.tup [.agg ((Hl r m now hb h).1.a false),.lit (.int .i64 (Hl r m now hb h).2.1),.lit (.int .i64 (Hl r m now hb h).2.2)]):=(Em (Pf r m now hb h)).choose_spec.1
theorem Vc:(Hl r m now hb h).2.2=0->(∃bk,(Hl r m now hb h).1={ r with bk:=bk }/\LvR m.kind r.bk bk)/\Im r.toks (Hl r m now hb h).2.1=true:=(Em (Pf r m now hb h)).choose_spec.2
end
theorem Xk (r:Jq) (l:List Int) (slot:Int) (hb:P2 r) (hl:2<=l.length) (hl2:l.length<=1000000) (h0:0<=slot) (h1:slot<r.toks.length):Ct 236 [r.g,.mI l,.li slot] (fun d:List He×Int=>.tup [.mVeh d.1,.li d.2]) (fun d=>d.1.length<=9):=by
 refine Er Tryz.func236 ?_
 iterate 2 refine Bq ?_
 obtain⟨e1,H1⟩:=gx r.toks slot.toNat
 refine C9 H1 ?_
 obtain⟨e2,H2⟩:=gx l 0
 obtain⟨e3,H3⟩:=gx l 1
 obtain⟨Y1,cY1,qY1⟩:=Em (Yf r.vehs ⟨r.ag.sec,r.ag.ri,(if e1.cls<r.ag.cls then e1.cls else r.ag.cls),r.ag.lims,r.ag.rq,r.ag.se,r.ag.ra,r.ag.bu⟩ ⟨e2,e3⟩ hb.vehs)
 refine Dd (Jb H1 H2 H3) cY1 ?_
 exact .ret (Ep (Jb H1 H2 H3) (Y1.1,Y1.2) qY1)
section
variable (l:List Ew) (i:Int) (hl:l.length<=1000000) (hg:∀r∈l,r.legs.length<=1000000)
include i hl hg
theorem N7:Ct 214 [.mReq l,.li i] (fun d:List Ew×Int=>.tup [.mReq d.1,.li d.2]) (fun d=>d.1.length<=l.length/\∀r∈d.1,r.legs.length<=1000000):=by
 refine Er Tryz.func214 ?_
 refine Bq<|.seq ?_
 obtain⟨Y1,cY1,qY1⟩:=Em (Pd l 4 (by assumption) (by assumption))
 refine B8 Dy cY1 ?_
 refine Br ?_ ?_<;>intro h8
 ·refine Bq ?_
  exact .ret (Ep Dy ([],1) (by first | exact⟨Az _ _,fun r h=>hg r ((Bn.1 h).1)⟩ | exact⟨Ae _,fun t h=>absurd h A8⟩))
 refine Bp<|.seq<|.L Dy (Pq l i (by assumption)) ?_
 refine Br ?_ ?_<;>intro h12
 ·refine Bq ?_
  exact .ret (Ep Dy ([],12) (by first | exact⟨Az _ _,fun r h=>hg r ((Bn.1 h).1)⟩ | exact⟨Ae _,fun t h=>absurd h A8⟩))
 refine Bp ?_
 refine VX.sel1 0 rfl rfl (by simp) ?_
 simp[go_sem,-Prod.exists]
 refine B3 (fun K kk=>by simp[go_sem];refine .lo (M4 l _ [.iptr false [.li i] 0] (fun r=>r.id != i) hl hg (Wc _) (Yq i)) (by simp[go_sem]) (by simp[AV.cln,Fb]) ?_;simp[go_sem];exact kk) ?_
 exact .ret (Ep Dy ((List.filter (fun r:Ew=>r.id != i) l),0) (by exact⟨Az _ _,fun r h=>hg r ((Bn.1 h).1)⟩))
def Iw:List Ew×Int:=(Em (N7 l i hl hg)).choose
theorem Aa9:PP 214 [] [.mReq l,.li i] [] (.tup [.imm false 5 (G6 (Iw l i hl hg).1),.lit (.int .i64 (Iw l i hl hg).2)]):=(Em (N7 l i hl hg)).choose_spec.1
theorem Abh:(Iw l i hl hg).1.length<=l.length/\∀r∈(Iw l i hl hg).1,r.legs.length<=1000000:=(Em (N7 l i hl hg)).choose_spec.2
end
section
variable {n:Int}
theorem Axo (h0:0<=n) (h1:n<4611686018427387904):Ex .and .i64 n 127=n % 128:=by
 obtain⟨m,rfl⟩:=Int.eq_ofNat_of_zero_le h0
 have e:(BitVec.ofInt 64 (m:Int) &&& BitVec.ofInt 64 127).toNat=m % 128:=by
  rw[BitVec.toNat_and,BitVec.ofInt_natCast,BitVec.toNat_ofNat,Nat.mod_eq_of_lt (by omega),show (BitVec.ofInt 64 127).toNat=2 ^ 7 - 1 from rfl,Nat.and_two_pow_sub_one_eq_mod]
 show IntKind.i64.wrap (((BitVec.ofInt 64 (m:Int) &&& BitVec.ofInt 64 127).toNat:Nat):Int)=_
 rw[e,Dw _]
 omega
theorem Ay4:∀x:Fin 256,Ex .and .u8 (x.val:Int) 127=(x.val:Int) % 128:=by decide +kernel
theorem A00:∀x:Fin 128,Ex .or .u8 (x.val:Int) 128=(x.val:Int)+128:=by decide +kernel
theorem Ale {x:Int} (h:0<=x/\x<256):IntKind.u8.wrap x=x:=by
 simp[IntKind.wrap,IntKind.signed,IntKind.bits]
 omega
theorem As9 {f:Nat} (h0:0<=n) (h1:n<4611686018427387904):viN (f+1) n=if 128<=n then (n % 128+128)::viN f (n / 128) else [n]:=by
 rw[viN]
 by_cases h:128<=n
 ·have e:n.fdiv (2 ^ min 7 64)=n / 128:=by rw[Int.fdiv_eq_ediv_of_nonneg _ (by decide)];rfl
  have h3:=A00 ⟨(n % 128).toNat,by omega⟩
  rw[show (((⟨(n % 128).toNat,by omega⟩:Fin 128).val:Nat):Int)=n % 128 by show ((n % 128).toNat:Int)=_;omega] at h3
  rw[if_pos h,if_pos h,e,Axo h0 h1,Ale (by omega),h3]
 rw[if_neg h,if_neg h,Ale (by omega)]
theorem Ayr {a d:Int} {k:Nat} (ha:0<=a) (ha2:a<2 ^ k) (hd:0<=d) (hd2:d<128) (hk:k<=28):Ex .or .i64 a (d*2 ^ k)=a+d*2 ^ k:=by
 obtain⟨m,rfl⟩:=Int.eq_ofNat_of_zero_le ha
 obtain⟨q,rfl⟩:=Int.eq_ofNat_of_zero_le hd
 have hp:(2:Nat) ^ k<=2 ^ 28:=Nat.pow_le_pow_right (by decide) hk
 have hm:m<2 ^ k:=by exact_mod_cast ha2
 have hq:q*2 ^ k<=127*2 ^ 28:=Nat.mul_le_mul (by omega) hp
 have e:((q:Int)*2 ^ k)=((q*2 ^ k:Nat):Int):=by push_cast;rfl
 rw[e,Ao2 (by omega) (by omega) (by omega) (by omega),Int.toNat_natCast,Int.toNat_natCast,Nat.or_comm,Nat.mul_comm,<- Nat.two_pow_add_eq_or_of_lt hm]
 push_cast
 omega
variable {l:List Int}
theorem Ah1 {i f:Nat} {a x:Int} (h:l[i]? = some x) (hi:i<5) (hx:0<=x/\x<256) (ha:0<=a) (ha2:a<2 ^ (7*i)):T4 l (f+1) a i=if 128<=x then T4 l f (a+x % 128*2 ^ (7*i)) (i+1) else if 4294967295<a+x % 128*2 ^ (7*i)\/(0<i/\x=0) then (0,0,6) else (a+x % 128*2 ^ (7*i),(i:Int)+1,0):=by
 have h3:=Ay4 ⟨x.toNat,by omega⟩
 rw[show (((⟨x.toNat,by omega⟩:Fin 256).val:Nat):Int)=x by show (x.toNat:Int)=_;omega] at h3
 have hm:min (7*(i:Int)).toNat 64=7*i:=by omega
 have hp:(2:Nat) ^ (7*i)<=2 ^ 28:=Nat.pow_le_pow_right (by decide) (by omega)
 have hp2:((2:Int) ^ (7*i))=((2 ^ (7*i):Nat):Int):=by push_cast;rfl
 have h0:0<=x % 128*2 ^ (7*i):=Int.mul_nonneg (by omega) (by rw[hp2];omega)
 have h1:x % 128*2 ^ (7*i)<=127*268435456:=Int.mul_le_mul (by omega) (by rw[hp2];omega) (by rw[hp2];omega) (by decide)
 have e:Ex .or .i64 a (IntKind.i64.wrap (IntKind.i64.wrap (Ex .and .u8 x 127)*2 ^ min (7*(i:Int)).toNat 64))=a+x % 128*2 ^ (7*i):=by
  rw[h3,hm,Dw (x % 128),Dw _,Ayr ha ha2 (by omega) (by omega) (by omega)]
 rw[Ad3 h,e,if_neg (by omega)]
theorem Alk:∀(k:Nat) {l r:List Int} {i:Nat} {a m:Int},i+k=5->0<=a->a<2 ^ (7*i)->0<=m->a+m*2 ^ (7*i)<=4294967295->(0<i->1<=m)->(∀j,l[i+j]? = (viN k m++r)[j]?)->T4 l (k+1) a i=(a+m*2 ^ (7*i),(i:Int)+(viN k m).length,0)
 | 0,l,r,i,a,m,hi,ha,ha2,hm,hb,h1,hl=>by
  have:i=5:=by omega
  subst this
  have:=h1 (by omega)
  rw[show (2:Int) ^ (7*5)=34359738368 from rfl] at hb
  omega
 | k+1,l,r,i,a,m,hi,ha,ha2,hm,hb,h1,hl=>by
  have hp:(1:Int)<=2 ^ (7*i):=by
   have:(1:Nat)<=2 ^ (7*i):=Nat.one_le_two_pow
   exact_mod_cast this
  have hmb:m<=m*2 ^ (7*i):=by
   have:=Int.mul_le_mul_of_nonneg_left hp hm
   omega
  have hN:=As9 (f:=k) hm (by omega)
  have h0:=hl 0
  rw[hN] at h0 hl ⊢
  have hp2:(2:Int) ^ (7*(i+1))=2 ^ (7*i)*128:=by rw[show 7*(i+1)=7*i+7 by omega,Int.pow_add];rfl
  by_cases h:128<=m
  ·rw[if_pos h] at h0 hl ⊢
   have h0:l[i]? = some (m % 128+128):=h0
   rw[Ah1 h0 (by omega) (by omega) ha ha2,if_pos (by omega),show (m % 128+128) % 128=m % 128 by omega]
   generalize hd:m % 128=d
   generalize hq:m / 128=q
   have hm2:m=128*q+d:=by omega
   generalize hpp:(2:Int) ^ (7*i)=p at *
   have hdp:d*p<=127*p:=Int.mul_le_mul_of_nonneg_right (by omega) (by omega)
   have hdn:0<=d*p:=Int.mul_nonneg (by omega) (by omega)
   have e1:a+d*p+q*(p*128)=a+m*p:=by rw[hm2,Int.add_mul,Int.mul_comm p 128,<- Int.mul_assoc,Int.mul_comm q 128];omega
   rw[Alk k (r:=r) (m:=q) (by omega) (by omega) (by rw[hp2];omega) (by omega) (by rw[hp2];omega) (fun _=>by omega) (fun j=>by
    have:=hl (j+1)
    rw[hq] at this
    rw[show i+1+j=i+(j+1) by omega,this]
    rfl),hp2,e1]
   simp only[A6,Prod.mk.injEq,true_and,and_true]
   push_cast
   omega
  rw[if_neg h] at h0 hl ⊢
  have h0:l[i]? = some m:=h0
  rw[Ah1 h0 (by omega) (by omega) ha ha2,if_neg h,show m % 128=m by omega,if_neg (by omega)]
  rfl
theorem Aq3 (r:List Int) (h:(Gj n).2=0):Qw ((Gj n).1++r)=(n,((Gj n).1.length:Int),0):=by
 unfold Gj at h ⊢
 by_cases hn:n<0\/4294967295<n
 ·rw[if_pos hn] at h;cases h
 rw[if_neg hn]
 have:=Alk 5 (l:=viN 5 n++r) (r:=r) (i:=0) (a:=0) (m:=n) rfl (by decide) (by decide) (by omega) (by simp;omega) (fun h=>absurd h (by decide)) (fun j=>by rw[Bm])
 rw[Qw,this]
 simp
theorem Ap3:∀(f:Nat) (n:Int),(viN f n).length<=f+1
 | 0,n=>by simp[viN]
 | f+1,n=>by
  rw[viN]
  split
  ·simp[Ap3 f]
  simp
theorem Eh (n:Int):(Gj n).1.length<=6:=by
 unfold Gj
 split
 ·simp
 exact Ap3 5 n
def codes (l:List Int):List Int:=(l.map fun a=>(Gj a).1).flatten
def O3 (l:List Int):Prop:=∀a∈l,(Gj a).2=0
theorem Aix:codes []=[]:=rfl
theorem Xj (a b:List Int):codes (a++b)=codes a++codes b:=by simp[codes]
theorem Aby (a:Int):codes [a]=(Gj a).1:=by simp[codes]
variable {i:Nat}
theorem Apd {e:Int} (h:l[i]? = some e):codes (l.take (i+1))=codes (l.take i)++(Gj e).1:=by rw[List.take_add_one,h,Xj];simp[codes]
theorem Aft {l r:List Int} {y:List Int×List Int} (h:y=(l.take i,codes (l.drop i)++r)) (hv:O3 l) (hi:i<l.length):(Qw y.2).2.2=0/\(y.1++[(Qw y.2).1],y.2.drop (Qw y.2).2.1.toNat)=(l.take (i+1),codes (l.drop (i+1))++r):=by
 have e:codes (l.drop i)++r=(Gj l[i]).1++(codes (l.drop (i+1))++r):=by
  rw[List.drop_eq_getElem_cons hi,<- List.append_assoc,<- Aby,<- Xj]
  rfl
 have hd:=Aq3 (codes (l.drop (i+1))++r) (hv l[i] (List.getElem_mem _))
 rw[h,e,hd]
 refine⟨rfl,?_⟩
 rw[List.take_add_one,Aa hi]
 simp
def vnl (n:Int):Nat:=if n<128 then 1 else if n<16384 then 2 else if n<2097152 then 3 else if n<268435456 then 4 else 5
theorem Alg (h:128<=n) (h2:n<=4294967295):vnl n=vnl (n / 128)+1:=by
 unfold vnl
 repeat' split
 all_goals omega
theorem Ali:∀(f:Nat) {n:Int},0<=n->n<=4294967295->n<128 ^ (f+1)->(viN f n).length=vnl n
 | 0,n,h0,h1,h2=>by
  have:n<128:=by simpa using h2
  rw[viN,vnl,if_pos this];rfl
 | f+1,n,h0,h1,h2=>by
  rw[As9 h0 (by omega)]
  by_cases h:128<=n
  ·rw[if_pos h,A6,Alg h h1,Ali f (by omega) (by omega) (by rw[Int.pow_succ] at h2;omega)]
  rw[if_neg h,vnl,if_pos (by omega)];rfl
theorem Yl (h:(Gj n).2=0):(Gj n).1.length=vnl n/\0<=n/\n<=4294967295:=by
 unfold Gj at h ⊢
 split
 ·rename_i h1;rw[if_pos h1] at h;cases h
 exact⟨Ali 5 (by omega) (by omega) (by rw[show (128:Int) ^ (5+1)=4398046511104 from rfl];omega),by omega,by omega⟩
def Yk (l:List Int):Nat:=(l.map vnl).sum
theorem Ahz {e:Int} (h:l[i]? = some e):Yk (l.take (i+1))=Yk (l.take i)+vnl e:=by
 unfold Yk
 rw[List.take_add_one,h]
 simp
theorem R3:∀{l:List Int},O3 l->(codes l).length=Yk l
 | [],_=>rfl
 | a::l,h=>by
  have h1:=(Yl (h a (List.mem_cons_self ..))).1
  have h2:=R3 (l:=l) fun b hb=>h b (List.mem_cons_of_mem _ hb)
  show ((Gj a).1++codes l).length=vnl a+Yk l
  rw[Bo,h1,h2]
end
end Go.Proofs.YtkkimgjinbaemaaGreat
