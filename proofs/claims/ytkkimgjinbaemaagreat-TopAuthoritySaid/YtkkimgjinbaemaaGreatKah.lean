/- The walk. -/
import Derived.Test.YtkkimgjinbaemaaGreatKag
noncomputable section
namespace Go.Proofs.YtkkimgjinbaemaaGreat
open Go.RowKit
set_option linter.unusedVariables false
set_option linter.unusedSimpArgs false
set_option linter.defProp false
set_option linter.unusedSectionVars false
set_option maxRecDepth 100000
set_option maxHeartbeats 4000000
section
variable {n:Int}
theorem A0u (h0:0<=n) (h1:n<4611686018427387904):Ey .and .i64 n 127=n % 128:=by
 obtain⟨m,rfl⟩:=Int.eq_ofNat_of_zero_le h0
 have e:(BitVec.ofInt 64 (m:Int) &&& BitVec.ofInt 64 127).toNat=m % 128:=by
  rw[BitVec.toNat_and,BitVec.ofInt_natCast,BitVec.toNat_ofNat,Nat.mod_eq_of_lt (by omega),show (BitVec.ofInt 64 127).toNat=2 ^ 7 - 1 from rfl,Nat.and_two_pow_sub_one_eq_mod]
 show IntKind.i64.wrap (((BitVec.ofInt 64 (m:Int) &&& BitVec.ofInt 64 127).toNat:Nat):Int)=_
 rw[e,Dx _]
 omega
theorem A2p:∀x:Fin 256,Ey .and .u8 (x.val:Int) 127=(x.val:Int) % 128:=by decide +kernel
theorem A4y:∀x:Fin 128,Ey .or .u8 (x.val:Int) 128=(x.val:Int)+128:=by decide +kernel
theorem Ul {x:Int} (h:0<=x/\x<256):IntKind.u8.wrap x=x:=by
 simp[IntKind.wrap,IntKind.signed,IntKind.bits]
 omega
theorem Ach {f:Nat} (h0:0<=n) (h1:n<4611686018427387904):viN (f+1) n=if 128<=n then (n % 128+128)::viN f (n / 128) else [n]:=by
 rw[viN]
 by_cases h:128<=n
 ·have e:n.fdiv (2 ^ min 7 64)=n / 128:=by rw[Int.fdiv_eq_ediv_of_nonneg _ (by decide)];rfl
  have h3:=A4y ⟨(n % 128).toNat,by omega⟩
  rw[show (((⟨(n % 128).toNat,by omega⟩:Fin 128).val:Nat):Int)=n % 128 by show ((n % 128).toNat:Int)=_;omega] at h3
  rw[if_pos h,if_pos h,e,A0u h0 h1,Ul (by omega),h3]
 rw[if_neg h,if_neg h,Ul (by omega)]
theorem A18 {a d:Int} {k:Nat} (ha:0<=a) (ha2:a<2 ^ k) (hd:0<=d) (hd2:d<128) (hk:k<=28):Ey .or .i64 a (d*2 ^ k)=a+d*2 ^ k:=by
 obtain⟨m,rfl⟩:=Int.eq_ofNat_of_zero_le ha
 obtain⟨q,rfl⟩:=Int.eq_ofNat_of_zero_le hd
 have hp:(2:Nat) ^ k<=2 ^ 28:=Nat.pow_le_pow_right (by decide) hk
 have hm:m<2 ^ k:=by exact_mod_cast ha2
 have hq:q*2 ^ k<=127*2 ^ 28:=Nat.mul_le_mul (by omega) hp
 have e:((q:Int)*2 ^ k)=((q*2 ^ k:Nat):Int):=by push_cast;rfl
 rw[e,Aq5 (by omega) (by omega) (by omega) (by omega),Int.toNat_natCast,Int.toNat_natCast,Nat.or_comm,Nat.mul_comm,<- Nat.two_pow_add_eq_or_of_lt hm]
 push_cast
 omega
variable {l:List Int}
theorem Ajh {i f:Nat} {a x:Int} (h:l[i]? = some x) (hi:i<5) (hx:0<=x/\x<256) (ha:0<=a) (ha2:a<2 ^ (7*i)):Vk l (f+1) a i=if 128<=x then Vk l f (a+x % 128*2 ^ (7*i)) (i+1) else if 4294967295<a+x % 128*2 ^ (7*i)\/(0<i/\x=0) then (0,0,6) else (a+x % 128*2 ^ (7*i),(i:Int)+1,0):=by
 have h3:=A2p ⟨x.toNat,by omega⟩
 rw[show (((⟨x.toNat,by omega⟩:Fin 256).val:Nat):Int)=x by show (x.toNat:Int)=_;omega] at h3
 have hm:min (7*(i:Int)).toNat 64=7*i:=by omega
 have hp:(2:Nat) ^ (7*i)<=2 ^ 28:=Nat.pow_le_pow_right (by decide) (by omega)
 have hp2:((2:Int) ^ (7*i))=((2 ^ (7*i):Nat):Int):=by push_cast;rfl
 have h0:0<=x % 128*2 ^ (7*i):=Int.mul_nonneg (by omega) (by rw[hp2];omega)
 have h1:x % 128*2 ^ (7*i)<=127*268435456:=Int.mul_le_mul (by omega) (by rw[hp2];omega) (by rw[hp2];omega) (by decide)
 have e:Ey .or .i64 a (IntKind.i64.wrap (IntKind.i64.wrap (Ey .and .u8 x 127)*2 ^ min (7*(i:Int)).toNat 64))=a+x % 128*2 ^ (7*i):=by
  rw[h3,hm,Dx (x % 128),Dx _,A18 ha ha2 (by omega) (by omega) (by omega)]
 rw[Aff h,e,if_neg (by omega)]
theorem Ank:∀(k:Nat) {l r:List Int} {i:Nat} {a m:Int},i+k=5->0<=a->a<2 ^ (7*i)->0<=m->a+m*2 ^ (7*i)<=4294967295->(0<i->1<=m)->(∀j,l[i+j]? = (viN k m++r)[j]?)->Vk l (k+1) a i=(a+m*2 ^ (7*i),(i:Int)+(viN k m).length,0)
 | 0,l,r,i,a,m,hi,ha,ha2,hm,hb,h1,hl=>by
  have:i=5:=by omega
  subst this
  have:=h1 (by omega)
  rw[show (2:Int) ^ (7*5)=34359738368 from rfl] at hb
  omega
 | k+1,l,r,i,a,m,hi,ha,ha2,hm,hb,h1,hl=>by
  have hp:(1:Int)<=2 ^ (7*i):=by
   have:(1:Nat)<=2 ^ (7*i):=Nat.one_le_two_pow
   exact_mod_cast this
  have hmb:m<=m*2 ^ (7*i):=by
   have:=Int.mul_le_mul_of_nonneg_left hp hm
   omega
  have hN:=Ach (f:=k) hm (by omega)
  have h0:=hl 0
  rw[hN] at h0 hl ⊢
  have hp2:(2:Int) ^ (7*(i+1))=2 ^ (7*i)*128:=by rw[show 7*(i+1)=7*i+7 by omega,Int.pow_add];rfl
  by_cases h:128<=m
  ·rw[if_pos h] at h0 hl ⊢
   have h0:l[i]? = some (m % 128+128):=h0
   rw[Ajh h0 (by omega) (by omega) ha ha2,if_pos (by omega),show (m % 128+128) % 128=m % 128 by omega]
   generalize hd:m % 128=d
   generalize hq:m / 128=q
   have hm2:m=128*q+d:=by omega
   generalize hpp:(2:Int) ^ (7*i)=p at *
   have hdp:d*p<=127*p:=Int.mul_le_mul_of_nonneg_right (by omega) (by omega)
   have hdn:0<=d*p:=Int.mul_nonneg (by omega) (by omega)
   have e1:a+d*p+q*(p*128)=a+m*p:=by rw[hm2,Int.add_mul,Int.mul_comm p 128,<- Int.mul_assoc,Int.mul_comm q 128];omega
   rw[Ank k (r:=r) (m:=q) (by omega) (by omega) (by rw[hp2];omega) (by omega) (by rw[hp2];omega) (fun _=>by omega) (fun j=>by
    have:=hl (j+1)
    rw[hq] at this
    rw[show i+1+j=i+(j+1) by omega,this]
    rfl),hp2,e1]
   simp only[A6,Prod.mk.injEq,true_and,and_true]
   push_cast
   omega
  rw[if_neg h] at h0 hl ⊢
  have h0:l[i]? = some m:=h0
  rw[Ajh h0 (by omega) (by omega) ha ha2,if_neg h,show m % 128=m by omega,if_neg (by omega)]
  rfl
theorem Atl (r:List Int) (h:(Fl n).2=0):Rv ((Fl n).1++r)=(n,((Fl n).1.length:Int),0):=by
 unfold Fl at h ⊢
 by_cases hn:n<0\/4294967295<n
 ·rw[if_pos hn] at h;cases h
 rw[if_neg hn]
 have:=Ank 5 (l:=viN 5 n++r) (r:=r) (i:=0) (a:=0) (m:=n) rfl (by decide) (by decide) (by omega) (by simp;omega) (fun h=>absurd h (by decide)) (fun j=>by rw[Bm])
 rw[Rv,this]
 simp
theorem Asb:∀(f:Nat) (n:Int),(viN f n).length<=f+1
 | 0,n=>by simp[viN]
 | f+1,n=>by
  rw[viN]
  split
  ·simp[Asb f]
  simp
theorem El (n:Int):(Fl n).1.length<=6:=by
 unfold Fl
 split
 ·simp
 exact Asb 5 n
def codes (l:List Int):List Int:=(l.map fun a=>(Fl a).1).flatten
def Jv (l:List Int):Prop:=∀a∈l,(Fl a).2=0
theorem Akm:codes []=[]:=rfl
theorem U5 (a b:List Int):codes (a++b)=codes a++codes b:=by simp[codes]
theorem Adb (a:Int):codes [a]=(Fl a).1:=by simp[codes]
variable {i:Nat}
theorem Arf {e:Int} (h:l[i]? = some e):codes (l.take (i+1))=codes (l.take i)++(Fl e).1:=by rw[List.take_add_one,h,U5];simp[codes]
theorem Ag9 {l r:List Int} {y:List Int×List Int} (h:y=(l.take i,codes (l.drop i)++r)) (hv:Jv l) (hi:i<l.length):(Rv y.2).2.2=0/\(y.1++[(Rv y.2).1],y.2.drop (Rv y.2).2.1.toNat)=(l.take (i+1),codes (l.drop (i+1))++r):=by
 have e:codes (l.drop i)++r=(Fl l[i]).1++(codes (l.drop (i+1))++r):=by
  rw[List.drop_eq_getElem_cons hi,<- List.append_assoc,<- Adb,<- U5]
  rfl
 have hd:=Atl (codes (l.drop (i+1))++r) (hv l[i] (List.getElem_mem _))
 rw[h,e,hd]
 refine⟨rfl,?_⟩
 rw[List.take_add_one,Aa hi]
 simp
def vnl (n:Int):Nat:=if n<128 then 1 else if n<16384 then 2 else if n<2097152 then 3 else if n<268435456 then 4 else 5
theorem Ang (h:128<=n) (h2:n<=4294967295):vnl n=vnl (n / 128)+1:=by
 unfold vnl
 repeat' split
 all_goals omega
theorem Ani:∀(f:Nat) {n:Int},0<=n->n<=4294967295->n<128 ^ (f+1)->(viN f n).length=vnl n
 | 0,n,h0,h1,h2=>by
  have:n<128:=by simpa using h2
  rw[viN,vnl,if_pos this];rfl
 | f+1,n,h0,h1,h2=>by
  rw[Ach h0 (by omega)]
  by_cases h:128<=n
  ·rw[if_pos h,A6,Ang h h1,Ani f (by omega) (by omega) (by rw[Int.pow_succ] at h2;omega)]
  rw[if_neg h,vnl,if_pos (by omega)];rfl
theorem Vl (h:(Fl n).2=0):(Fl n).1.length=vnl n/\0<=n/\n<=4294967295:=by
 unfold Fl at h ⊢
 split
 ·rename_i h1;rw[if_pos h1] at h;cases h
 exact⟨Ani 5 (by omega) (by omega) (by rw[show (128:Int) ^ (5+1)=4398046511104 from rfl];omega),by omega,by omega⟩
def Np (l:List Int):Nat:=(l.map vnl).sum
theorem Ajf {e:Int} (h:l[i]? = some e):Np (l.take (i+1))=Np (l.take i)+vnl e:=by
 unfold Np
 rw[List.take_add_one,h]
 simp
theorem Lm:∀{l:List Int},Jv l->(codes l).length=Np l
 | [],_=>rfl
 | a::l,h=>by
  have h1:=(Vl (h a (List.mem_cons_self ..))).1
  have h2:=Lm (l:=l) fun b hb=>h b (List.mem_cons_of_mem _ hb)
  show ((Fl a).1++codes l).length=vnl a+Np l
  rw[Bo,h1,h2]
end
section
section
variable (k:Int)
include k
def Ta:Option F5:=if k=13\/k=14\/k=15 then some ⟨0,2,0,0,0,0⟩ else if k=16 then some ⟨0,1,0,0,0,10⟩ else if k=17 then some ⟨0,1,0,0,0,-1⟩ else if k=18 then some ⟨0,1,3,0,16,0⟩ else if k=19 then some ⟨0,0,2,0,4,0⟩ else if k=20 then some ⟨0,4,0,0,0,0⟩ else none
def Rg:Option F5:=if k=1\/k=9\/k=12 then some ⟨10,0,0,0,0,0⟩ else if k=2 then some ⟨10,3,0,0,0,0⟩ else if k=3\/k=5\/k=8\/k=10\/k=11 then some ⟨10,1,0,0,0,0⟩ else if k=4 then some ⟨10,2,0,0,0,0⟩ else if k=6 then some ⟨10,3,4,1,3,0⟩ else if k=7 then some ⟨10,1,2,1,3,0⟩ else none
theorem Nu:Ct 74 [.li k] (fun d:F5×Bool=>.tup [d.1.g,.lb d.2]) (fun d=>(0<=d.1.tok/\∀s,Ta k=some s->d=(s,true))/\(∀s,Rg k=some s->d=(s,true))/\d.1.tok<=10/\0<=d.1.fix/\d.1.fix<=4/\0<=d.1.grp/\d.1.grp<=4/\0<=d.1.lea/\d.1.mos<=100/\(k=2->d.1.fix=3)/\(k=4->d.1.fix=2)/\(k=6->d.1.fix=3)/\((k=3\/k=5\/k=7\/k=8\/k=10\/k=11)->d.1.fix=1)):=by
 refine Ex Tryz.func74 ?_
 refine Bq<|.seq ?_
 refine Bq<|.block ?_
 refine Cf (by rfl) fun K1 hK1=>?_
 simp[go_sem]
 refine hK1 _ ⟨_,_,_,_,_,_,_,_,rfl,.more (by decide) rfl rfl (.one (by decide) rfl rfl),by decide,rfl,by simp[go_sem];rfl,by simp[go_sem];rfl,by simp[go_sem],?_⟩;clear hK1
 refine Br ?_ ?_<;>intro h5
 ·refine Bq ?_
  exact .ret (fin Dz (⟨10,0,0,0,0,0⟩,true) ⟨⟨by (try dsimp only);omega,fun s hs=>by unfold Ta at hs;(repeat' split at hs)<;>first | (exfalso;omega) | (cases hs;done) | (cases hs;rfl)⟩,fun s hs=>by unfold Rg at hs;(repeat' split at hs)<;>first | (exfalso;omega) | (cases hs;done) | (cases hs;rfl),by (try dsimp only);omega⟩)
 refine Bq ?_
 refine Br ?_ ?_<;>intro h10
 ·refine Bq ?_
  exact .ret (fin Dz (⟨10,3,0,0,0,0⟩,true) ⟨⟨by (try dsimp only);omega,fun s hs=>by unfold Ta at hs;(repeat' split at hs)<;>first | (exfalso;omega) | (cases hs;done) | (cases hs;rfl)⟩,fun s hs=>by unfold Rg at hs;(repeat' split at hs)<;>first | (exfalso;omega) | (cases hs;done) | (cases hs;rfl),by (try dsimp only);omega⟩)
 refine Cf (by rfl) fun K1 hK1=>?_
 simp[go_sem]
 refine hK1 _ ⟨_,_,_,_,_,_,_,_,rfl,.more (by decide) rfl rfl (.more (by decide) rfl rfl (.more (by decide) rfl rfl (.one (by decide) rfl rfl))),by decide,rfl,by simp[go_sem];rfl,by simp[go_sem];rfl,by simp[go_sem],?_⟩;clear hK1
 refine Br ?_ ?_<;>intro h13
 ·refine Bq ?_
  exact .ret (fin Dz (⟨10,1,0,0,0,0⟩,true) ⟨⟨by (try dsimp only);omega,fun s hs=>by unfold Ta at hs;(repeat' split at hs)<;>first | (exfalso;omega) | (cases hs;done) | (cases hs;rfl)⟩,fun s hs=>by unfold Rg at hs;(repeat' split at hs)<;>first | (exfalso;omega) | (cases hs;done) | (cases hs;rfl),by (try dsimp only);omega⟩)
 refine Bq ?_
 refine Br ?_ ?_<;>intro h20
 ·refine Bq ?_
  exact .ret (fin Dz (⟨10,2,0,0,0,0⟩,true) ⟨⟨by (try dsimp only);omega,fun s hs=>by unfold Ta at hs;(repeat' split at hs)<;>first | (exfalso;omega) | (cases hs;done) | (cases hs;rfl)⟩,fun s hs=>by unfold Rg at hs;(repeat' split at hs)<;>first | (exfalso;omega) | (cases hs;done) | (cases hs;rfl),by (try dsimp only);omega⟩)
 refine Bq ?_
 refine Br ?_ ?_<;>intro h23
 ·refine Bq ?_
  exact .ret (fin Dz (⟨10,3,4,1,3,0⟩,true) ⟨⟨by (try dsimp only);omega,fun s hs=>by unfold Ta at hs;(repeat' split at hs)<;>first | (exfalso;omega) | (cases hs;done) | (cases hs;rfl)⟩,fun s hs=>by unfold Rg at hs;(repeat' split at hs)<;>first | (exfalso;omega) | (cases hs;done) | (cases hs;rfl),by (try dsimp only);omega⟩)
 refine Bq ?_
 refine Br ?_ ?_<;>intro h26
 ·refine Bq ?_
  exact .ret (fin Dz (⟨10,1,2,1,3,0⟩,true) ⟨⟨by (try dsimp only);omega,fun s hs=>by unfold Ta at hs;(repeat' split at hs)<;>first | (exfalso;omega) | (cases hs;done) | (cases hs;rfl)⟩,fun s hs=>by unfold Rg at hs;(repeat' split at hs)<;>first | (exfalso;omega) | (cases hs;done) | (cases hs;rfl),by (try dsimp only);omega⟩)
 refine Cf (by rfl) fun K1 hK1=>?_
 simp[go_sem]
 refine hK1 _ ⟨_,_,_,_,_,_,_,_,rfl,.more (by decide) rfl rfl (.one (by decide) rfl rfl),by decide,rfl,by simp[go_sem];rfl,by simp[go_sem];rfl,by simp[go_sem],?_⟩;clear hK1
 refine Br ?_ ?_<;>intro h29
 ·refine Bq ?_
  exact .ret (fin Dz (⟨0,2,0,0,0,0⟩,true) ⟨⟨by (try dsimp only);omega,fun s hs=>by unfold Ta at hs;(repeat' split at hs)<;>first | (exfalso;omega) | (cases hs;done) | (cases hs;rfl)⟩,fun s hs=>by unfold Rg at hs;(repeat' split at hs)<;>first | (exfalso;omega) | (cases hs;done) | (cases hs;rfl),by (try dsimp only);omega⟩)
 refine Bq ?_
 refine Br ?_ ?_<;>intro h34
 ·refine Bq ?_
  exact .ret (fin Dz (⟨0,1,0,0,0,10⟩,true) ⟨⟨by (try dsimp only);omega,fun s hs=>by unfold Ta at hs;(repeat' split at hs)<;>first | (exfalso;omega) | (cases hs;done) | (cases hs;rfl)⟩,fun s hs=>by unfold Rg at hs;(repeat' split at hs)<;>first | (exfalso;omega) | (cases hs;done) | (cases hs;rfl),by (try dsimp only);omega⟩)
 refine Cf (by rfl) fun K1 hK1=>?_
 simp[go_sem]
 refine hK1 _ ⟨_,_,_,_,_,_,_,_,rfl,.one (by decide) rfl rfl,by decide,rfl,by simp[go_sem];rfl,by simp[go_sem];rfl,by simp[go_sem],?_⟩;clear hK1
 refine Br ?_ ?_<;>intro h37
 ·refine Bq ?_
  exact .ret (fin Dz (⟨0,1,0,0,0,(-1)⟩,true) ⟨⟨by (try dsimp only);omega,fun s hs=>by unfold Ta at hs;(repeat' split at hs)<;>first | (exfalso;omega) | (cases hs;done) | (cases hs;rfl)⟩,fun s hs=>by unfold Rg at hs;(repeat' split at hs)<;>first | (exfalso;omega) | (cases hs;done) | (cases hs;rfl),by (try dsimp only);omega⟩)
 refine Bq ?_
 refine Br ?_ ?_<;>intro h41
 ·refine Bq ?_
  exact .ret (fin Dz (⟨0,1,3,0,16,0⟩,true) ⟨⟨by (try dsimp only);omega,fun s hs=>by unfold Ta at hs;(repeat' split at hs)<;>first | (exfalso;omega) | (cases hs;done) | (cases hs;rfl)⟩,fun s hs=>by unfold Rg at hs;(repeat' split at hs)<;>first | (exfalso;omega) | (cases hs;done) | (cases hs;rfl),by (try dsimp only);omega⟩)
 refine Bq ?_
 refine Br ?_ ?_<;>intro h44
 ·refine Bq ?_
  exact .ret (fin Dz (⟨0,0,2,0,4,0⟩,true) ⟨⟨by (try dsimp only);omega,fun s hs=>by unfold Ta at hs;(repeat' split at hs)<;>first | (exfalso;omega) | (cases hs;done) | (cases hs;rfl)⟩,fun s hs=>by unfold Rg at hs;(repeat' split at hs)<;>first | (exfalso;omega) | (cases hs;done) | (cases hs;rfl),by (try dsimp only);omega⟩)
 refine Bq ?_
 refine Br ?_ ?_<;>intro h47
 ·refine Bq ?_
  exact .ret (fin Dz (⟨0,4,0,0,0,0⟩,true) ⟨⟨by (try dsimp only);omega,fun s hs=>by unfold Ta at hs;(repeat' split at hs)<;>first | (exfalso;omega) | (cases hs;done) | (cases hs;rfl)⟩,fun s hs=>by unfold Rg at hs;(repeat' split at hs)<;>first | (exfalso;omega) | (cases hs;done) | (cases hs;rfl),by (try dsimp only);omega⟩)
 refine Bq ?_
 refine Br ?_ ?_<;>intro h50
 ·refine Bq ?_
  exact .ret (fin Dz (⟨0,1,0,0,0,0⟩,true) ⟨⟨by (try dsimp only);omega,fun s hs=>by unfold Ta at hs;(repeat' split at hs)<;>first | (exfalso;omega) | (cases hs;done) | (cases hs;rfl)⟩,fun s hs=>by unfold Rg at hs;(repeat' split at hs)<;>first | (exfalso;omega) | (cases hs;done) | (cases hs;rfl),by (try dsimp only);omega⟩)
 refine Bp<|.R ?_
 exact .ret (fin Dz (⟨0,0,0,0,0,0⟩,false) ⟨⟨by (try dsimp only);omega,fun s hs=>by unfold Ta at hs;(repeat' split at hs)<;>first | (exfalso;omega) | (cases hs;done) | (cases hs;rfl)⟩,fun s hs=>by unfold Rg at hs;(repeat' split at hs)<;>first | (exfalso;omega) | (cases hs;done) | (cases hs;rfl),by (try dsimp only);omega⟩)
def D0:F5×Bool:=(Ep (Nu k)).choose
theorem Sv:PP 74 [] [.li k] [] (.tup [.agg ((D0 k).1.a false),.lit (.bool (D0 k).2)]):=(Ep (Nu k)).choose_spec.1
theorem Gm:(0<=(D0 k).1.tok/\∀s,Ta k=some s->(D0 k)=(s,true))/\(∀s,Rg k=some s->(D0 k)=(s,true))/\(D0 k).1.tok<=10/\0<=(D0 k).1.fix/\(D0 k).1.fix<=4/\0<=(D0 k).1.grp/\(D0 k).1.grp<=4/\0<=(D0 k).1.lea/\(D0 k).1.mos<=100/\(k=2->(D0 k).1.fix=3)/\(k=4->(D0 k).1.fix=2)/\(k=6->(D0 k).1.fix=3)/\((k=3\/k=5\/k=7\/k=8\/k=10\/k=11)->(D0 k).1.fix=1):=(Ep (Nu k)).choose_spec.2
end
section
variable (l:List F0) (st:Int) (hl:l.length<=1000000)
include st hl
theorem Rs:Ct 176 [.mLight l,.li st] (fun d:List Int=>.mI d) (fun d=>d.length=l.length):=by
 refine Ex Tryz.func176 ?_
 refine Bq ?_
 refine Bt Dz<|.seq ?_
 refine Bq<|.block ?_
 refine Bs l.length (fun i1 (y1:(List Int))=>⟨[(1,.li st),(5,.own 0 y1.length),(11,.mLight l),(12,.li l.length),(13,.li i1)],[.row 3 1 false false (tI y1)]⟩) (fun i1 y1=>y1.length=l.length) (List.replicate l.length 0) (wk Dz [0]) (by simp) fun i1 y1 hi1 hy1=>?_
 refine Bq<|.seq ?_
 refine Br ?_ ?_<;>intro h14
 ·refine Bp<|.seq<|.block ?_
  obtain⟨e1,H1⟩:=gx l i1
  refine Bt H1 ?_
  obtain⟨e2,H2⟩:=gx y1 i1
  refine Bt (Fa H1 H2) ?_
  refine Ds 0 rfl (by simp) (fun x:Int=>[T.lit (Value.int IntKind.i64 x)]) l.length ?_ fun R hR=>?_
  ·apply Lf
   ·repeat' first | exact Nk | exact Nj | exact Ni (x:=0) rfl | apply Lb | apply Ld | apply Lc | apply Rf | apply (fun h=>Re (x:=_) h rfl)
   first | rfl | omega
  simp[go_sem,-Prod.exists]
  refine Bt (Hq H1 H2 hR) ?_
  refine Br ?_ ?_<;>intro h25
  ·obtain⟨e3,H3⟩:=gx R i1
   refine B0 (Tf H1 H2 hR H3) ?_
   refine B0 (Tf H1 H2 hR H3) ?_
   refine⟨by omega,((R).set i1 1),?_,wk (cj6 (Dx ((i1:Int)+1)) H1 H2 hR H3 hy1) [0]⟩
   first | omega | (simp;omega)
  refine Bp<|.H1 (Hq H1 H2 hR) ?_
  refine⟨by omega,(R),?_,wk (X9 (Dx ((i1:Int)+1)) H1 H2 hR hy1) [0]⟩
  omega
 refine Bu<|.R ?_
 refine B2 Dz 0 ?_
 exact .ret (fin Dz y1 (by omega))
def Oc:List Int:=(Ep (Rs l st hl)).choose
theorem Agc:PP 176 [] [.mLight l,.li st] [] (.mI (Oc l st hl)):=(Ep (Rs l st hl)).choose_spec.1
theorem Ag2:(Oc l st hl).length=l.length:=(Ep (Rs l st hl)).choose_spec.2
end
theorem Aln {α β:Type} (f:α->β) (l:List α):List.take l.length (l.map f)=l.map f:=by rw[Bf (by simp)]
attribute [go_sem] Aln
theorem Asd (l:List Int):∀(f:Nat) (n:Int) (i:Nat),(Vk l f n i).2.2=0->0<=(Vk l f n i).2.1/\(Vk l f n i).2.1<=l.length
 | 0,n,i,h=>by simp[Vk] at h
 | f+1,n,i,h=>by
  cases hx:l[i]? with
  | none=>simp[Vk,hx] at h
  | some x =>
   have hi:=(Ab.1 hx).1
   rw[Aff hx] at h ⊢
   split at h
   ·simp at h
   rename_i h1
   rw[if_neg h1]
   split at h
   ·rename_i h2
    rw[if_pos h2]
    exact Asd l f _ _ h
   rename_i h2
   rw[if_neg h2]
   split at h
   ·simp at h
   rename_i h3
   rw[if_neg h3]
   simp
   omega
variable {l:List Int}
theorem Avz (h:(Rv l).2.2=0):0<=(Rv l).2.1/\(Rv l).2.1<=l.length:=Asd l 6 0 0 h
theorem A2q (x:Int):0<=Ey .and .u8 x 127/\Ey .and .u8 x 127<=127:=by
 have h:(BitVec.ofInt 8 x &&& BitVec.ofInt 8 127).toNat<=127:=by
  rw[BitVec.toNat_and]
  exact Ak Nat.and_le_right (by decide)
 show 0<=IntKind.u8.wrap (((BitVec.ofInt 8 x &&& BitVec.ofInt 8 127).toNat:Nat):Int)/\IntKind.u8.wrap (((BitVec.ofInt 8 x &&& BitVec.ofInt 8 127).toNat:Nat):Int)<=127
 generalize (BitVec.ofInt 8 x &&& BitVec.ofInt 8 127).toNat=y at h
 have:IntKind.u8.wrap (y:Int)=y:=by
  simp[IntKind.wrap,IntKind.signed,IntKind.bits]
  omega
 rw[this]
 omega
theorem Asc (l:List Int):∀(f:Nat) (n:Int) (i:Nat),0<=n->n<34359738368->i<=5->NB (Vk l f n i).1
 | 0,n,i,_,_,_=>by simp[Vk,NB]
 | f+1,n,i,h1,h2,h3=>by
  cases hx:l[i]? with
  | none=>simp[Vk,hx,NB]
  | some x =>
   rw[Aff hx]
   split
   ·simp[NB]
   rename_i h5
   obtain⟨ha,hb⟩:=A2q x
   generalize Ey .and .u8 x 127=y at ha hb
   have hz:0<=IntKind.i64.wrap (IntKind.i64.wrap y*2 ^ min (7*(i:Int)).toNat 64)/\IntKind.i64.wrap (IntKind.i64.wrap y*2 ^ min (7*(i:Int)).toNat 64)<34359738368:=by
    rw[Dx y]
    obtain rfl | rfl | rfl | rfl | rfl:i=0\/i=1\/i=2\/i=3\/i=4:=by omega
    all_goals
     first | rw[show (2:Int) ^ min (7*((0:Nat):Int)).toNat 64=1 from rfl] | rw[show (2:Int) ^ min (7*((1:Nat):Int)).toNat 64=128 from rfl] | rw[show (2:Int) ^ min (7*((2:Nat):Int)).toNat 64=16384 from rfl] | rw[show (2:Int) ^ min (7*((3:Nat):Int)).toNat 64=2097152 from rfl] | rw[show (2:Int) ^ min (7*((4:Nat):Int)).toNat 64=268435456 from rfl]
     rw[Dx _]
     omega
   generalize IntKind.i64.wrap (IntKind.i64.wrap y*2 ^ min (7*(i:Int)).toNat 64)=z at hz
   have hn:=Aq5 h1 (by omega) hz.1 (by omega)
   have hlt:n.toNat ||| z.toNat<2 ^ 35:=Nat.or_lt_two_pow (by omega) (by omega)
   rw[hn]
   split
   ·exact Asc l f _ _ (by omega) (by omega) (by omega)
   split
   ·simp[NB]
   rename_i h9
   exact⟨Int.natCast_nonneg _,by dsimp only;omega⟩
theorem A2a {x:Int} (h:∀a∈l,NB a) (hx:NB x):∀a∈l++[x],NB a:=fun a ha=>by
 rcases A0.1 ha with ha | ha
 ·exact h a ha
 rw[An.1 ha];exact hx
theorem Avy (l:List Int):NB (Rv l).1:=Asc l 6 0 0 (by omega) (by omega) (by omega)
theorem Ma (b:List Int) (n:Int) (hb:b.length<=1000000) (hn:0<=n) (hn2:n<=1000):∃d:List Int×List Int×Bool,PP 75 [] [.mY b,.li n] [.row 3 1 false false (tI d.1)] (.tup [.own 0 d.1.length,.mY d.2.1,.lb d.2.2])/\(d.1.length<=n.toNat/\d.2.1.length<=b.length/\(d.2.2=true->d.1.length=n.toNat)/\(d.2.2=false->d.1=[])/\(∀a∈d.1,NB a)/\∀l r,b=codes l++r->Jv l->(l.length:Int)=n->d=(l,r,true)):=by
 refine Oh (D:=List Int×List Int×Bool) (F:=fun d=>.tup [.own 0 d.1.length,.mY d.2.1,.lb d.2.2]) (S:=fun d=>[.row 3 1 false false (tI d.1)]) (Q:=fun d=>d.1.length<=n.toNat/\d.2.1.length<=b.length/\(d.2.2=true->d.1.length=n.toNat)/\(d.2.2=false->d.1=[])/\(∀a∈d.1,NB a)/\∀l r,b=codes l++r->Jv l->(l.length:Int)=n->d=(l,r,true)) Tryz.func75 rfl rfl rfl (by simp[Tryz.ntmps75]) ?_
 refine Bq ?_
 refine Bt Dz<|.seq ?_
 refine Bq<|.block ?_
 refine Bs n.toNat (fun i1 (y1:(List Int)×(List Int))=>⟨[(0,.mY y1.2),(7,.own 0 y1.1.length),(13,.li n),(14,.li i1)],[.row 3 1 false false (tI y1.1)]⟩) (fun i1 y1=>y1.1.length=i1/\y1.2.length<=b.length/\(∀a∈y1.1,NB a)/\∀l r,b=codes l++r->Jv l->(l.length:Int)=n->y1=(l.take i1,codes (l.drop i1)++r)) (List.replicate 0 0,b) (wk Dz [0]) (⟨rfl,Aj _,(fun a h=>by cases h),fun l r hb2 _ _=>by rw[hb2];rfl⟩) fun i1 y1 hi1 hy1=>?_
 refine Bq<|.seq ?_
 refine Br ?_ ?_<;>intro h15
 ·refine Bp<|.seq<|.block<|.L Dz (Aei y1.2 (by omega))<|.seq ?_
  refine Bq ?_
  refine Br ?_ ?_<;>intro h23
  ·refine Bq ?_
   refine Cg 4 3 1 (by decide) (k':=1) (by simp[go_sem]) ?_
   simp[go_sem,-Prod.exists]
   exact .ret ⟨([],[],false),rW Dz [1],(by exact⟨Ae _,Ae _,fun h=>absurd h Bool.false_ne_true,fun _=>rfl,(fun a h=>by cases h),fun l r hb2 hv2 hn3=>absurd (Ag9 (hy1.2.2.2 l r hb2 hv2 hn3) hv2 (by omega)).1 h23⟩)⟩
  have hv:=Avz h23
  refine Bp<|.H Dz ?_
  refine B0 Dz ?_
  refine Ci ?_
  exact⟨by omega,(y1.1++([(Rv y1.2).1]),y1.2.drop (((Rv y1.2).2.1).toNat)),⟨by simp;omega,by simp;omega,A2a hy1.2.2.1 (Avy _),fun l r hb2 hv2 hn3=>(Ag9 (hy1.2.2.2 l r hb2 hv2 hn3) hv2 (by omega)).2⟩,wk (Dx ((i1:Int)+1)) [0]⟩
 refine Bu<|.R ?_
 exact .ret ⟨(y1.1,y1.2,true),rW Dz [0],(by first | exact⟨Ae _,Ae _,fun h=>absurd h Bool.false_ne_true,fun _=>rfl,(fun a h=>by cases h),fun l r hb2 hv2 hn3=>absurd (Ag9 (hy1.2.2.2 l r hb2 hv2 hn3) hv2 (by omega)).1 h23⟩ | (refine⟨?_,?_,fun _=>?_,fun h=>absurd h (by simp),hy1.2.2.1,fun l r hb2 hv2 hn3=>?_⟩<;>first | (have e:=hy1.2.2.2 l r hb2 hv2 hn3;rw[Bf (by omega),List.drop_eq_nil_of_le (by omega)] at e;rw[e];rfl) | (dsimp only;omega)))⟩
end
section
def Ko (s:F5) (n:Int):Int×Bool:=if s.grp=0 then (0,n == s.fix) else if n - s.fix<0\/¬(n - s.fix).tmod s.grp=0 then (0,false) else ((n - s.fix).tdiv s.grp,decide (s.lea<=(n - s.fix).tdiv s.grp)&&decide ((n - s.fix).tdiv s.grp<=s.mos))
theorem A3g {a g:Int} (h:0<=a/\a<=1000000) (hg:0<=g):IntKind.i64.wrap (a.tdiv g)=a.tdiv g:=by
 have h1:0<=a.tdiv g:=Int.tdiv_nonneg h.1 hg
 have h2:a.tdiv g<=a:=Int.tdiv_le_self _ h.1
 exact Dx _
def msArgs (s:F5) (l:List Int):List Int:=if 0<s.grp then codes (l.take s.fix.toNat)++(Fl (Ko s l.length).1).1++codes (l.drop s.fix.toNat) else codes l
def R8 (s:F5) (l:List Int) (i:Nat):List Int:=if 0<s.grp/\s.fix<i then codes (l.take s.fix.toNat)++(Fl (Ko s l.length).1).1++codes ((l.take i).drop s.fix.toNat) else codes (l.take i)
theorem Aj5 {s:F5} {l:List Int} {i:Nat} {e:Int} (hi:(i:Int)=s.fix) (hg:0<s.grp) (he:l[i]? = some e):R8 s l i++(Fl (Ko s l.length).1).1++(Fl e).1=R8 s l (i+1):=by
 have hn:s.fix.toNat=i:=by omega
 have hl:=(Ab.1 he).1
 unfold R8
 rw[if_neg (by omega),if_pos ⟨hg,by omega⟩,hn,List.take_add_one,he,List.drop_append_of_le_length (by simp;omega),List.drop_eq_nil_of_le (by simp;omega)]
 simp[codes]
theorem Aj4 {s:F5} {l:List Int} {i:Nat} {e:Int} (h0:0<=s.fix) (hn:¬((i:Int)=s.fix/\0<s.grp)) (he:l[i]? = some e):R8 s l i++(Fl e).1=R8 s l (i+1):=by
 have hl:=(Ab.1 he).1
 unfold R8
 by_cases h:0<s.grp/\s.fix<(i:Int)
 ·rw[if_pos h,if_pos ⟨h.1,by omega⟩,List.take_add_one,he,List.drop_append_of_le_length (by simp;omega),U5,List.append_assoc,List.append_assoc,List.append_assoc]
  simp[codes]
 rw[if_neg h,if_neg (by omega),Arf he]
theorem Aha {s:F5} {l:List Int} (hi:(l.length:Int)=s.fix) (hg:0<s.grp):R8 s l l.length++(Fl (Ko s l.length).1).1=msArgs s l:=by
 have hn:s.fix.toNat=l.length:=by omega
 unfold R8 msArgs
 rw[if_neg (by omega),if_pos hg,hn,List.take_length,List.drop_eq_nil_of_le (Aj _),Akm,List.append_nil]
theorem Aj6 {s:F5} {l:List Int} (h0:0<=s.fix) (hg0:0<=s.grp) (hn:¬((l.length:Int)=s.fix/\0<s.grp)) (ho:(Ko s l.length).2=true):R8 s l l.length=msArgs s l:=by
 unfold R8 msArgs
 rw[List.take_length]
 by_cases hg:0<s.grp
 ·have:s.fix<=l.length:=by
   unfold Ko at ho
   rw[if_neg (by omega)] at ho
   split at ho
   ·cases ho
   omega
  rw[if_pos ⟨hg,by omega⟩,if_pos hg]
 rw[if_neg (by omega),if_neg hg]
variable {l:List Int}
theorem Af7 {i:Nat} {e:Int} (h:Jv (l.take i)) (he:l[i]? = some e) (h0:(Fl e).2=0):Jv (l.take (i+1)):=fun a ha=>by
 rw[List.take_add_one,he] at ha
 rcases A0.1 ha with ha | ha
 ·exact h a ha
 rw[An.1 ha];exact h0
structure Ol (m:Ea):Prop where
  kind:(D0 m.kind).2=true
  tok:(m.tok.length:Int)=(D0 m.kind).1.tok
  dat:(D0 m.kind).1.dat = -1\/(m.data.length:Int)=(D0 m.kind).1.dat
  grp:(Ko (D0 m.kind).1 m.args.length).2=true
  dl:m.data.length<=200
  args:Jv m.args
  len:(m.tok++msArgs (D0 m.kind).1 m.args++m.data).length<=200
def Lk (m:Ea):List Int×Int:=by
 classical
 exact if Ol m then (m.tok++msArgs (D0 m.kind).1 m.args++m.data,0) else ([],6)
variable {m:Ea}
theorem Ao0 (h:¬Ol m):([],6)=Lk m:=(if_neg h).symm
theorem Abq {m:Ea} (h:Ol m) {y:List Int} (hy:y=m.tok++msArgs (D0 m.kind).1 m.args):(y++m.data,0)=Lk m:=by rw[hy];exact (if_pos h).symm
structure A29 (S:F5×Bool) (b:List Int) (m:Ea):Prop where
  k:S.2=true
  bl:b.length<=200
  tl:S.1.tok<=b.length
  tk:b.take S.1.tok.toNat=m.tok
  dat:S.1.dat = -1\/(m.data.length:Int)=S.1.dat
  al:Jv m.args
  g0:S.1.grp=0->b.drop S.1.tok.toNat=codes m.args++m.data/\(m.args.length:Int)=S.1.fix
  g1:0<S.1.grp->∃g:Int,b.drop S.1.tok.toNat=codes (m.args.take S.1.fix.toNat)++(codes [g]++(codes (m.args.drop S.1.fix.toNat)++m.data))/\((m.args.take S.1.fix.toNat).length:Int)=S.1.fix/\Jv [g]/\S.1.lea<=g/\g<=S.1.mos/\((m.args.drop S.1.fix.toNat).length:Int)=g*S.1.grp
variable {b:List Int}
theorem A7j {k:Int} (hk:m.kind=k) (ho:Ol m) (hb:b=m.tok++msArgs (D0 k).1 m.args++m.data):A29 (D0 k) b m:=by
 subst hk
 have hq:=Gm m.kind
 obtain⟨h1,h2,h3,h4,h5,h6,h7⟩:=ho
 generalize D0 m.kind=S at *
 have htn:S.1.tok.toNat=m.tok.length:=by omega
 rw[List.append_assoc] at hb
 have hdr:b.drop S.1.tok.toNat=msArgs S.1 m.args++m.data:=by rw[hb,htn,List.drop_left]
 refine⟨h1,by rw[hb,<- List.append_assoc];exact h7,by rw[hb];simp;omega,by rw[hb,htn,List.take_left],h3,h6,fun hg=>?_,fun hg=>?_⟩
 ·refine⟨by rw[hdr,msArgs,if_neg (by omega)],?_⟩
  unfold Ko at h4
  rw[if_pos hg] at h4
  simpa using h4
 have hm:msArgs S.1 m.args=codes (m.args.take S.1.fix.toNat)++(Fl (Ko S.1 m.args.length).1).1++codes (m.args.drop S.1.fix.toNat):=by rw[msArgs,if_pos hg]
 rw[hm] at hdr
 unfold Ko at h4 hdr
 rw[if_neg (by omega)] at h4 hdr
 split at h4
 ·cases h4
 rename_i hn
 rw[if_neg hn] at hdr
 have h4:S.1.lea<=((m.args.length:Int) - S.1.fix).tdiv S.1.grp/\((m.args.length:Int) - S.1.fix).tdiv S.1.grp<=S.1.mos:=by simpa using h4
 have hmod:((m.args.length:Int) - S.1.fix).tmod S.1.grp=0:=by
  by_cases hz:((m.args.length:Int) - S.1.fix).tmod S.1.grp=0
  ·exact hz
  exact absurd (.inr hz) hn
 have h0:0<=(m.args.length:Int) - S.1.fix:=by omega
 have hdv:=Int.mul_tdiv_add_tmod ((m.args.length:Int) - S.1.fix) S.1.grp
 rw[hmod,Int.add_zero] at hdv
 have hnn:0<=((m.args.length:Int) - S.1.fix).tdiv S.1.grp:=Int.tdiv_nonneg h0 (by omega)
 generalize ((m.args.length:Int) - S.1.fix).tdiv S.1.grp=g at *
 refine⟨g,by rw[hdr,Adb];simp,by rw[A5];omega,fun a ha=>?_,h4.1,h4.2,?_⟩
 ·rw[An.1 ha];unfold Fl;rw[if_neg (by omega)]
 rw[Bc,Int.mul_comm g,hdv];omega
theorem Vm (h:Jv l) (n:Nat):Jv (l.take n):=fun a ha=>h a (Aq ha)
theorem O8 (h:Jv l) (n:Nat):Jv (l.drop n):=fun a ha=>h a (Ay ha)
theorem Rj {S:F5×Bool} {N1 N2:List Int×List Int×Bool} (hP:A29 S b m) (hg:0<S.1.grp) (h1:∀l r,b.drop S.1.tok.toNat=codes l++r->Jv l->(l.length:Int)=S.1.fix->N1=(l,r,true)) (h2:∀l r,N1.2.1=codes l++r->Jv l->(l.length:Int)=1->N2=(l,r,true)):∃g,N1.1=m.args.take S.1.fix.toNat/\N2=([g],codes (m.args.drop S.1.fix.toNat)++m.data,true)/\S.1.lea<=g/\g<=S.1.mos/\((m.args.drop S.1.fix.toNat).length:Int)=g*S.1.grp:=by
 obtain⟨g,p1,p2,p3,p4,p5,p6⟩:=hP.g1 hg
 have n1:=h1 _ _ p1 (Vm hP.al _) p2
 subst n1
 exact⟨g,rfl,h2 [g] _ rfl p3 rfl,p4,p5,p6⟩
end
theorem A43 {a b:Int} (h1:0<=a) (h2:a<=100) (h3:0<=b) (h4:b<=4):0<=a*b/\a*b<=400:=⟨Int.mul_nonneg h1 h3,by
 have:=Int.mul_le_mul h2 h4 h3 (by omega:(0:Int)<=100)
 omega⟩
section
variable (k:Int) (b:List Int) (hb:b.length<=1000000)
include k hb
theorem O6:Ct 50 [.li k,.mY b] (fun d:Ea×Int=>.tup [d.1.g,.li d.2]) (fun d=>(d.2=0->d.1.kind=k/\(D0 k).1.fix<=d.1.args.length/\d.1.args.length<=1000/\d.1.tok.length<=b.length/\d.1.data.length<=b.length/\∀a∈d.1.args,NB a)/\∀m,m.kind=k->Ol m->b=m.tok++(msArgs (D0 k).1 m.args++m.data)->d=(m,0)):=by
 refine Ex Tryz.func50 ?_
 have hv:=Sv k
 have hq0:=Gm k
 have hdp:∀m,m.kind=k->Ol m->b=m.tok++(msArgs (D0 k).1 m.args++m.data)->A29 (D0 k) b m:=fun m h1 h2 h3=>A7j h1 h2 (by rw[h3,List.append_assoc])
 generalize D0 k=S at hv hq0 hdp ⊢
 refine Bq ?_
 refine B8 Dz (hv)<|.seq ?_
 refine Bq ?_
 refine Br ?_ ?_<;>intro h19
 ·refine Bq ?_
  exact .ret (fin Dz (⟨0,[],[],[]⟩,5) ⟨fun h=>absurd h (by decide),fun m hk ho hb=>absurd (hdp m hk ho hb).k (by rw[h19];decide)⟩)
 refine Bp<|.seq<|.R ?_
 refine Br ?_ ?_<;>intro h30
 ·refine Bq ?_
  exact .ret (fin Dz (⟨0,[],[],[]⟩,6) ⟨fun h=>absurd h (by decide),fun m hk ho hb=>(by have hP:=hdp m hk ho hb;have:=hP.bl;have:=hP.tl;omega)⟩)
 refine Bp<|.G Dz ?_
 obtain⟨N1,hN1,hq1⟩:=Ma (b.drop S.1.tok.toNat) (S.1.fix) (by first | omega | (simp;omega)) (by omega) (by omega)
 simp only[Bc] at hq1
 refine B3 (fun K kk=>by simp[go_sem];refine .lo (hN1) (by simp[go_sem]) (by simp[AV.cln,Fu]) ?_;simp[go_sem];exact kk)<|.seq ?_
 refine Bq ?_
 refine Br ?_ ?_<;>intro h53
 ·refine Bq ?_
  obtain⟨N2,hN2,hq2⟩:=Ma N1.2.1 1 (by omega) (by omega) (by omega)
  refine B3 (fun K kk=>by simp[go_sem];refine .lo (hN2) (by simp[go_sem]) (by simp[AV.cln,Fu]) ?_;simp[go_sem];exact kk)<|.seq ?_
  by_cases hc11:N2.2.2=true
  ·have hln:N2.1.length=1:=hq2.2.2.1 hc11
   obtain⟨e1,H1⟩:=gx N2.1 0
   refine C3 (Fa hc11 H1) ?_
   refine Br ?_ ?_<;>intro h77
   ·refine Bt (Fa hc11 H1) ?_
    exact .ret (fin (Fa hc11 H1) (⟨0,[],[],[]⟩,6) ⟨fun h=>absurd h (by decide),fun m hk ho hb=>(by obtain⟨g,c1,c2,c3,c4,c5⟩:=Rj (hdp m hk ho hb) h53.2 hq1.2.2.2.2.2 hq2.2.2.2.2.2;(rw[c2] at H1;injection H1 with H1;omega))⟩)
   refine Bp ?_
   have hm:=A43 (a:=e1) (b:=S.1.grp) (by omega) (by omega) (by omega) (by omega)
   obtain⟨N3,hN3,hq3⟩:=Ma N2.2.1 (e1*S.1.grp) (by omega) (by omega) (by omega)
   have hw2:=Dx (e1*S.1.grp:Int)
   refine Cy (fun K kk=>by simp[go_sem,hc11,H1,hw2];(repeat refine aK ?_);refine .lo (hN3) (by simp[go_sem]) (by simp[AV.cln,Fu]) ?_;simp[go_sem,hc11,H1,hw2];exact kk) ?_
   refine B0 (Hq hc11 H1 hw2)<|.seq ?_
   refine B3 (fun K kk=>by simp +contextual[go_sem,hc11,H1,hw2];exact kk) ?_
   refine Br ?_ ?_<;>intro h107
   ·refine Bt (Hq hc11 H1 hw2) ?_
    exact .ret (fin (Hq hc11 H1 hw2) (⟨0,[],[],[]⟩,6) ⟨fun h=>absurd h (by decide),fun m hk ho hb=>(by have hP:=hdp m hk ho hb;(obtain⟨g,c1,c2,c3,c4,c5⟩:=Rj (hdp m hk ho hb) h53.2 hq1.2.2.2.2.2 hq2.2.2.2.2.2;rw[c2] at H1;injection H1 with H1;have n3:=hq3.2.2.2.2.2 _ _ (by rw[c2]) (O8 hP.al _) (by rw[<- H1];exact c5);have hd:=hP.dat;rw[n3] at h107;simp at h107;omega))⟩)
   refine Bp<|.S (fun K kk=>by simp[go_sem,hc11,H1,hw2];refine .lo cB rfl (by simp[AV.cln,Fu]) ?_;simp[go_sem,hc11,H1,hw2];refine .lo cB rfl (by simp[AV.cln,Fu]) ?_;simp[go_sem,hc11,H1,hw2];exact kk) ?_
   refine B2 Dz 2 ?_
   exact .ret (fin (Hq hc11 H1 hw2) (⟨k,b.take S.1.tok.toNat,N1.1++N3.1,N3.2.1⟩,0) (by (have hA:=hq1.2.2.1 h53.1;exact⟨fun _=>⟨rfl,by simp;omega,by simp;omega,by simp;omega,by dsimp only;omega,fun a ha=>(A0.1 ha).elim (hq1.2.2.2.2.1 a) (hq3.2.2.2.2.1 a)⟩,fun m hk ho hb=>(by have hP:=hdp m hk ho hb;obtain⟨g,c1,c2,c3,c4,c5⟩:=Rj (hdp m hk ho hb) h53.2 hq1.2.2.2.2.2 hq2.2.2.2.2.2;rw[c2] at H1;injection H1 with H1;have n3:=hq3.2.2.2.2.2 _ _ (by rw[c2]) (O8 hP.al _) (by rw[<- H1];exact c5);rw[n3,c1,hP.tk,<- hk];show ((⟨m.kind,m.tok,m.args.take _++m.args.drop _,m.data⟩:Ea),(0:Int))=(m,0);rw[List.take_append_drop])⟩)))
  have hz:N2.1[0]? = none:=by rw[hq2.2.2.2.1 (by simpa using hc11)];rfl
  refine C3 (Fa hc11 hz) ?_
  refine Cs ?_ ?_<;>intro h77<;>simp[go_sem] at h77
  refine Bt (Fa hc11 hz) ?_
  exact .ret (fin (Fa hc11 hz) (⟨0,[],[],[]⟩,6) ⟨fun h=>absurd h (by decide),fun m hk ho hb=>(by obtain⟨g,c1,c2,c3,c4,c5⟩:=Rj (hdp m hk ho hb) h53.2 hq1.2.2.2.2.2 hq2.2.2.2.2.2;first | (rw[c2] at H1;injection H1 with H1;omega) | exact absurd (congrArg (fun x=>x.2.2) c2) hc11)⟩)
 refine Bp<|.seq<|.S (fun K kk=>by simp +contextual[go_sem];exact kk) ?_
 refine Br ?_ ?_<;>intro h107
 ·refine Bq ?_
  exact .ret (fin Dz (⟨0,[],[],[]⟩,6) ⟨fun h=>absurd h (by decide),fun m hk ho hb=>(by have hP:=hdp m hk ho hb;first | (obtain⟨g,c1,c2,c3,c4,c5⟩:=Rj (hdp m hk ho hb) h53.2 hq1.2.2.2.2.2 hq2.2.2.2.2.2;rw[c2] at H1;injection H1 with H1;have n3:=hq3.2.2.2.2.2 _ _ (by rw[c2]) (O8 hP.al _) (by rw[<- H1];exact c5);have hd:=hP.dat;rw[n3] at h107;simp at h107;omega) | (by_cases hg:0<S.1.grp;(obtain⟨g,p1,p2,p3,p4,p5,p6⟩:=hP.g1 hg;have n1:=hq1.2.2.2.2.2 _ _ p1 (Vm hP.al _) p2;rw[n1] at h53;simp at h53;omega);(obtain⟨p1,p2⟩:=hP.g0 (by omega);have n1:=hq1.2.2.2.2.2 _ _ p1 hP.al p2;have hd:=hP.dat;rw[n1] at h107;simp at h107;omega)))⟩)
 refine Bp<|.S (fun K kk=>by simp[go_sem];refine .lo cB rfl (by simp[AV.cln,Fu]) ?_;simp[go_sem];refine .lo cB rfl (by simp[AV.cln,Fu]) ?_;simp[go_sem];exact kk) ?_
 refine B2 Dz 2 ?_
 exact .ret (fin Dz (⟨k,b.take S.1.tok.toNat,N1.1,N1.2.1⟩,0) (by first | (have hA:=hq1.2.2.1 h53.1;exact⟨fun _=>⟨rfl,by simp;omega,by simp;omega,by simp;omega,by dsimp only;omega,fun a ha=>(A0.1 ha).elim (hq1.2.2.2.2.1 a) (hq3.2.2.2.2.1 a)⟩,fun m hk ho hb=>(by have hP:=hdp m hk ho hb;obtain⟨g,c1,c2,c3,c4,c5⟩:=Rj (hdp m hk ho hb) h53.2 hq1.2.2.2.2.2 hq2.2.2.2.2.2;rw[c2] at H1;injection H1 with H1;have n3:=hq3.2.2.2.2.2 _ _ (by rw[c2]) (O8 hP.al _) (by rw[<- H1];exact c5);rw[n3,c1,hP.tk,<- hk];show ((⟨m.kind,m.tok,m.args.take _++m.args.drop _,m.data⟩:Ea),(0:Int))=(m,0);rw[List.take_append_drop])⟩) | (have hA:=hq1.2.2.1 h107.1;exact⟨fun _=>⟨rfl,by dsimp only;omega,by dsimp only;omega,by simp;omega,by dsimp only;omega,hq1.2.2.2.2.1⟩,fun m hk ho hb=>(by have hP:=hdp m hk ho hb;obtain⟨p1,p2⟩:=hP.g0 (by have:=h53 h107.1;omega);have n1:=hq1.2.2.2.2.2 _ _ p1 hP.al p2;rw[n1,hP.tk,<- hk])⟩)))
def Fd:Ea×Int:=(Ep (O6 k b hb)).choose
theorem Aco:PP 50 [] [.li k,.mY b] [] (.tup [.agg ((Fd k b hb).1.a false),.lit (.int .i64 (Fd k b hb).2)]):=(Ep (O6 k b hb)).choose_spec.1
theorem Pm:((Fd k b hb).2=0->(Fd k b hb).1.kind=k/\(D0 k).1.fix<=(Fd k b hb).1.args.length/\(Fd k b hb).1.args.length<=1000/\(Fd k b hb).1.tok.length<=b.length/\(Fd k b hb).1.data.length<=b.length/\∀a∈(Fd k b hb).1.args,NB a)/\∀m,m.kind=k->Ol m->b=m.tok++(msArgs (D0 k).1 m.args++m.data)->(Fd k b hb)=(m,0):=(Ep (O6 k b hb)).choose_spec.2
end
section
variable (s:F5) (n:Int) (hn:0<=n/\n<=1000000) (hf:0<=s.fix/\s.fix<=4) (hg:0<=s.grp/\s.grp<=4)
include hn hf hg
theorem Ve:Ct 159 [s.g,.li n] (fun d:Int×Bool=>.tup [.li d.1,.lb d.2]) (fun d=>d=Ko s n):=by
 refine Ex Tryz.func159 ?_
 refine Bq<|.seq ?_
 refine Bq ?_
 refine Br ?_ ?_<;>intro h10
 ·refine VX.D ?_
  exact .ret (fin Dz (0,((n:Int) == s.fix)) (by show _=Ko s n;rw[Ko,if_pos h10]))
 refine Bp ?_
 have hw1:=Dx (n - s.fix:Int)
 refine Bt hw1<|.seq ?_
 refine Bt hw1 ?_
 refine Br ?_ ?_<;>intro h27
 ·refine Bt hw1 ?_
  exact .ret (fin hw1 (0,false) (by show _=Ko s n;rw[Ko,if_neg h10,if_pos h27]))
 refine Bp<|.H hw1 ?_
 refine C3 hw1 ?_
 exact .ret (fin hw1 (IntKind.i64.wrap (Int.tdiv (n - s.fix) s.grp),(decide ((s.lea:Int)<=(IntKind.i64.wrap (Int.tdiv (n - s.fix) s.grp)))&&decide (((IntKind.i64.wrap (Int.tdiv (n - s.fix) s.grp)):Int)<=s.mos))) (by show _=Ko s n;rw[Ko,if_neg h10,if_neg (by omega),A3g (by omega) hg.1]))
def Vu:Int×Bool:=(Ep (Ve s n hn hf hg)).choose
theorem Ala:PP 159 [] [s.g,.li n] [] (.tup [.lit (.int .i64 (Vu s n hn hf hg).1),.lit (.bool (Vu s n hn hf hg).2)]):=(Ep (Ve s n hn hf hg)).choose_spec.1
theorem Al1:(Vu s n hn hf hg)=Ko s n:=(Ep (Ve s n hn hf hg)).choose_spec.2
theorem Ait:PP 159 [] [s.g,.li n] [] (.tup [.lit (.int .i64 (Ko s n).1),.lit (.bool (Ko s n).2)]):=by
 have h:=Ala s n hn hf hg
 rwa[Al1] at h
end
section
variable (m:Ea) (h1:m.tok.length<=10000) (h2:m.args.length<=10000) (h3:m.data.length<=10000)
include h1 h2 h3
theorem O5:Ct 136 [m.g] (fun d:List Int×Int=>.tup [.mY d.1,.li d.2]) (fun d=>d=Lk m):=by
 refine Ex Tryz.func136 ?_
 have hv:=Sv m.kind
 have hq0:=Gm m.kind
 have hgv:=Ait (D0 m.kind).1 m.args.length (by omega) (by omega) (by omega)
 have hno:=Ao0 (m:=m)
 have hye:=@Abq m
 have hok:=@Ol.mk m
 have hko:=@Ol.kind m
 have hto:=@Ol.tok m
 have hdo:=@Ol.dat m
 have hgo:=@Ol.grp m
 have hlo:=@Ol.dl m
 have hao:=@Ol.args m
 have hzo:=@Ol.len m
 have hp1:=@Aj5 (D0 m.kind).1 m.args
 have hp2:=@Aj4 (D0 m.kind).1 m.args
 have hp3:=@Aha (D0 m.kind).1 m.args
 have hp4:=@Aj6 (D0 m.kind).1 m.args
 have hp0:R8 (D0 m.kind).1 m.args 0=[]:=by unfold R8;rw[if_neg (by omega)];rfl
 generalize (D0 m.kind)=S at hv hq0 hgv hye hok hko hto hdo hgo hlo hao hzo hp1 hp2 hp3 hp4 hp0
 generalize hGr:Ko S.1 m.args.length=Gr at hgv hok hgo hp1 hp3 hp4
 refine B3 (fun K kk=>by simp[go_sem,Af];exact kk) ?_
 refine B3 (fun K kk=>by simp[go_sem,Af];refine .l (hv) ?_;simp[go_sem,Af];exact kk)<|.seq ?_
 refine B3 (fun K kk=>by simp +contextual[go_sem,Af];exact kk) ?_
 refine Br ?_ ?_<;>intro h41
 ·refine B3 (fun K kk=>by simp[go_sem,Af];exact kk) ?_
  refine Bz (Fj ?_);simp[go_sem,Af]
  exact⟨([],6),by rfl,(hno fun h=>by rcases h41 with (h4 | h4) | h4;(rw[hko h] at h4;cases h4);exact h4 (hto h);(rcases hdo h with h5 | h5;exact h4.1 h5;exact h4.2 h5))⟩
 refine Bp<|.S (fun K kk=>by simp[go_sem,Af];refine .l (hgv) ?_;simp[go_sem,Af];exact kk)<|.seq ?_
 refine B3 (fun K kk=>by simp +contextual[go_sem,Af];exact kk) ?_
 refine Br ?_ ?_<;>intro h57
 ·refine B3 (fun K kk=>by simp[go_sem,Af];exact kk) ?_
  refine Bz (Fj ?_);simp[go_sem,Af]
  exact⟨([],6),by rfl,(hno fun h=>by rcases h57 with h4 | h4;(rw[hgo h] at h4;cases h4);(have:=hlo h;omega))⟩
 refine Bp<|.S (fun K kk=>by simp[go_sem,Af];refine .lo (Gk _ (by first | (simp;done) | (simp;omega)) (by (simp[T.plain];done))) rfl (by simp[AV.cln,Fu]) ?_;simp[go_sem,Af];exact kk)<|.seq ?_
 have hw1:=Dx (m.args.length+1:Int)
 refine B3 (fun K kk=>by simp[go_sem,Af,hw1];exact kk)<|.block ?_
 refine Bs (m.args.length+1) (fun i1 (y1:(List Int))=>⟨[(1,.ptr 0 0),(4,.ptr 1 0),(6,.li Gr.1),(7,.own 2 y1.length),(64,.li (m.args.length+1)),(65,.li i1)],[.box 56 (m.a false),.box 171 [.li S.1.tok,.li S.1.fix,.li S.1.grp,.li S.1.lea,.li S.1.mos,.li S.1.dat],.row 5 1 false false (tY y1)]⟩) (fun i1 y1=>(y1.length<=m.tok.length+12*i1/\i1<=m.args.length)/\y1=m.tok++R8 S.1 m.args i1/\Jv (m.args.take i1)) (m.tok) (wk hw1 [0,1,2]) (⟨by simp,by simp[hp0],fun a h=>by cases h⟩) fun i1 y1 hi1 hy1=>?_
 refine B3 (fun K kk=>by simp[go_sem,Af,hw1];exact kk)<|.seq ?_
 refine Br ?_ ?_<;>intro h66
 ·refine Bp<|.seq<|.block<|.S (fun K kk=>by simp[go_sem,Af,hw1];exact kk)<|.seq ?_
  refine B3 (fun K kk=>by simp[go_sem,Af,hw1];exact kk) ?_
  refine Br ?_ ?_<;>intro h76
  ·refine B3 (fun K kk=>by simp[go_sem,Af,hw1];refine .l (Ql Gr.1) ?_;simp[go_sem,Af,hw1];exact kk) ?_
   refine C5 (by rfl) fun K1 hK1=>?_
   simp[go_sem,Af,hw1]
   repeat' with_reducible refine Ax ?_ ?_
   all_goals try (intros;(repeat' refine Ax ?_ ?_)<;>omega)
   all_goals try ((have q0:=El Gr.1);(try have q1:=El e1);(try have q2:=El e2);(try have q3:=El e3);(try have q4:=El e4);(try have q5:=El e5);(try have q6:=El e6);(try have q7:=El e7);(try have q8:=El e8);omega)
   refine hK1 _ ?_;clear hK1
   refine Ca<|.S (fun K kk=>by simp[go_sem,Af,hw1];exact kk) ?_
   refine Br ?_ ?_<;>intro h89
   ·refine Bu ?_
    refine B7 (by rfl) fun K1 hK1=>?_
    simp[go_sem,Af,hw1]
    repeat' with_reducible refine Ax ?_ ?_
    all_goals try (intros;(repeat' refine Ax ?_ ?_)<;>omega)
    all_goals try ((have q0:=El Gr.1);(try have q1:=El e1);(try have q2:=El e2);(try have q3:=El e3);(try have q4:=El e4);(try have q5:=El e5);(try have q6:=El e6);(try have q7:=El e7);(try have q8:=El e8);omega)
    refine hK1 _ ?_;clear hK1
    refine Ca<|.S (fun K kk=>by simp[go_sem,Af,hw1];exact kk) ?_
    refine Br ?_ ?_<;>intro h111
    ·refine B3 (fun K kk=>by simp[go_sem,Af,hw1];exact kk) ?_
     refine Bz (Fj ?_);simp[go_sem,Af,hw1]
     exact⟨([],6),by rfl,(by have hi:i1=m.args.length:=(by omega);have hy2:=hy1.2.1;have hv2:=hy1.2.2;rw[hi] at hy2 hv2;rw[List.take_length] at hv2;(have hA:=hp3 (by omega) h76.2;have hB:y1++(Fl Gr.1).1=m.tok++msArgs S.1 m.args:=(by rw[hy2,List.append_assoc,hA]);first | exact hye (hok h41.1.1 h41.1.2 (by omega) h57.1 (by omega) hv2 (by rw[<- hB];simp;omega)) hB | exact hno fun h=>(by have h9:=hzo h;rw[<- hB] at h9;simp at h9;omega)))⟩
    refine Bp<|.S (fun K kk=>by simp[go_sem,Af,hw1];exact kk) ?_
    refine B2 Dz 2 ?_
    refine Bz (Fj ?_);simp[go_sem,Af,hw1]
    exact⟨((y1++((Fl Gr.1).1))++m.data,0),by first | rfl | simp[go_sem],(by have hi:i1=m.args.length:=(by omega);have hy2:=hy1.2.1;have hv2:=hy1.2.2;rw[hi] at hy2 hv2;rw[List.take_length] at hv2;(have hA:=hp3 (by omega) h76.2;have hB:y1++(Fl Gr.1).1=m.tok++msArgs S.1 m.args:=(by rw[hy2,List.append_assoc,hA]);exact hye (hok h41.1.1 h41.1.2 (by omega) h57.1 (by omega) hv2 (by rw[<- hB];simp;omega)) hB))⟩
   refine Bp ?_
   obtain⟨e2,H2⟩:=gx m.args i1
   refine B3 (fun K kk=>by simp[go_sem,Af,hw1,H2];(repeat refine aK ?_);refine .l (Ql e2) ?_;simp[go_sem,Af,hw1,H2];exact kk)<|.seq ?_
   refine B3 (fun K kk=>by simp[go_sem,Af,hw1,H2];exact kk) ?_
   refine Br ?_ ?_<;>intro h100
   ·refine B3 (fun K kk=>by simp[go_sem,Af,hw1,H2];exact kk) ?_
    refine Bz (Fj ?_);simp[go_sem,Af,hw1,H2]
    exact⟨([],6),by rfl,(hno fun h=>h100 (hao h _ (Ac (by assumption))))⟩
   refine Bp ?_
   refine C5 (by rfl) fun K1 hK1=>?_
   simp[go_sem,Af,hw1,H2]
   repeat' with_reducible refine Ax ?_ ?_
   all_goals try (intros;(repeat' refine Ax ?_ ?_)<;>omega)
   all_goals try ((have q0:=El Gr.1);(try have q1:=El e1);(try have q2:=El e2);(try have q3:=El e3);(try have q4:=El e4);(try have q5:=El e5);(try have q6:=El e6);(try have q7:=El e7);(try have q8:=El e8);omega)
   refine hK1 _ ?_;clear hK1
   refine Ck (fun K kk=>by simp[go_sem,Af,hw1,H2];exact kk) ?_
   exact⟨by omega,((y1++((Fl Gr.1).1))++((Fl e2).1)),⟨⟨by first | omega | (simp only[Bo];(have q0:=El Gr.1);(have q2:=El e2);omega),by omega⟩,by rw[<- hp1 h76.1 h76.2 H2,hy1.2.1];simp only[List.append_assoc],Af7 hy1.2.2 H2 h100⟩,wk (Hq (Dx ((i1:Int)+1)) hw1 H2) [0,1,2]⟩
  refine Bp<|.seq<|.S (fun K kk=>by simp[go_sem,Af,hw1];exact kk) ?_
  refine Br ?_ ?_<;>intro h89
  ·refine Bu ?_
   refine B7 (by rfl) fun K1 hK1=>?_
   simp[go_sem,Af,hw1]
   repeat' with_reducible refine Ax ?_ ?_
   all_goals try (intros;(repeat' refine Ax ?_ ?_)<;>omega)
   all_goals try ((have q0:=El Gr.1);(try have q1:=El e1);(try have q2:=El e2);(try have q3:=El e3);(try have q4:=El e4);(try have q5:=El e5);(try have q6:=El e6);(try have q7:=El e7);(try have q8:=El e8);omega)
   refine hK1 _ ?_;clear hK1
   refine Ca<|.S (fun K kk=>by simp[go_sem,Af,hw1];exact kk) ?_
   refine Br ?_ ?_<;>intro h111
   ·refine B3 (fun K kk=>by simp[go_sem,Af,hw1];exact kk) ?_
    refine Bz (Fj ?_);simp[go_sem,Af,hw1]
    exact⟨([],6),by rfl,(by have hi:i1=m.args.length:=(by omega);have hy2:=hy1.2.1;have hv2:=hy1.2.2;rw[hi] at hy2 hv2;rw[List.take_length] at hv2;first | (have hA:=hp3 (by omega) h76.2;have hB:y1++(Fl Gr.1).1=m.tok++msArgs S.1 m.args:=(by rw[hy2,List.append_assoc,hA]);first | exact hye (hok h41.1.1 h41.1.2 (by omega) h57.1 (by omega) hv2 (by rw[<- hB];simp;omega)) hB | exact hno fun h=>(by have h9:=hzo h;rw[<- hB] at h9;simp at h9;omega)) | (have hA:=hp4 (by omega) (by omega) (by omega) h57.1;have hB:y1=m.tok++msArgs S.1 m.args:=(by rw[hy2,hA]);first | exact hye (hok h41.1.1 h41.1.2 (by omega) h57.1 (by omega) hv2 (by rw[<- hB];simp;omega)) hB | exact hno fun h=>(by have h9:=hzo h;rw[<- hB] at h9;simp at h9;omega)))⟩
   refine Bp<|.S (fun K kk=>by simp[go_sem,Af,hw1];exact kk) ?_
   refine B2 Dz 2 ?_
   refine Bz (Fj ?_);simp[go_sem,Af,hw1]
   exact⟨(y1++m.data,0),by first | rfl | simp[go_sem],(by have hi:i1=m.args.length:=(by omega);have hy2:=hy1.2.1;have hv2:=hy1.2.2;rw[hi] at hy2 hv2;rw[List.take_length] at hv2;first | (have hA:=hp3 (by omega) h76.2;have hB:y1++(Fl Gr.1).1=m.tok++msArgs S.1 m.args:=(by rw[hy2,List.append_assoc,hA]);first | exact hye (hok h41.1.1 h41.1.2 (by omega) h57.1 (by omega) hv2 (by rw[<- hB];simp;omega)) hB | exact hno fun h=>(by have h9:=hzo h;rw[<- hB] at h9;simp at h9;omega)) | (have hA:=hp4 (by omega) (by omega) (by omega) h57.1;have hB:y1=m.tok++msArgs S.1 m.args:=(by rw[hy2,hA]);exact hye (hok h41.1.1 h41.1.2 (by omega) h57.1 (by omega) hv2 (by rw[<- hB];simp;omega)) hB))⟩
  refine Bp ?_
  obtain⟨e3,H3⟩:=gx m.args i1
  refine B3 (fun K kk=>by simp[go_sem,Af,hw1,H3];(repeat refine aK ?_);refine .l (Ql e3) ?_;simp[go_sem,Af,hw1,H3];exact kk)<|.seq ?_
  refine B3 (fun K kk=>by simp[go_sem,Af,hw1,H3];exact kk) ?_
  refine Br ?_ ?_<;>intro h100
  ·refine B3 (fun K kk=>by simp[go_sem,Af,hw1,H3];exact kk) ?_
   refine Bz (Fj ?_);simp[go_sem,Af,hw1,H3]
   exact⟨([],6),by rfl,(hno fun h=>h100 (hao h _ (Ac (by assumption))))⟩
  refine Bp ?_
  refine C5 (by rfl) fun K1 hK1=>?_
  simp[go_sem,Af,hw1,H3]
  repeat' with_reducible refine Ax ?_ ?_
  all_goals try (intros;(repeat' refine Ax ?_ ?_)<;>omega)
  all_goals try ((have q0:=El Gr.1);(try have q1:=El e1);(try have q2:=El e2);(try have q3:=El e3);(try have q4:=El e4);(try have q5:=El e5);(try have q6:=El e6);(try have q7:=El e7);(try have q8:=El e8);omega)
  refine hK1 _ ?_;clear hK1
  refine Ck (fun K kk=>by simp[go_sem,Af,hw1,H3];exact kk) ?_
  exact⟨by omega,(y1++((Fl e3).1)),⟨⟨by first | omega | (simp only[Bo];(have q0:=El e3);omega),by omega⟩,by rw[<- hp2 (by omega) (by omega) H3,hy1.2.1];simp only[List.append_assoc],Af7 hy1.2.2 H3 h100⟩,wk (Hq (Dx ((i1:Int)+1)) hw1 H3) [0,1,2]⟩
 exfalso;omega
def E4:List Int×Int:=(Ep (O5 m h1 h2 h3)).choose
theorem Ut:PP 136 [] [m.g] [] (.tup [.imm false 1 (tY (E4 m h1 h2 h3).1),.lit (.int .i64 (E4 m h1 h2 h3).2)]):=(Ep (O5 m h1 h2 h3)).choose_spec.1
theorem J6:(E4 m h1 h2 h3)=Lk m:=(Ep (O5 m h1 h2 h3)).choose_spec.2
end
def P17 (m:Ea) (n:Int):Prop:=m.kind=17/\m.tok=[]/\m.args=[n]/\(Fl n).2=0/\m.data.length<=100
theorem Axe {m:Ea} {n:Int} (h:P17 m n):Lk m=((Fl n).1++m.data,0):=by
 obtain⟨h1,h2,h3,h4,h5⟩:=h
 have hs:=(Gm m.kind).1.2 _ (by rw[h1];rfl)
 have ha:msArgs (D0 m.kind).1 m.args=(Fl n).1:=by rw[hs,h3];show (if (0:Int)<0 then _ else codes [n])=_;rw[if_neg (by decide),Adb]
 have hl:=El n
 have ho:Ol m:=⟨by rw[hs],by rw[hs,h2];rfl,by rw[hs];exact .inl rfl,by rw[hs,h3];rfl,by omega,fun a ha=>by rw[h3,An] at ha;rw[ha];exact h4,by rw[ha,h2];simp;omega⟩
 rw[<- Abq ho (y:=(Fl n).1) (by rw[ha,h2];rfl)]
theorem Aub (m:Ea):(Lk m).2=0<->Ol m:=by
 unfold Lk
 split
 ·rename_i h;exact⟨fun _=>h,fun _=>rfl⟩
 rename_i h;exact⟨fun h1=>by simp at h1,fun h1=>absurd h1 h⟩
theorem Yp (m:Ea):(Lk m).1.length<=200:=by
 unfold Lk
 split
 ·rename_i h;exact h.len
 simp
theorem Pl (m:Ea) (h1:m.tok.length<=10000) (h2:m.args.length<=10000) (h3:m.data.length<=10000):(E4 m h1 h2 h3).1.length<=200/\∀n,P17 m n->(E4 m h1 h2 h3)=((Fl n).1++m.data,0):=by
 rw[J6]
 exact⟨Yp m,fun n h=>Axe h⟩
theorem Axu {k:Int} {p:List Int} (h1:0<=k) (h2:k<=255) (h3:p.length<=200):(Q1 k p).2=0/\(Q1 k p).1.length=p.length+10:=by
 unfold Q1
 rw[if_neg (by omega),if_neg (by omega)]
 exact⟨rfl,by simp[Gn,Im,J5]⟩
theorem Auu (k:Int) (p:List Int):(Q1 k p).1.length<=p.length+10:=by
 unfold Q1
 split
 ·simp
 split
 ·simp
 simp[Gn,Im,J5]
section
variable (m:Ea) (h1:m.tok.length<=10000) (h2:m.args.length<=10000) (h3:m.data.length<=10000)
include h1 h2 h3
theorem Ms:Ct 134 [m.g] (fun d:Bool=>.lb d) (fun d=>d=((E4 m h1 h2 h3).2 == 0)):=by
 refine Ex Tryz.func134 ?_
 refine Bq ?_
 refine B8 Dz (Ut m h1 h2 h3) ?_
 refine Bq ?_
 exact .ret (fin Dz ((((E4 m h1 h2 h3).2):Int) == 0) rfl)
def My:Bool:=(Ep (Ms m h1 h2 h3)).choose
theorem Aer:PP 134 [] [m.g] [] (.lb (My m h1 h2 h3)):=(Ep (Ms m h1 h2 h3)).choose_spec.1
theorem Qw:(My m h1 h2 h3)=((E4 m h1 h2 h3).2 == 0):=(Ep (Ms m h1 h2 h3)).choose_spec.2
theorem Qe:Ct 102 [m.g] (fun d:List Int×Int=>.tup [.mY d.1,.li d.2]) (fun d=>d.1.length<=210/\((E4 m h1 h2 h3).2=0->0<=m.kind->m.kind<=255->d.2=0/\d.1.length=(E4 m h1 h2 h3).1.length+10)/\(Ol m->d=Q1 m.kind (Lk m).1)/\(¬Ol m->¬d.2=0)):=by
 refine Ex Tryz.func102 ?_
 have hq:=Pl m h1 h2 h3
 have he0:(E4 m h1 h2 h3).2=0<->Ol m:=by rw[J6];exact Aub m
 refine Bq ?_
 refine B8 Dz (Ut m h1 h2 h3)<|.seq ?_
 refine Bq ?_
 refine Br ?_ ?_<;>intro h12
 ·refine Bq ?_
  exact .ret (fin Dz ([],(E4 m h1 h2 h3).2) (by exact⟨Ae _,(fun e=>absurd e (by assumption)),(fun h=>absurd (he0.2 h) (by assumption)),fun _=>(by assumption)⟩))
 refine Bp<|.L Dz (Agh m.kind (E4 m h1 h2 h3).1 (by omega)) ?_
 exact .ret (fin Dz ((Q1 m.kind ((E4 m h1 h2 h3).1)).1,(Q1 m.kind ((E4 m h1 h2 h3).1)).2) (by first | exact⟨Ae _,(fun e=>absurd e (by assumption)),(fun h=>absurd (he0.2 h) (by assumption)),fun _=>(by assumption)⟩ | exact⟨Ak (Auu _ _) (by omega),(fun _ k1 k2=>Axu k1 k2 hq.1),(fun _=>by rw[J6]),fun h=>absurd (he0.1 (by assumption)) h⟩))
def Fo:List Int×Int:=(Ep (Qe m h1 h2 h3)).choose
theorem Aes:PP 102 [] [m.g] [] (.tup [.imm false 1 (tY (Fo m h1 h2 h3).1),.lit (.int .i64 (Fo m h1 h2 h3).2)]):=(Ep (Qe m h1 h2 h3)).choose_spec.1
theorem M4:(Fo m h1 h2 h3).1.length<=210/\((E4 m h1 h2 h3).2=0->0<=m.kind->m.kind<=255->(Fo m h1 h2 h3).2=0/\(Fo m h1 h2 h3).1.length=(E4 m h1 h2 h3).1.length+10)/\(Ol m->(Fo m h1 h2 h3)=Q1 m.kind (Lk m).1)/\(¬Ol m->¬(Fo m h1 h2 h3).2=0):=(Ep (Qe m h1 h2 h3)).choose_spec.2
end
section
section
variable (n:Int) (a:G2) (h1:a.sec.length<=1000000) (h2:a.lims.length<=1000000)
include n h1 h2
theorem Zz:Ct 55 [.li n,a.g] (fun d:Dy=>d.g) (fun d=>d.reg=G5 n a h1 h2/\d.reqs=[]/\d.draws=[]/\d.aud.length<=2/\(∀k:Nat,¬d.aud[k]? = some true)/\d.aud=List.replicate ((if 2<(if a.se<0 then 0 else a.se) then 2 else (if a.se<0 then 0 else a.se)).toNat) false):=by
 refine Ex Tryz.func55 ?_
 iterate 2 refine Bq ?_
 refine Db Dz (Agb n a (by assumption) (by assumption)) ?_
 refine B2 Dz 2 ?_
 exact .ret (fin Dz ⟨(G5 n a (by assumption) (by assumption)),[],[],List.replicate ((if 2<(if a.se<0 then 0 else a.se) then 2 else (if a.se<0 then 0 else a.se)).toNat) false⟩ ⟨rfl,rfl,rfl,by simp;(repeat' split)<;>omega,(fun k h=>by have:=List.eq_of_mem_replicate (Ac h);cases this),rfl⟩)
def Fz:Dy:=(Ep (Zz n a h1 h2)).choose
theorem Aqk:PP 55 [] [.li n,a.g] [] (.agg ((Fz n a h1 h2).a false)):=(Ep (Zz n a h1 h2)).choose_spec.1
theorem R6:(Fz n a h1 h2).reg=G5 n a h1 h2/\(Fz n a h1 h2).reqs=[]/\(Fz n a h1 h2).draws=[]/\(Fz n a h1 h2).aud.length<=2/\(∀k:Nat,¬(Fz n a h1 h2).aud[k]? = some true)/\(Fz n a h1 h2).aud=List.replicate ((if 2<(if a.se<0 then 0 else a.se) then 2 else (if a.se<0 then 0 else a.se)).toNat) false:=(Ep (Zz n a h1 h2)).choose_spec.2
end
theorem Y9 (c:Ok) (h:c.lights.length<=1000000):Ct 225 [c.g] (fun d:Bool=>.lb d) (fun d=>True):=by
 refine Ex Tryz.func225 ?_
 refine Bq ?_
 refine B3 (fun K kk=>by simp[go_sem];refine .lo (Xf c.lights _ [] (fun x=>x.l != 0) h Uy Aek) (by simp[go_sem]) (by simp[AV.cln,Fu]) ?_;simp[go_sem];exact kk) ?_
 refine Bz (Fj ?_);simp[go_sem]
 exact⟨_,by rfl,trivial⟩
def Q9 (m:Ea):List Int:=by
 classical
 exact if h:m.tok.length<=10000/\m.args.length<=10000/\m.data.length<=10000 then (if (Fo m h.1 h.2.1 h.2.2).2=0 then (Fo m h.1 h.2.1 h.2.2).1 else []) else []
variable {m:Ea}
theorem Afu (h1:m.tok.length<=10000) (h2:m.args.length<=10000) (h3:m.data.length<=10000) (h:(Fo m h1 h2 h3).2=0):Q9 m=(Fo m h1 h2 h3).1:=by
 unfold Q9
 rw[dif_pos ⟨h1,h2,h3⟩,if_pos h]
theorem As2 (h1:m.tok.length<=10000) (h2:m.args.length<=10000) (h3:m.data.length<=10000) (h:¬(Fo m h1 h2 h3).2=0):Q9 m=[]:=by
 unfold Q9
 rw[dif_pos ⟨h1,h2,h3⟩,if_neg h]
theorem A0j {n:Int} (h:P17 m n):(Q9 m).length=(Fl n).1.length+m.data.length+10:=by
 have h1:m.tok.length<=10000:=by rw[h.2.1];simp
 have h2:m.args.length<=10000:=by rw[h.2.2.1];simp
 have h3:m.data.length<=10000:=by have:=h.2.2.2.2;omega
 have he:=(Pl m h1 h2 h3).2 n h
 have hf:=(M4 m h1 h2 h3).2.1 (by rw[he]) (by rw[h.1];decide) (by rw[h.1];decide)
 rw[Afu h1 h2 h3 hf.1,hf.2,he]
 simp
theorem As3 {α β:Type} {f:α->List β} {l:List α} {i:Nat} {e:α} (h:l[i]? = some e):((l.take (i+1)).map f).flatten=((l.take i).map f).flatten++f e:=by
 rw[List.take_add_one,h];simp
theorem V7 (l:List Ea) (hl:l.length<=1000) (hm:∀m∈l,m.tok.length<=10000/\m.args.length<=10000/\m.data.length<=10000):Ct 66 [.mMsg l] (fun d:List Int=>.mY d) (fun d=>d=(l.map Q9).flatten):=by
 refine Ex Tryz.func66 ?_
 refine Bq ?_
 refine Bq<|.seq ?_
 refine Bq<|.block ?_
 refine Cg 3 5 1 (by decide) (k':=1) (by simp[go_sem]) ?_
 simp[go_sem,-Prod.exists]
 refine Bs l.length (fun i1 (y1:(List Int))=>⟨[(3,.own 0 y1.length),(8,.mMsg l),(9,.li l.length),(10,.li i1)],[.row 5 1 false false (tY y1)]⟩) (fun i1 y1=>y1=((l.take i1).map Q9).flatten/\y1.length<=300*i1) ([]) (wk Dz [0]) (⟨by simp,by simp⟩) fun i1 y1 hi1 hy1=>?_
 refine Bq<|.seq ?_
 refine Br ?_ ?_<;>intro h11
 ·refine Bp<|.seq<|.block ?_
  obtain⟨e1,H1⟩:=gx l i1
  refine Bt H1 ?_
  have hb:=hm e1 (Ac H1)
  have hf:=(M4 e1 hb.1 hb.2.1 hb.2.2).1
  refine B8 H1 (Aes e1 hb.1 hb.2.1 hb.2.2) ?_
  refine Bt H1 ?_
  refine Br ?_ ?_<;>intro h20
  ·refine B0 H1 ?_
   refine B0 H1 ?_
   exact⟨by omega,(y1++((Fo e1 hb.1 hb.2.1 hb.2.2).1)),⟨by rw[hy1.1,As3 H1,Afu hb.1 hb.2.1 hb.2.2 h20],by simp;omega⟩,wk (Fa (Dx ((i1:Int)+1)) H1) [0]⟩
  refine Bp<|.H1 H1 ?_
  exact⟨by omega,(y1),⟨by rw[As3 H1,As2 hb.1 hb.2.1 hb.2.2 h20,List.append_nil];exact hy1.1,by omega⟩,wk (Fa (Dx ((i1:Int)+1)) H1) [0]⟩
 refine Bu<|.R ?_
 refine B2 Dz 0 ?_
 exact .ret (fin Dz y1 (by rw[hy1.1,Bf (by omega)]))
end
section
variable {cs:List AV}
theorem Eu.cellOwn {E:Gs} {β:Nat->Option Nat} {st:St} {a:Act} {w:World} (r:Eu E β st a w) {b n i k:Nat} {ty:TypeId} (hb:st.o b=.box ty cs) (hi:cs[i]? = some (.nil k)) (hn:∀A,Ec (E.C β st w) (.own n 0) (.slice A 0 0)) :
 Eu E β (st.set b (.box ty (cs.set i (.own n 0)))) a w:=by
 have ho':∀j,j≠b->(st.set b (.box ty (cs.set i (.own n 0)))).o j=st.o j:=fun j hj=>by rw[St.set_o,if_neg hj]
 have ho:(st.set b (.box ty (cs.set i (.own n 0)))).o b=.box ty (cs.set i (.own n 0)):=by rw[St.set_o,if_pos rfl]
 have hng:∀j,(st.set b (.box ty (cs.set i (.own n 0)))).o j≠.gone->st.o j≠.gone:=fun j hj=>by
  by_cases e:j=b
  ·subst e;rw[hb];simp
  rw[ho' j e] at hj;exact hj
 have s:Ot (E.C β st w) (E.C β (st.set b (.box ty (cs.set i (.own n 0)))) w):=by
  refine⟨rfl,fun _ h=>h,fun _ h=>h,fun _ h=>h,Aj _,?_,fun _ _ _=>rfl,?_,?_⟩
  ·rintro x hx ⟨j,h1,h2⟩
   have h2:((st.set b (.box ty (cs.set i (.own n 0)))).o j).live:=h2
   by_cases e:j=b
   ·subst e;exact⟨j,h1,by show (st.o j).live;rw[hb];trivial⟩
   rw[ho' j e] at h2;exact⟨j,h1,h2⟩
  ·intro j ty' cs' hj
   have hj:st.o j=.box ty' cs':=hj
   by_cases e:j=b
   ·subst e
    rw[hb] at hj
    injection hj with e1 e2
    subst e1
    exact⟨⟨_,ho⟩,rfl⟩
   exact⟨⟨cs',(ho' j e).trans hj⟩,rfl⟩
  intro j ty' k' fr' fz' es' hj
  have hj:st.o j=.row ty' k' fr' fz' es':=hj
  have e:j≠b:=fun e=>by subst e;rw[hb] at hj;cases hj
  exact⟨_,_,_,(ho' j e).trans hj,Aj _,fun _=>⟨rfl,fun b cc hb hc=>⟨cc,hc,rfl⟩⟩⟩
 refine r.move s rfl (fun j=>?_) (fun i j x hi hj=>r.inj i j x (hng i hi) (hng j hj)) (fun j x hj=>r.rng j x (hng j hj)) r.kp
 by_cases e:j=b
 ·subst e
  rw[ho]
  have h:=r.ob j
  rw[hb] at h
  obtain⟨x,cur,h1,h2,h3,h4⟩:=Kx.step (o:=.box ty cs) s h rfl fun _ _=>rfl
  refine⟨x,cur,h1,h2,by rw[List.length_set];exact h3,fun q c u hc hu=>?_⟩
  rw[List.getElem?_set] at hc
  split at hc
  ·rename_i e
   subst e
   split at hc
   ·injection hc with hc
    subst hc
    obtain⟨g1,g2⟩:=h4 i _ u hi hu
    refine⟨?_,g2⟩
    cases g1 with
    | nil k A=>exact (hn A).step s
   cases hc
  exact h4 q c u hc hu
 rw[ho' j e]
 exact (r.ob j).step s rfl fun _ _=>rfl
variable {bt:TypeId}
section
variable {P:Program} {n m:Nat} {st:St} {K:Exit->St->Prop} {c:Code}
theorem VW.own0c (b i:Nat) (ty k:Nat) (hk:0<k) {k':Nat} (hb:st.o b=.box bt cs) (hi:cs[i]? = some (.nil k')) (hv:VW P n m c ((st.set st.ob.length (.row ty k true false [])).set b (.box bt (cs.set i (.own st.ob.length 0)))) K):VW P n m c st K:=fun E F hE hF β a w r=>by
 obtain⟨r1,h1⟩:=r.empty (Hf st st.ob.length (Aj _)) ty hk true
 have hne:b≠st.ob.length:=fun e=>by
  have:=Hf st st.ob.length (Aj _)
  rw[<- e,hb] at this
  cases this
 exact hv E F hE hF _ a w (r1.cellOwn (by rw[St.set_o,if_neg hne];exact hb) hi h1)
theorem VX.own0c (b i:Nat) (ty k:Nat) (hk:0<k) {k':Nat} (hb:st.o b=.box bt cs) (hi:cs[i]? = some (.nil k')) (hv:VX P n m c ((st.set st.ob.length (.row ty k true false [])).set b (.box bt (cs.set i (.own st.ob.length 0)))) K):VX P n m c st K:=by
 obtain⟨e,s,h1,h2⟩:=hv
 exact⟨e,s,.own0c b i ty k hk hb hi h1,h2⟩
abbrev Cl:=@VX.own0c
end
end
def A2x (x:Dy) (k now:Int) (m:Ea):Prop:=(k=1/\m.kind=13/\m.args=[x.reg.num,now])\/(k=9/\m.kind=19/\m.args=x.reqs.flatMap fun r=>[r.id,r.unt])\/(k≠1/\k≠9/\m.kind=20/\∃f:Int,0<=f/\f<=x.reg.toks.length/\m.args=[f,IntKind.i64.wrap (8 - x.reg.vehs.length),IntKind.i64.wrap (x.reg.ag.rq - x.reqs.length),x.reg.bk.lv])
section
variable (x:Dy) (k:Int) (now:Int) (h1:x.reqs.length<=1000) (h2:x.reg.toks.length<=1000000)
include k now h1 h2
theorem W4:Ct 192 [x.g,.li k,.li now] (fun d:Ea=>d.g) (fun d=>d.tok=[]/\d.data=[]/\d.args.length<=2000/\A2x x k now d):=by
 refine Ex Tryz.func192 ?_
 refine Bq<|.seq ?_
 refine Bq<|.block ?_
 refine Bq ?_
 refine Br ?_ ?_<;>intro h14
 ·refine Bq ?_
  refine B2 Dz 2 ?_
  exact .ret (fin Dz ⟨13,[],[x.reg.num,now],[]⟩ ⟨rfl,rfl,by (simp;done),.inl ⟨h14,rfl,rfl⟩⟩)
 refine Bq ?_
 refine Br ?_ ?_<;>intro h22
 ·refine Bq<|.seq ?_
  refine Bq<|.block ?_
  refine Cl 2 2 3 1 (by decide) rfl rfl ?_
  simp[go_sem,-Prod.exists]
  refine Bs x.reqs.length (fun i1 (y1:(List Int))=>⟨[(6,.ptr 0 0),(7,.ptr 1 0),(26,.mReq x.reqs),(27,.li x.reqs.length),(28,.li i1)],[.box 56 [.li 0,.nil 1,.nil 1,.nil 1],.box 56 [.li 19,.nil 1,.own 2 y1.length,.nil 1],.row 3 1 false false (tI y1)]⟩) (fun i1 y1=>y1.length=2*i1/\y1=(x.reqs.take i1).flatMap fun r=>[r.id,r.unt]) ([]) (wk Dz [1,2,3]) (⟨rfl,rfl⟩) fun i1 y1 hi1 hy1=>?_
  refine Bq<|.seq ?_
  refine Br ?_ ?_<;>intro h29
  ·refine Bp<|.seq<|.block ?_
   obtain⟨e1,H1⟩:=gx x.reqs i1
   refine Bt H1 ?_
   refine B0 H1 ?_
   refine B0 H1 ?_
   refine⟨by omega,(y1++([e1.id,e1.unt])),?_,wk (Fa (Dx ((i1:Int)+1)) H1) [0,1,2]⟩
   exact⟨by simp;omega,by rw[hy1.2,List.take_add_one,H1];simp⟩
  refine Bu<|.R ?_
  refine B2 Dz 2 ?_
  exact .ret (fin Dz ⟨19,[],y1,[]⟩ ⟨rfl,rfl,by dsimp only;omega,.inr (.inl ⟨h22,rfl,by have h:=hy1.2;rwa[Bf (by omega)] at h⟩)⟩)
 refine Bp<|.R<|.seq ?_
 refine Bq<|.block ?_
 refine Bs x.reg.toks.length (fun i2 (y2:Int)=>⟨[(3,.ptr 0 0),(6,.ptr 1 0),(10,.li y2),(45,.mTok x.reg.toks),(46,.li x.reg.toks.length),(47,.li i2)],[.box 70 (x.a false),.box 56 [.li 0,.nil 1,.nil 1,.nil 1]]⟩) (fun i2 y2=>0<=y2/\y2<=i2) (0) (wk Dz [0,1]) (by simp) fun i2 y2 hi2 hy2=>?_
 refine Bq<|.seq ?_
 refine Br ?_ ?_<;>intro h48
 ·refine Bp<|.seq<|.block ?_
  obtain⟨e2,H2⟩:=gx x.reg.toks i2
  refine Bt H2 ?_
  refine Bt H2 ?_
  refine Br ?_ ?_<;>intro h53
  ·refine B0 H2 ?_
   refine B0 H2 ?_
   exact⟨by omega,(IntKind.i64.wrap (y2+1)),by rw[Dx _];omega,wk (Fa (Dx ((i2:Int)+1)) H2) [0,1]⟩
  refine Bp<|.H1 H2 ?_
  exact⟨by omega,(y2),by omega,wk (Fa (Dx ((i2:Int)+1)) H2) [0,1]⟩
 refine Bu<|.R ?_
 refine B2 Dz 2 ?_
 exact .ret (fin Dz ⟨20,[],[y2,IntKind.i64.wrap (8 - x.reg.vehs.length),IntKind.i64.wrap (x.reg.ag.rq - x.reqs.length),x.reg.bk.lv],[]⟩ ⟨rfl,rfl,by (simp;done),.inr (.inr ⟨h14,h22,rfl,y2,hy2.1,by omega,rfl⟩)⟩)
def Ii:Ea:=(Ep (W4 x k now h1 h2)).choose
theorem Anz:PP 192 [] [x.g,.li k,.li now] [] (.agg ((Ii x k now h1 h2).a false)):=(Ep (W4 x k now h1 h2)).choose_spec.1
theorem Xy:(Ii x k now h1 h2).tok=[]/\(Ii x k now h1 h2).data=[]/\(Ii x k now h1 h2).args.length<=2000/\A2x x k now (Ii x k now h1 h2):=(Ep (W4 x k now h1 h2)).choose_spec.2
end
section
structure E6 where
  l:List Int
  pos:Int
def E6.a (fr:Bool) (x:E6):List AV:=[.imm fr 1 (tI x.l),.li x.pos]
abbrev E6.g (x:E6):AV:=.agg (x.a false)
attribute [go_sem] E6.g
attribute [go_sem] E6.a
def A1l (P:Program) (m:Nat) {D:Type} (rs:List ResultVar) (F:D->AV) (S:D->List Ob) (Q:D->Prop) (e:Exit) (st:St):Prop:=∃d,Sg P m rs (S d) (F d) e st/\Q d
variable {f:FuncId} {fn:Func} {args:List AV} {σa:List Ob} {rs:List ResultVar}
theorem Aft {P:Program} {c:Code} {D:Type} {F:D->AV} {S:D->List Ob} {Q:D->Prop} (hf:P.funcs[f]? = some fn) (hb:fn.body=some c) (hn:(fn.name == "runtime.NumGoroutine")=false) (hrs:fn.results=rs.toArray) (hk:args.length<=fn.ntmps) (h:VX P fn.ntmps σa.length c ⟨Ic 0 args,σa⟩ (A1l P σa.length rs F S Q)):∃d,E7 P f σa args (S d) (F d)/\Q d:=by
 obtain⟨e,s,h1,d,h2,h3⟩:=h
 refine⟨d,Afo hf hb hn hrs hk (h1.mono ?_),h3⟩
 rintro e' s' ⟨rfl,rfl⟩
 exact h2
def Cx {D:Type} (f:FuncId) (σa:List Ob) (args:List AV) (S:D->List Ob) (F:D->AV) (Q:D->Prop):Prop:=∃d,PP f σa args (S d) (F d)/\Q d
theorem U3 {c:Code} {D:Type} {F:D->AV} {S:D->List Ob} {Q:D->Prop} (hf:Tryz.prog.funcs[f]? = some fn) (h:VX Tryz.prog fn.ntmps σa.length c ⟨Ic 0 args,σa⟩ (A1l Tryz.prog σa.length rs F S Q)) (hb:fn.body=some c:=by rfl) (hn:(fn.name == "runtime.NumGoroutine")=false:=by rfl) (hrs:fn.results=rs.toArray:=by rfl) (hk:args.length<=fn.ntmps:=by exact Nat.le_of_ble_eq_true rfl):Cx f σa args S F Q:=Aft hf hb hn hrs hk h
def Th (p:Int) (L:List Int) (n:Int) (q:Int):Prop:=p<=q/\(p+n<=q\/(L.length:Int)<=q)
variable {L:List Int}
theorem Th.trans {p q r:Int} {a b:Int} (h:Th p L a q) (h2:Th q L b r):Th p L (a+b) r:=by unfold Th at *;omega
theorem Th.mono {p q r n:Int} (h:Th p L n q) (h2:q<=r):Th p L n r:=by unfold Th at *;omega
theorem Th.cast {p q n n2:Int} {L L2:List Int} (h:Th p L n q) (e:L=L2) (e2:n=n2):Th p L2 n2 q:=e▸e2▸h
variable {p q:Int}
theorem Th.zero (h:p<=q):Th p L 0 q:=⟨h,.inl (by omega)⟩
theorem Th.le {a b:Int} (h:Th p L a q) (hb:b<=a):Th p L b q:=by unfold Th at *;omega
theorem O0 (k:E6) (h:k.l.length<=300):Cx 34 [.box 84 (k.a false)] [.ptr 0 0] (fun d:Bool×E6=>[.box 84 (d.2.a false)]) (fun d=>.lb d.1) (fun d=>d.2=k/\d.1=decide (k.pos<k.l.length)):=by
 refine U3 Tryz.func34 ?_
 refine Bq ?_
 refine VX.D ?_
 exact .ret ⟨(decide ((k.pos:Int)<k.l.length),k),rW Dz [0],rfl,rfl⟩
theorem Dw (k:E6) (n:Int) (h:k.l.length<=300) (h0:0<=k.pos) (h1:1<=n) (h2:n<=1000000):Cx 26 [.box 84 (k.a false)] [.ptr 0 0,.li n] (fun d:Int×E6=>[.box 84 (d.2.a false)]) (fun d=>.li d.1) (fun d=>d.2.l=k.l/\(k.pos<=d.2.pos/\∀L,k.l=L->Th k.pos L 1 d.2.pos)/\(0<=d.1/\d.1<n/\(k.l=[]->d.1=0))):=by
 refine U3 Tryz.func26 ?_
 refine Bq<|.seq ?_
 refine VX.D ?_
 refine Br ?_ ?_<;>intro h14
 ·refine Bq ?_
  exact .ret ⟨(0,k),rW Dz [0],(by exact⟨rfl,⟨by dsimp only;omega,fun L e=>e▸⟨Int.le_refl _,.inr (by omega)⟩⟩,by dsimp only;omega,by dsimp only;omega,fun _=>rfl⟩)⟩
 have hw0:=Dx k.pos (by omega) (by omega)
 refine Bp ?_
 have hw1:=Dx (k.pos+1:Int)
 refine Bt hw1 ?_
 obtain⟨e2,H2⟩:=gx k.l k.pos.toNat
 refine Db (Hq hw1 H2 hw0) (Ki e2 n (by assumption) (by assumption)) ?_
 exact .ret ⟨((Iz e2 n (by assumption) (by assumption)),⟨k.l,(k.pos+1)⟩),rW (Fa hw1 H2) [0],(by exact⟨rfl,⟨by dsimp only;omega,fun L e=>⟨by dsimp only;omega,.inl (Int.le_refl _)⟩⟩,(Km _ _ h1 h2).1,(Km _ _ h1 h2).2,fun e=>absurd h14 (by rw[e];simp;omega)⟩)⟩
end
theorem Ej (k:E6) (lo:Int) (hi:Int) (h:k.l.length<=300) (h0:0<=k.pos) (h1:0<=lo) (h2:lo<=hi) (h3:hi<=1000):Cx 25 [.box 84 (k.a false)] [.ptr 0 0,.li lo,.li hi] (fun d:Int×E6=>[.box 84 (d.2.a false)]) (fun d=>.li d.1) (fun d=>d.2.l=k.l/\(k.pos<=d.2.pos/\∀L,k.l=L->Th k.pos L 1 d.2.pos)/\lo<=d.1/\d.1<=hi/\(k.l=[]->d.1=lo)):=by
 refine U3 Tryz.func25 ?_
 obtain⟨N1,hN1,hq1⟩:=Dw k (hi - lo+1) h h0 (by omega) (by omega)
 have hw3:=Dx (lo+N1.1)
 refine Bt hw3 ?_
 have hw1:=Dx (hi - lo:Int)
 have hw2:=Dx ((hi - lo)+1:Int)
 refine Dc (Hq hw3 hw1 hw2) [0] hN1 ?_
 exact .ret ⟨((lo+N1.1),N1.2),rW (Hq hw3 hw1 hw2) [0],⟨hq1.1,hq1.2.1,by dsimp only;omega,by dsimp only;omega,fun e=>by have:=hq1.2.2.2.2 e;dsimp only;omega⟩⟩
theorem Qz:By []:=fun x h=>by cases h
theorem Yf (x:Int):By [IntKind.u8.wrap x]:=fun y hy=>by simp at hy;subst hy;exact Rt x
theorem A5u (a b:Int):By [Ey .xor .u8 a b]:=Yf _
def A1e (n:Int) (i:Nat):Int:=Ey .xor .u8 (IntKind.u8.wrap (Int.fdiv (IntKind.u64.wrap n) (2 ^ min (Int.toNat (IntKind.u64.wrap (8*(IntKind.u64.wrap i)))) 64))) (IntKind.u8.wrap (IntKind.i64.wrap (IntKind.i64.wrap (29*i)+7)))
section
variable (n:Int)
include n
def Aiy:List Int:=(List.range 8).map (A1e n)
theorem Hw:Ct 32 [.li n] (fun d:List Int=>.mY d) (fun d=>d.length=8/\By d/\d=Aiy n):=by
 refine Ex Tryz.func32 ?_
 refine Bq ?_
 refine Bq<|.seq ?_
 refine Bq<|.block ?_
 refine Cg 3 5 1 (by decide) (k':=1) (by simp[go_sem]) ?_
 simp[go_sem,-Prod.exists]
 refine Bs 8 (fun i1 (y1:(List Int))=>⟨[(0,.li n),(3,.own 0 y1.length),(5,.li i1)],[.row 5 1 false false (tY y1)]⟩) (fun i1 y1=>y1.length=i1/\By y1/\y1=(List.range i1).map (A1e n)) ([]) (wk Dz [0]) (⟨rfl,Qz,rfl⟩) fun i1 y1 hi1 hy1=>?_
 refine Bq<|.seq ?_
 refine Br ?_ ?_<;>intro h6
 ·refine Bp<|.seq<|.block<|.R ?_
  refine B0 Dz ?_
  refine Ci ?_
  exact⟨by omega,(y1++([Ey .xor .u8 (IntKind.u8.wrap (Int.fdiv (IntKind.u64.wrap n) (2 ^ min (Int.toNat (IntKind.u64.wrap (8*(IntKind.u64.wrap i1)))) 64))) (IntKind.u8.wrap (IntKind.i64.wrap (IntKind.i64.wrap (29*i1)+7)))])),⟨by simp;omega,hy1.2.1.app (A5u _ _),by rw[hy1.2.2,List.range_succ,List.map_append];rfl⟩,wk (Dx ((i1:Int)+1)) [0]⟩
 refine Bu<|.R ?_
 refine B2 Dz 0 ?_
 exact .ret (fin Dz y1 ⟨by omega,hy1.2.1,by rw[hy1.2.2,show i1=8 by omega];rfl⟩)
def Eb:List Int:=(Ep (Hw n)).choose
theorem Ge:PP 32 [] [.li n] [] (.mY (Eb n)):=(Ep (Hw n)).choose_spec.1
theorem Hy:(Eb n).length=8/\By (Eb n)/\(Eb n)=Aiy n:=(Ep (Hw n)).choose_spec.2
end
section
variable (a:Int) (s:Int) (b:List Int) (h:b.length<=1000)
include a s h
theorem I9:Ct 20 [.li a,.li s,.mY b] (fun d:List Int=>.mY d) (fun d=>d.length=b.length+2/\(By b->By d)/\d=IntKind.u8.wrap a::IntKind.u8.wrap s::b):=by
 refine Ex Tryz.func20 ?_
 have e2:2+b.length=b.length+1+1:=by omega
 refine Bq ?_
 refine Bt Dz ?_
 refine B2 Dz 0 ?_
 refine Bz (Fj ?_);simp[go_sem,e2]
 exact⟨([IntKind.u8.wrap a,IntKind.u8.wrap s])++b,by rfl,⟨by simp,fun h=>by exact (Yf _).app ((Yf _).app h),rfl⟩⟩
def En:List Int:=(Ep (I9 a s b h)).choose
theorem Hx:PP 20 [] [.li a,.li s,.mY b] [] (.mY (En a s b h)):=(Ep (I9 a s b h)).choose_spec.1
theorem L5:(En a s b h).length=b.length+2/\(By b->By (En a s b h))/\(En a s b h)=IntKind.u8.wrap a::IntKind.u8.wrap s::b:=(Ep (I9 a s b h)).choose_spec.2
end
theorem Nt (k:E6) (num:Int) (ri:Int) (h:k.l.length<=300) (h0:0<=k.pos):Cx 28 [.box 84 (k.a false)] [.ptr 0 0,.li num,.li ri] (fun d:G2×E6=>[.box 84 (d.2.a false)]) (fun d=>d.1.g) (fun d=>d.2.l=k.l/\(0<=d.2.pos/\(k.l=[]->d.1.se=1)/\∀L,k.l=L->Th k.pos L 8 d.2.pos)/\d.1.sec.length=8/\d.1.lims.length=4/\(∀x∈d.1.lims,0<=x/\x<=3)/\d.1.ri=ri/\d.1.cls=3/\(1<=d.1.rq/\d.1.rq<=3)/\(1<=d.1.se/\d.1.se<=2)/\(1<=d.1.ra/\d.1.ra<=3)/\d.1.ra<=d.1.bu/\d.1.bu<=7/\By d.1.sec):=by
 refine U3 Tryz.func28 ?_
 refine Bq ?_
 obtain⟨D1,hD1,hd1⟩:=Ej k 1 3 (by assumption) (by assumption) (by omega) (by omega) (by omega)
 have hl1:D1.2.l.length<=300:=by rw[hd1.1];assumption
 have hp1:0<=D1.2.pos:=by omega
 obtain⟨D2,hD2,hd2⟩:=Ej D1.2 1 3 (by assumption) (by assumption) (by omega) (by omega) (by omega)
 have hl2:D2.2.l.length<=300:=by rw[hd2.1];assumption
 have hp2:0<=D2.2.pos:=by omega
 obtain⟨D3,hD3,hd3⟩:=Dw D2.2 3 (by assumption) (by assumption) (by omega) (by omega)
 have hl3:D3.2.l.length<=300:=by rw[hd3.1];assumption
 have hp3:0<=D3.2.pos:=by omega
 obtain⟨D4,hD4,hd4⟩:=Dw D3.2 3 (by assumption) (by assumption) (by omega) (by omega)
 have hl4:D4.2.l.length<=300:=by rw[hd4.1];assumption
 have hp4:0<=D4.2.pos:=by omega
 obtain⟨D5,hD5,hd5⟩:=Ej D4.2 1 3 (by assumption) (by assumption) (by omega) (by omega) (by omega)
 have hl5:D5.2.l.length<=300:=by rw[hd5.1];assumption
 have hp5:0<=D5.2.pos:=by omega
 obtain⟨D6,hD6,hd6⟩:=Ej D5.2 1 2 (by assumption) (by assumption) (by omega) (by omega) (by omega)
 have hl6:D6.2.l.length<=300:=by rw[hd6.1];assumption
 have hp6:0<=D6.2.pos:=by omega
 obtain⟨D7,hD7,hd7⟩:=Ej D6.2 1 3 (by assumption) (by assumption) (by omega) (by omega) (by omega)
 have hl7:D7.2.l.length<=300:=by rw[hd7.1];assumption
 have hp7:0<=D7.2.pos:=by omega
 refine Dk 13 2 (by rfl) fun K1 hK1=>?_
 simp[go_sem]
 obtain⟨Y1,cY1,qY1⟩:=Ep (Hw (IntKind.i64.wrap (1000+num)))
 refine .l cY1 ?_
 simp[go_sem]
 refine .o [0] (hD1) ?_
 simp[go_sem]
 refine .o [0] (hD2) ?_
 simp[go_sem]
 refine .o [0] (hD3) ?_
 simp[go_sem]
 refine .o [0] (hD4) ?_
 simp[go_sem]
 refine .o [0] (hD5) ?_
 simp[go_sem]
 refine .o [0] (hD6) ?_
 simp[go_sem]
 refine .o [0] (hD7) ?_
 simp[go_sem]
 refine hK1 _ ?_;clear hK1
 obtain⟨D8,hD8,hd8⟩:=Dw D7.2 5 (by assumption) (by assumption) (by omega) (by omega)
 have hl8:D8.2.l.length<=300:=by rw[hd8.1];assumption
 have hp8:0<=D8.2.pos:=by omega
 have hw9:=Dx (D7.1+D8.1)
 refine Cy (fun K kk=>by simp[go_sem,hw9];refine .o [0] (hD8) ?_;simp[go_sem,hw9];exact kk) ?_
 refine Bq ?_
 exact .ret ⟨(⟨Y1,ri,3,[D1.1,D2.1,D3.1,D4.1],D5.1,D6.1,D7.1,(D7.1+D8.1)⟩,D8.2),rW Dz [0],⟨by simp only[hd1.1,hd2.1,hd3.1,hd4.1,hd5.1,hd6.1,hd7.1,hd8.1],⟨hp8,fun e=>hd6.2.2.2.2 (by simp only[hd1.1,hd2.1,hd3.1,hd4.1,hd5.1,e]),fun L e=>((((((((hd1.2.1.2 L e).trans (hd2.2.1.2 L (hd1.1.trans e))).trans (hd3.2.1.2 L (hd2.1.trans (hd1.1.trans e)))).trans (hd4.2.1.2 L (by rw[hd3.1,hd2.1,hd1.1,e]))).trans (hd5.2.1.2 L (by rw[hd4.1,hd3.1,hd2.1,hd1.1,e]))).trans (hd6.2.1.2 L (by rw[hd5.1,hd4.1,hd3.1,hd2.1,hd1.1,e]))).trans (hd7.2.1.2 L (by rw[hd6.1,hd5.1,hd4.1,hd3.1,hd2.1,hd1.1,e]))).trans (hd8.2.1.2 L (by rw[hd7.1,hd6.1,hd5.1,hd4.1,hd3.1,hd2.1,hd1.1,e])))⟩,qY1.1,rfl,by simp;omega,rfl,rfl,by dsimp only;omega,by dsimp only;omega,by dsimp only;omega,by dsimp only;omega,by dsimp only;omega,qY1.2.1⟩⟩
section
theorem Rn (s:Int) (b:List Int) (h:b.length<=1000000):Ct 138 [.lit (.int .u32 s),.mY b] (fun d:Int=>.lit (.int .u32 d)) (fun d=>d=As7 s b):=by
 refine Ex Tryz.func138 ?_
 refine B3 (fun K kk=>by simp[go_sem,Ip];exact kk) ?_
 refine B3 (fun K kk=>by simp[go_sem,Ip];exact kk)<|.seq ?_
 refine B3 (fun K kk=>by simp[go_sem,Ip];exact kk)<|.block ?_
 refine Bs b.length (fun i1 (y1:Int)=>⟨[(5,.lit (.int .u32 y1)),(11,.mY b),(12,.li b.length),(13,.li i1)],[]⟩) (fun i1 y1=>y1=Abu s b i1) (Ey .xor .u32 IntKind.u32.max s) (wk Dz []) rfl fun i1 y1 hi1 hy1=>?_
 refine B3 (fun K kk=>by simp[go_sem,Ip];exact kk)<|.seq ?_
 refine Br ?_ ?_<;>intro h14
 ·refine Bp<|.seq<|.block ?_
  obtain⟨e1,H1⟩:=gx b i1
  refine B3 (fun K kk=>by simp[go_sem,Ip,H1];repeat first | exact kk | refine aK ?_) ?_
  refine B3 (fun K kk=>by simp[go_sem,Ip,H1];exact kk) ?_
  refine B3 (fun K kk=>by simp[go_sem,Ip,H1];exact kk)<|.block ?_
  refine Bs 8 (fun i2 (y2:Int)=>⟨[(5,.lit (.int .u32 y2)),(11,.mY b),(12,.li b.length),(13,.li i1),(21,.li i2)],[]⟩) (fun i2 y2=>y2=Aan (Ey .xor .u32 y1 (IntKind.u32.wrap e1)) i2) (Ey .xor .u32 y1 (IntKind.u32.wrap e1)) (wk H1 []) rfl fun i2 y2 hi2 hy2=>?_
  refine B3 (fun K kk=>by simp[go_sem,Ip,H1];exact kk)<|.seq ?_
  refine Br ?_ ?_<;>intro h22
  ·refine Bp<|.seq<|.block<|.S (fun K kk=>by simp[go_sem,Ip,H1];exact kk) ?_
   refine B3 (fun K kk=>by simp[go_sem,Ip,H1];repeat first | exact kk | refine aK ?_) ?_
   refine B3 (fun K kk=>by simp[go_sem,Ip,H1];exact kk) ?_
   refine Br ?_ ?_<;>intro h28
   ·refine Ck (fun K kk=>by simp[go_sem,Ip,H1];exact kk) ?_
    refine Ck (fun K kk=>by simp[go_sem,Ip,H1];exact kk) ?_
    exact⟨by omega,(Ey .xor .u32 (Int.fdiv y2 (2 ^ min (Int.toNat 1) 32)) 3988292384),(by show _=Aam (Aan _ i2);rw[<- hy2,Aam,if_pos h28];rfl),wk (Fa (Dx ((i2:Int)+1)) H1) []⟩
   refine Bp<|.S1 (fun K kk=>by simp[go_sem,Ip,H1];exact kk) ?_
   exact⟨by omega,(Int.fdiv y2 (2 ^ min (Int.toNat 1) 32)),(by show _=Aam (Aan _ i2);rw[<- hy2,Aam,if_neg h28];rfl),wk (Fa (Dx ((i2:Int)+1)) H1) []⟩
  refine Bu<|.S1 (fun K kk=>by simp[go_sem,Ip,H1];exact kk) ?_
  exact⟨by omega,(y2),(by show y2=Aan (Ey .xor .u32 (Abu s b i1) (IntKind.u32.wrap (Sd b i1))) 8;rw[show Sd b i1=e1 by simp[Sd,H1],<- hy1,hy2,show i2=8 by omega]),wk (Fa (Dx ((i1:Int)+1)) H1) []⟩
 refine Bu<|.S (fun K kk=>by simp[go_sem,Ip];exact kk) ?_
 refine Bz (Fj ?_);simp[go_sem,Ip]
 exact⟨Ey .xor .u32 IntKind.u32.max y1,by rfl,by rw[hy1,show i1=b.length by omega];rfl⟩
theorem Ug (b:List Int) (h:b.length<=1000000):Ct 103 [.mY b] (fun d:Int=>.lit (.int .u32 d)) (fun d=>d=Te b):=by
 refine Ex Tryz.func103 ?_
 refine Bq ?_
 obtain⟨Y1,cY1,qY1⟩:=Ep (Rn 0 b (by assumption))
 refine B8 Dz cY1 ?_
 exact .ret (fin Dz Y1 qY1)
theorem Tj (n:Int):Ct 141 [.li n] (fun d:Int=>.li d) (fun d=>(d≠0->0<=n/\n<=4294967295)/\(0<=n->n<=4294967295->d≠0)):=by
 refine Ex Tryz.func141 ?_
 refine Bq<|.seq ?_
 refine Bq ?_
 refine Br ?_ ?_<;>intro h9
 ·refine Bq ?_
  exact .ret (fin Dz 0 (by exact⟨fun h=>absurd rfl h,fun _ _=>by omega⟩))
 refine Bp<|.R<|.seq<|.block ?_
 refine Cj (fun (y1:Int×Int)=>⟨[(0,.li y1.1),(3,.li y1.2)],[]⟩) (fun y1=>(0<=y1.1/\y1.1<=4294967295)/\1<=y1.2/\y1.2<=4294967295 - y1.1+1) (fun y1=>y1.1.toNat) (n,1) (wk Dz []) (by dsimp only;omega) fun y1 hy1=>?_
 refine Ca<|.R ?_
 refine Br ?_ ?_<;>intro h11
 ·refine Bp<|.block ?_
  have hd:Int.tdiv y1.1 128=y1.1 / 128:=Int.tdiv_eq_ediv_of_nonneg (by omega)
  have hq:=Dx (y1.1 / 128)
  refine Bt (Fa hd hq) ?_
  have hw1:=Dx (y1.2+1:Int)
  refine B0 hw1 ?_
  refine⟨((y1.1 / 128),(y1.2+1)),?_,?_,wQ [] ?_ ?_⟩
  ·dsimp only;omega
  ·dsimp only;omega
  all_goals simp[go_sem,hw1]
 refine Bu<|.R ?_
 exact .ret (fin Dz y1.2 (by first | exact⟨fun h=>absurd rfl h,fun _ _=>by omega⟩ | exact⟨fun _=>by omega,fun _ _=>by omega⟩))
def viS (n:Int) (y:List Int×Int):Prop:=∃k:Nat,y.1.length+k=5/\y.1++viN k y.2=viN 5 n/\y.2<128 ^ k
variable {y:List Int×Int}
theorem Avv {n:Int} (h:viS n y) (h0:0<=y.2) (h9:y.2<=4294967295) (h1:128<=y.2):viS n (y.1++[IntKind.u8.wrap (IntKind.i64.wrap (Int.tmod y.2 128+128))],y.2 / 128):=by
 obtain⟨k,e1,e2,e4⟩:=h
 cases k with
 | zero=>simp at e4;omega
 | succ k =>
  have hp:(128:Int) ^ (k+1)=128 ^ k*128:=Int.pow_succ _ _
  have ht:Int.tmod y.2 128=y.2 % 128:=Int.tmod_eq_emod_of_nonneg h0
  refine⟨k,by simp;omega,?_,by simp only[];omega⟩
  rw[<- e2,Ach h0 (by omega),if_pos h1,ht,Dx (y.2 % 128+128),Ul (by omega)]
  simp
theorem Azf {n:Int} (h:viS n y) (h1:y.2<128):y.1++[IntKind.u8.wrap y.2]=viN 5 n:=by
 obtain⟨k,e1,e2,e4⟩:=h
 rw[<- e2]
 cases k with
 | zero=>rfl
 | succ k=>rw[viN,if_neg (by omega)]
theorem Hk (n:Int):Ct 106 [.li n] (fun d:List Int×Int=>.tup [.mY d.1,.li d.2]) (fun d=>d.1.length<=5/\By d.1/\(0<=n->n<=4294967295->d.1.length=vnl n)/\(0<=n->n<=4294967295->d=Fl n)):=by
 refine Ex Tryz.func106 ?_
 obtain⟨Y1,cY1,qY1⟩:=Ep (Tj n)
 have hs:=qY1
 refine Bq<|.seq ?_
 refine B8 Dz cY1 ?_
 refine Br ?_ ?_<;>intro h7
 ·refine Bq ?_
  exact .ret (fin Dz ([],8) ⟨Ae _,Qz,fun a b=>absurd (by assumption) (hs.2 a b),fun a b=>absurd (by assumption) (hs.2 a b)⟩)
 have hn:=hs.1 h7
 refine Bp<|.R<|.seq<|.block ?_
 refine Cg 4 5 1 (by decide) (k':=1) (by simp[go_sem]) ?_
 simp[go_sem,-Prod.exists]
 refine Cj (fun (y1:(List Int)×Int)=>⟨[(0,.li y1.2),(4,.own 0 y1.1.length)],[.row 5 1 false false (tY y1.1)]⟩) (fun y1=>(0<=y1.2/\((y1.1.length=0/\y1.2<=4294967295)\/(y1.1.length=1/\y1.2<=33554431)\/(y1.1.length=2/\y1.2<=262143)\/(y1.1.length=3/\y1.2<=2047)\/(y1.1.length=4/\y1.2<=15)))/\By y1.1/\y1.1.length+vnl y1.2=vnl n/\viS n y1) (fun y1=>y1.2.toNat) ([],n) (wk Dz [0]) (⟨by simp;omega,Qz,by simp,5,rfl,rfl,by show n<128 ^ 5;omega⟩) fun y1 hy1=>?_
 refine Ca<|.R ?_
 refine Br ?_ ?_<;>intro h9
 ·refine Bp<|.block<|.H Dz ?_
  have hd:Int.tdiv y1.2 128=y1.2 / 128:=Int.tdiv_eq_ediv_of_nonneg (by omega)
  have hq:=Dx (y1.2 / 128)
  refine B0 (Fa hd hq) ?_
  refine⟨(y1.1++([IntKind.u8.wrap (IntKind.i64.wrap (Int.tmod y1.2 128+128))]),(y1.2 / 128)),?_,?_,wQ [0] ?_ ?_⟩
  ·dsimp only;omega
  ·exact⟨by simp only[Bo,A6,List.length_nil];omega,hy1.2.1.app (Yf _),by have h:=hy1.2.2.1;rw[Ang (by omega) (by omega)] at h;simp only[Bo,A6,List.length_nil];omega,Avv hy1.2.2.2 hy1.1.1 (by omega) h9⟩
  all_goals simp[go_sem]
 refine Bu<|.H Dz ?_
 refine B2 Dz 0 ?_
 exact .ret (fin Dz (y1.1++([IntKind.u8.wrap y1.2]),0) ⟨by simp only[Bo,A6,List.length_nil];omega,hy1.2.1.app (Yf _),fun _ _=>by have h:=hy1.2.2.1;rw[show vnl y1.2=1 by unfold vnl;rw[if_pos (by omega)]] at h;simp only[Bo,A6,List.length_nil];omega,fun _ _=>by rw[Azf hy1.2.2.2 (by omega),Fl,if_neg (by omega)]⟩)
def Ho (n:Int):List Int×Int:=(Ep (Hk n)).choose
theorem Ek (n:Int):(Ho n).1.length<=5/\By (Ho n).1/\(0<=n->n<=4294967295->(Ho n).1.length=vnl n)/\(0<=n->n<=4294967295->(Ho n)=Fl n):=(Ep (Hk n)).choose_spec.2
end
theorem Kh (k:Int):Ct 76 [.li k] (fun d:Ks=>d.g) (fun d=>0<=d.fix/\d.fix<=4/\0<=d.grp/\d.grp<=4/\0<=d.lea/\d.lea<=1/\0<=d.mos/\d.mos<=100 /\ -1<=d.dat/\d.dat<=10/\∀s,Ta k=some s\/Rg k=some s->d=⟨s.fix,s.grp,s.lea,s.mos,s.dat⟩):=by
 refine Ex Tryz.func76 ?_
 refine Bq<|.seq ?_
 refine Bq<|.block ?_
 refine Bq ?_
 refine Br ?_ ?_<;>intro h4
 ·refine Bq ?_
  exact .ret (fin Dz ⟨3,0,0,0,0⟩ ⟨by decide,by decide,by decide,by decide,by decide,by decide,by decide,by decide,by decide,by decide,fun s hs=>by unfold Ta Rg at hs;rcases hs with hs | hs<;>(repeat' split at hs)<;>first | (exfalso;omega) | (cases hs;done) | (cases hs;rfl)⟩)
 refine Cf (by rfl) fun K1 hK1=>?_
 simp[go_sem]
 refine hK1 _ ⟨_,_,_,_,_,_,_,_,rfl,.more (by decide) rfl rfl (.more (by decide) rfl rfl (.more (by decide) rfl rfl (.more (by decide) rfl rfl (.one (by decide) rfl rfl)))),by decide,rfl,by simp[go_sem];rfl,by simp[go_sem];rfl,by simp[go_sem],?_⟩;clear hK1
 refine Br ?_ ?_<;>intro h7
 ·refine Bq ?_
  exact .ret (fin Dz ⟨1,0,0,0,0⟩ ⟨by decide,by decide,by decide,by decide,by decide,by decide,by decide,by decide,by decide,by decide,fun s hs=>by unfold Ta Rg at hs;rcases hs with hs | hs<;>(repeat' split at hs)<;>first | (exfalso;omega) | (cases hs;done) | (cases hs;rfl)⟩)
 refine Cf (by rfl) fun K1 hK1=>?_
 simp[go_sem]
 refine hK1 _ ⟨_,_,_,_,_,_,_,_,rfl,.more (by decide) rfl rfl (.more (by decide) rfl rfl (.one (by decide) rfl rfl)),by decide,rfl,by simp[go_sem];rfl,by simp[go_sem];rfl,by simp[go_sem],?_⟩;clear hK1
 refine Br ?_ ?_<;>intro h15
 ·refine Bq ?_
  exact .ret (fin Dz ⟨2,0,0,0,0⟩ ⟨by decide,by decide,by decide,by decide,by decide,by decide,by decide,by decide,by decide,by decide,fun s hs=>by unfold Ta Rg at hs;rcases hs with hs | hs<;>(repeat' split at hs)<;>first | (exfalso;omega) | (cases hs;done) | (cases hs;rfl)⟩)
 refine Bq ?_
 refine Br ?_ ?_<;>intro h21
 ·refine Bq ?_
  exact .ret (fin Dz ⟨3,4,1,3,0⟩ ⟨by decide,by decide,by decide,by decide,by decide,by decide,by decide,by decide,by decide,by decide,fun s hs=>by unfold Ta Rg at hs;rcases hs with hs | hs<;>(repeat' split at hs)<;>first | (exfalso;omega) | (cases hs;done) | (cases hs;rfl)⟩)
 refine Bq ?_
 refine Br ?_ ?_<;>intro h24
 ·refine Bq ?_
  exact .ret (fin Dz ⟨1,2,1,3,0⟩ ⟨by decide,by decide,by decide,by decide,by decide,by decide,by decide,by decide,by decide,by decide,fun s hs=>by unfold Ta Rg at hs;rcases hs with hs | hs<;>(repeat' split at hs)<;>first | (exfalso;omega) | (cases hs;done) | (cases hs;rfl)⟩)
 refine Bq ?_
 refine Br ?_ ?_<;>intro h27
 ·refine Bq ?_
  exact .ret (fin Dz ⟨1,0,0,0,10⟩ ⟨by decide,by decide,by decide,by decide,by decide,by decide,by decide,by decide,by decide,by decide,fun s hs=>by unfold Ta Rg at hs;rcases hs with hs | hs<;>(repeat' split at hs)<;>first | (exfalso;omega) | (cases hs;done) | (cases hs;rfl)⟩)
 refine Cf (by rfl) fun K1 hK1=>?_
 simp[go_sem]
 refine hK1 _ ⟨_,_,_,_,_,_,_,_,rfl,.one (by decide) rfl rfl,by decide,rfl,by simp[go_sem];rfl,by simp[go_sem];rfl,by simp[go_sem],?_⟩;clear hK1
 refine Br ?_ ?_<;>intro h30
 ·refine Bq ?_
  exact .ret (fin Dz ⟨1,0,0,0,(-1)⟩ ⟨by decide,by decide,by decide,by decide,by decide,by decide,by decide,by decide,by decide,by decide,fun s hs=>by unfold Ta Rg at hs;rcases hs with hs | hs<;>(repeat' split at hs)<;>first | (exfalso;omega) | (cases hs;done) | (cases hs;rfl)⟩)
 refine Bq ?_
 refine Br ?_ ?_<;>intro h34
 ·refine Bq ?_
  exact .ret (fin Dz ⟨1,3,0,16,0⟩ ⟨by decide,by decide,by decide,by decide,by decide,by decide,by decide,by decide,by decide,by decide,fun s hs=>by unfold Ta Rg at hs;rcases hs with hs | hs<;>(repeat' split at hs)<;>first | (exfalso;omega) | (cases hs;done) | (cases hs;rfl)⟩)
 refine Bq ?_
 refine Br ?_ ?_<;>intro h37
 ·refine Bq ?_
  exact .ret (fin Dz ⟨0,2,0,4,0⟩ ⟨by decide,by decide,by decide,by decide,by decide,by decide,by decide,by decide,by decide,by decide,fun s hs=>by unfold Ta Rg at hs;rcases hs with hs | hs<;>(repeat' split at hs)<;>first | (exfalso;omega) | (cases hs;done) | (cases hs;rfl)⟩)
 refine Bq ?_
 refine Br ?_ ?_<;>intro h40
 ·refine Bq ?_
  exact .ret (fin Dz ⟨4,0,0,0,0⟩ ⟨by decide,by decide,by decide,by decide,by decide,by decide,by decide,by decide,by decide,by decide,fun s hs=>by unfold Ta Rg at hs;rcases hs with hs | hs<;>(repeat' split at hs)<;>first | (exfalso;omega) | (cases hs;done) | (cases hs;rfl)⟩)
 refine Bp<|.R ?_
 exact .ret (fin Dz ⟨0,0,0,0,0⟩ ⟨by decide,by decide,by decide,by decide,by decide,by decide,by decide,by decide,by decide,by decide,fun s hs=>by unfold Ta Rg at hs;rcases hs with hs | hs<;>(repeat' split at hs)<;>first | (exfalso;omega) | (cases hs;done) | (cases hs;rfl)⟩)
def Ef (k:Int):Ks:=(Ep (Kh k)).choose
theorem Ny (k:Int):PP 76 [] [.li k] [] (.agg ((Ef k).a false)):=(Ep (Kh k)).choose_spec.1
theorem Od (k:Int):0<=(Ef k).fix/\(Ef k).fix<=4/\0<=(Ef k).grp/\(Ef k).grp<=4/\0<=(Ef k).lea/\(Ef k).lea<=1/\0<=(Ef k).mos/\(Ef k).mos<=100 /\ -1<=(Ef k).dat/\(Ef k).dat<=10/\∀s,Ta k=some s\/Rg k=some s->(Ef k)=⟨s.fix,s.grp,s.lea,s.mos,s.dat⟩:=(Ep (Kh k)).choose_spec.2
section
def viR (l:List Int):Prop:=∀a∈l,0<=a/\a<=4294967295
def PaX (m:Ea) (y:List Int) (i:Nat):Prop:=∀s,Rg m.kind=some s->Jv m.args->m.args.length<=100->(Ko s m.args.length).2=true->y=m.tok++R8 s m.args i
theorem X4 {k:Int} {s:F5} (h:Rg k=some s):1<=k/\k<=12/\s.tok=10/\s.dat=0/\0<=s.fix/\s.fix<=3/\0<=s.grp/\s.grp<=4/\0<=s.mos/\s.mos<=3:=by
 unfold Rg at h
 (repeat' split at h)<;>first | (cases h;done) | (cases h;refine⟨by omega,by omega,rfl,rfl,?_⟩;decide)
variable {e:Int} {i:Nat}
theorem Ase {l:List Int} (h:Jv l) (he:l[i]? = some e):0<=e/\e<=4294967295:=by
 have:=h e (Ac he)
 unfold Fl at this
 split at this
 ·cases this
 omega
theorem Afg {n:Int} (h:0<=n/\n<128):Fl n=([n],0):=by
 unfold Fl
 rw[if_neg (by omega),Ach h.1 (by omega),if_neg (by omega)]
theorem PaX.zero (m:Ea):PaX m m.tok 0:=fun s hs _ _ _=>by
 have:=X4 hs
 unfold R8
 rw[if_neg (by omega)]
 simp[codes]
variable {m:Ea}
theorem PaX.gr {s:F5} (hs:Rg m.kind=some s) (hl:m.args.length<=100) (hg:0<s.grp) (ho:(Ko s m.args.length).2=true):0<=(m.args.length:Int) - s.fix/\(Ko s m.args.length).1=((m.args.length:Int) - s.fix).tdiv s.grp/\0<=((m.args.length:Int) - s.fix).tdiv s.grp/\((m.args.length:Int) - s.fix).tdiv s.grp<=100:=by
 have hb:=X4 hs
 unfold Ko at ho ⊢
 rw[if_neg (by omega)] at ho ⊢
 split at ho
 ·cases ho
 rename_i hn
 rw[if_neg hn]
 have h0:0<=(m.args.length:Int) - s.fix:=by omega
 have:=Int.tdiv_le_self s.grp h0
 exact⟨h0,rfl,Int.tdiv_nonneg h0 (by omega),by omega⟩
variable {S:Ks} {y:List Int} {Y:List Int×Int}
theorem PaX.grp (hS:∀s,Ta m.kind=some s\/Rg m.kind=some s->S=⟨s.fix,s.grp,s.lea,s.mos,s.dat⟩) (h:PaX m y i) (he:m.args[i]? = some e) (hc:(i:Int)=S.fix/\0<S.grp) (hY:0<=e->e<=4294967295->Y=Fl e):PaX m (y++([IntKind.u8.wrap (IntKind.i64.wrap (Int.tdiv (IntKind.i64.wrap (m.args.length - S.fix)) S.grp))])++Y.1) (i+1):=fun s hs hv hl ho=>by
 have hq:=hS s (.inr hs)
 have hb:=X4 hs
 rw[hq] at hc ⊢
 dsimp only at hc ⊢
 have hg:=PaX.gr hs hl hc.2 ho
 have e1:=Ase hv he
 rw[Dx ((m.args.length:Int) - s.fix),Dx (((m.args.length:Int) - s.fix).tdiv s.grp) (by omega) (by omega),Ul (by omega),h s hs hv hl ho,hY e1.1 e1.2,<- Aj5 hc.1 hc.2 he,hg.2.1,Afg (n:=((m.args.length:Int) - s.fix).tdiv s.grp) (by omega)]
 simp
theorem PaX.one (hS:∀s,Ta m.kind=some s\/Rg m.kind=some s->S=⟨s.fix,s.grp,s.lea,s.mos,s.dat⟩) (h:PaX m y i) (he:m.args[i]? = some e) (hc:¬((i:Int)=S.fix/\0<S.grp)) (hY:0<=e->e<=4294967295->Y=Fl e):PaX m (y++Y.1) (i+1):=fun s hs hv hl ho=>by
 have hq:=hS s (.inr hs)
 have hb:=X4 hs
 rw[hq] at hc
 dsimp only at hc
 have e1:=Ase hv he
 rw[h s hs hv hl ho,hY e1.1 e1.2,<- Aj4 hb.2.2.2.2.1 hc he,List.append_assoc]
theorem PaX.fin0 (hS:∀s,Ta m.kind=some s\/Rg m.kind=some s->S=⟨s.fix,s.grp,s.lea,s.mos,s.dat⟩) (h:PaX m y m.args.length) (hc:(m.args.length:Int)=S.fix/\0<S.grp) (s:F5) (hs:Rg m.kind=some s) (hv:Jv m.args) (hl:m.args.length<=100) (ho:(Ko s m.args.length).2=true):y++([0])++m.data=m.tok++msArgs s m.args++m.data:=by
 have hq:=hS s (.inr hs)
 have hb:=X4 hs
 rw[hq] at hc
 dsimp only at hc
 have hg:=PaX.gr hs hl hc.2 ho
 have hz:(Ko s m.args.length).1=0:=by rw[hg.2.1,hc.1,Int.sub_self];exact Int.zero_tdiv _
 have e0:=Aha hc.1 hc.2
 rw[hz,Afg (by omega)] at e0
 rw[h s hs hv hl ho,<- e0]
 simp
theorem PaX.fin (hS:∀s,Ta m.kind=some s\/Rg m.kind=some s->S=⟨s.fix,s.grp,s.lea,s.mos,s.dat⟩) (h:PaX m y m.args.length) (hc:¬((m.args.length:Int)=S.fix/\0<S.grp)) (s:F5) (hs:Rg m.kind=some s) (hv:Jv m.args) (hl:m.args.length<=100) (ho:(Ko s m.args.length).2=true):y++m.data=m.tok++msArgs s m.args++m.data:=by
 have hq:=hS s (.inr hs)
 have hb:=X4 hs
 rw[hq] at hc
 dsimp only at hc
 rw[h s hs hv hl ho,<- Aj6 hb.2.2.2.2.1 hb.2.2.2.2.2.2.1 hc ho]
def FrQ (m:Ea) (d:List Int):Prop:=∀s,Rg m.kind=some s->Jv m.args->m.args.length<=100->(Ko s m.args.length).2=true->d=[]\/d=Gn m.kind (m.tok++msArgs s m.args++m.data)
section
variable (m:Ea) (h1:m.tok.length<=10000) (h2:m.args.length<=10000) (h3:m.data.length<=10000)
include h1 h2 h3
theorem Iw:Ct 78 [m.g] (fun d:List Int=>.mY d) (fun d=>(By m.tok->By m.data->By d)/\(viR m.args->(0<(Ef m.kind).grp->(Ef m.kind).fix<=m.args.length)->d.length=m.tok.length+Np m.args+(if 0<(Ef m.kind).grp then 1 else 0)+m.data.length)/\(∀s,Rg m.kind=some s->Jv m.args->m.args.length<=100->(Ko s m.args.length).2=true->d=m.tok++msArgs s m.args++m.data)):=by
 refine Ex Tryz.func78 ?_
 have hv:=Ny m.kind
 have hq0:=Od m.kind
 have hS:=hq0.2.2.2.2.2.2.2.2.2.2
 generalize Ef m.kind=S at hv hq0 hS ⊢
 refine B3 (fun K kk=>by simp[go_sem,Af,Ba,A7];exact kk) ?_
 refine B3 (fun K kk=>by simp[go_sem,Af,Ba,A7];refine .l (hv) ?_;simp[go_sem,Af,Ba,A7];exact kk) ?_
 refine B3 (fun K kk=>by simp[go_sem,Af,Ba,A7];repeat first | exact kk | refine aK ?_)<|.seq ?_
 refine B3 (fun K kk=>by simp[go_sem,Af,Ba,A7];exact kk)<|.block ?_
 refine Bs m.args.length (fun i1 (y1:(List Int))=>⟨[(1,.ptr 0 0),(3,.ptr 1 0),(4,.own 2 y1.length),(16,.mI m.args),(17,.li m.args.length),(18,.li i1)],[.box 56 (m.a false),.box 177 [.li S.fix,.li S.grp,.li S.lea,.li S.mos,.li S.dat],.row 5 1 false false (tY y1)]⟩) (fun i1 y1=>y1.length<=m.tok.length+6*i1/\(By m.tok->By y1)/\(viR m.args->y1.length=m.tok.length+Np (m.args.take i1)+if 0<S.grp/\S.fix<i1 then 1 else 0)/\PaX m y1 i1) (m.tok) (wk Dz [0,1,2]) (⟨by simp,fun h=>h,fun _=>by rw[if_neg (by omega)];simp[Np],PaX.zero m⟩) fun i1 y1 hi1 hy1=>?_
 refine B3 (fun K kk=>by simp[go_sem,Af,Ba,A7];exact kk)<|.seq ?_
 refine Br ?_ ?_<;>intro h19
 ·refine Bp<|.seq<|.block ?_
  obtain⟨e1,H1⟩:=gx m.args i1
  refine B3 (fun K kk=>by simp[go_sem,Af,Ba,A7,H1];repeat first | exact kk | refine aK ?_)<|.seq ?_
  refine B3 (fun K kk=>by simp[go_sem,Af,Ba,A7,H1];exact kk) ?_
  refine Br ?_ ?_<;>intro h31
  ·refine Ck (fun K kk=>by simp[go_sem,Af,Ba,A7,H1];repeat first | exact kk | refine aK ?_) ?_
   have he:=fun n=>Ek n
   obtain⟨Y1,cY1,qY1⟩:=Ep (Hk e1)
   refine B3 (fun K kk=>by simp[go_sem,Af,Ba,A7,H1];refine .l cY1 ?_;simp[go_sem,Af,Ba,A7,H1];exact kk) ?_
   refine C5 (by rfl) fun K1 hK1=>?_
   simp[go_sem,Af,Ba,A7,H1]
   repeat' with_reducible refine Ax ?_ ?_
   all_goals try (intros;(repeat' refine Ax ?_ ?_)<;>omega)
   all_goals try ((try have q1:=qY1);(try have q2:=Ek e2);(try have q3:=Ek e3);(try have q4:=Ek e4);omega)
   refine hK1 _ ?_;clear hK1
   refine Ck (fun K kk=>by simp[go_sem,Af,Ba,A7,H1];exact kk) ?_
   refine⟨by omega,((y1++([IntKind.u8.wrap (IntKind.i64.wrap (Int.tdiv (IntKind.i64.wrap (m.args.length - S.fix)) S.grp))]))++(Y1.1)),?_,wQ [0,1,2] ?_ ?_⟩
   ·refine⟨?_,(fun h=>by first | exact hy1.2.1 h | exact ((hy1.2.1 h).app (Yf _)).app qY1.2.1),fun hr=>(by have h9:=hy1.2.2.1 hr;(rw[Ajf H1];have h8:=qY1.2.2.1 (hr e1 (Ac H1)).1 (hr e1 (Ac H1)).2;simp only[Bo,A6,List.length_nil];split at h9<;>split<;>omega)),PaX.grp hS hy1.2.2.2 H1 (by omega) qY1.2.2.2⟩;simp only[Bo,A6,List.length_nil];(try have q1:=qY1);(try have q2:=Ek e2);(try have q3:=Ek e3);(try have q4:=Ek e4);omega
   all_goals simp[go_sem,Dx ((i1:Int)+1),H1,Af,Ba,A7]
  refine Bp ?_
  have he:=fun n=>Ek n
  obtain⟨Y2,cY2,qY2⟩:=Ep (Hk e1)
  refine B3 (fun K kk=>by simp[go_sem,Af,Ba,A7,H1];refine .l cY2 ?_;simp[go_sem,Af,Ba,A7,H1];exact kk) ?_
  refine C5 (by rfl) fun K1 hK1=>?_
  simp[go_sem,Af,Ba,A7,H1]
  repeat' with_reducible refine Ax ?_ ?_
  all_goals try (intros;(repeat' refine Ax ?_ ?_)<;>omega)
  all_goals try ((try have q1:=qY2);(try have q2:=Ek e2);(try have q3:=Ek e3);(try have q4:=Ek e4);omega)
  refine hK1 _ ?_;clear hK1
  refine Ck (fun K kk=>by simp[go_sem,Af,Ba,A7,H1];exact kk) ?_
  refine⟨by omega,(y1++(Y2.1)),?_,wQ [0,1,2] ?_ ?_⟩
  ·refine⟨?_,(fun h=>by first | exact hy1.2.1 h | exact ((hy1.2.1 h).app (Yf _)).app qY2.2.1 | exact (hy1.2.1 h).app qY2.2.1),fun hr=>(by have h9:=hy1.2.2.1 hr;(rw[Ajf H1];have h8:=qY2.2.2.1 (hr e1 (Ac H1)).1 (hr e1 (Ac H1)).2;simp only[Bo,A6,List.length_nil];split at h9<;>split<;>omega)),PaX.one hS hy1.2.2.2 H1 (by omega) qY2.2.2.2⟩;simp only[Bo,A6,List.length_nil];(try have q1:=qY2);(try have q2:=Ek e2);(try have q3:=Ek e3);(try have q4:=Ek e4);omega
  all_goals simp[go_sem,Dx ((i1:Int)+1),H1,Af,Ba,A7]
 refine Bu<|.seq<|.S (fun K kk=>by simp[go_sem,Af,Ba,A7];exact kk) ?_
 refine Br ?_ ?_<;>intro h64
 ·refine Ck (fun K kk=>by simp[go_sem,Af,Ba,A7];repeat first | exact kk | refine aK ?_) ?_
  refine B3 (fun K kk=>by simp[go_sem,Af,Ba,A7];repeat first | exact kk | refine aK ?_) ?_
  refine B2 Dz 2 ?_
  refine Bz (Fj ?_);simp[go_sem,Af,Ba,A7]
  exact⟨(y1++([0]))++m.data,by first | rfl | simp[go_sem],⟨fun h1 h2=>by exact ((hy1.2.1 h1).app (fun x hx=>by simp at hx;omega)).app h2,fun hr hf=>(by have h9:=hy1.2.2.1 hr;rw[Bf (by omega)] at h9;simp only[Bo,A6,List.length_nil];split at h9<;>split<;>omega),fun s a b c d=>by simpa using PaX.fin0 hS (by have h9:=hy1.2.2.2;rwa[show i1=m.args.length by omega] at h9) (by omega) s a b c d⟩⟩
 refine Bp<|.S (fun K kk=>by simp[go_sem,Af,Ba,A7];repeat first | exact kk | refine aK ?_) ?_
 refine B2 Dz 2 ?_
 refine Bz (Fj ?_);simp[go_sem,Af,Ba,A7]
 exact⟨y1++m.data,by first | rfl | simp[go_sem],⟨fun h1 h2=>by first | exact ((hy1.2.1 h1).app (fun x hx=>by simp at hx;omega)).app h2 | exact (hy1.2.1 h1).app h2,fun hr hf=>(by have h9:=hy1.2.2.1 hr;rw[Bf (by omega)] at h9;simp only[Bo,A6,List.length_nil];split at h9<;>split<;>omega),fun s a b c d=>by simpa using PaX.fin hS (by have h9:=hy1.2.2.2;rwa[show i1=m.args.length by omega] at h9) (by omega) s a b c d⟩⟩
def Fb:List Int:=(Ep (Iw m h1 h2 h3)).choose
theorem K6:PP 78 [] [m.g] [] (.mY (Fb m h1 h2 h3)):=(Ep (Iw m h1 h2 h3)).choose_spec.1
theorem K8:(By m.tok->By m.data->By (Fb m h1 h2 h3))/\(viR m.args->(0<(Ef m.kind).grp->(Ef m.kind).fix<=m.args.length)->(Fb m h1 h2 h3).length=m.tok.length+Np m.args+(if 0<(Ef m.kind).grp then 1 else 0)+m.data.length)/\(∀s,Rg m.kind=some s->Jv m.args->m.args.length<=100->(Ko s m.args.length).2=true->(Fb m h1 h2 h3)=m.tok++msArgs s m.args++m.data):=(Ep (Iw m h1 h2 h3)).choose_spec.2
end
end
section
variable (l:List Int) (x:Int) (h:l.length<=1000000)
include x h
theorem Vf:Ct 248 [.mI l,.li x] (fun d:Int=>.li d) (fun d=>0<=d->x∈l):=by
 refine Ex Tryz.func248 ?_
 refine Bq<|.seq ?_
 refine Bq<|.block ?_
 refine Bs l.length (fun i1 (y1:Unit)=>⟨[(0,.mI l),(1,.li x),(7,.li l.length),(8,.li i1)],[]⟩) (fun i1 y1=>True) () (wk Dz []) (trivial) fun i1 y1 hi1 hy1=>?_
 refine Bq<|.seq ?_
 refine Br ?_ ?_<;>intro h9
 ·refine Bp<|.seq<|.block<|.R ?_
  obtain⟨e1,H1⟩:=gx l i1
  refine Bt H1 ?_
  refine Br ?_ ?_<;>intro h16
  ·refine Bt H1 ?_
   exact .ret (fin H1 i1 (by first | exact fun h=>absurd h (by decide) | exact fun _=>h16▸Ac H1))
  refine Bp<|.H1 H1 ?_
  exact⟨by omega,(),trivial,wk (Fa (Dx ((i1:Int)+1)) H1) []⟩
 refine Bu<|.R ?_
 exact .ret (fin Dz (-1) (by exact fun h=>absurd h (by decide)))
def Vv:Int:=(Ep (Vf l x h)).choose
theorem Ald:PP 248 [] [.mI l,.li x] [] (.li (Vv l x h)):=(Ep (Vf l x h)).choose_spec.1
theorem Al2:0<=(Vv l x h)->x∈l:=(Ep (Vf l x h)).choose_spec.2
theorem Aec:Ct 223 [.mI l,.li x] (fun d:Bool=>.lb d) (fun d=>d=true->x∈l):=by
 refine Ex Tryz.func223 ?_
 refine Bq ?_
 refine B8 Dz (Ald l x (by assumption)) ?_
 exact .ret (fin Dz (decide ((0:Int)<=(Vv l x (by assumption)))) (fun h2=>Al2 l x h (by simpa using h2)))
end
theorem Yu (c:List Int) (l:List Int) (h:l.length<=1000000) (hc:c.length<=1000000):Ct 177 [.mI c,.mI l] (fun d:Bool=>.lb d) (fun d=>True):=by
 refine Ex Tryz.func177 ?_
 refine Bq ?_
 refine VX.scope ?_
 refine Bq<|.seq ?_
 refine VX.label ?_
 refine Ca<|.R<|.block ?_
 refine Bs l.length (fun i1 (y1:Bool)=>⟨[(0,.mI c),(1,.mI l),(5,.lb y1),(10,.mI l),(11,.li l.length),(12,.li i1)],[]⟩) (fun i1 y1=>True) (false) (wk Dz []) (trivial) fun i1 y1 hi1 hy1=>?_
 refine Bq<|.seq ?_
 refine Br ?_ ?_<;>intro h13
 ·refine Bp<|.seq<|.block ?_
  obtain⟨e1,H1⟩:=gx l i1
  refine Bt H1<|.seq ?_
  obtain⟨Y1,cY1,qY1⟩:=Ep (Uk e1)
  refine B8 H1 cY1 ?_
  refine Br ?_ ?_<;>intro h19
  ·refine Bu<|.H1 H1 ?_
   exact⟨by omega,(y1),trivial,wk (Fa (Dx ((i1:Int)+1)) H1) []⟩
  refine Bp<|.H H1<|.block ?_
  refine Bs l.length (fun i2 (y2:Bool)=>⟨[(0,.mI c),(1,.mI l),(5,.lb y2),(6,.li i1),(10,.mI l),(11,.li l.length),(12,.li i1),(20,.mI l),(21,.li l.length),(22,.li i2)],[]⟩) (fun i2 y2=>True) (y1) (wk H1 []) (trivial) fun i2 y2 hi2 hy2=>?_
  refine Bt H1<|.seq ?_
  refine Br ?_ ?_<;>intro h23
  ·refine Bp<|.seq<|.block ?_
   obtain⟨e2,H2⟩:=gx l i2
   refine Bt (Fa H1 H2) ?_
   refine B7 (by rfl) fun K1 hK1=>?_
   simp[go_sem,H1,H2]
   obtain⟨Y2,cY2,qY2⟩:=Ep (Uk e2)
   refine .l cY2 ?_
   simp[go_sem,H1,H2]
   refine Pv ?_
   simp[go_sem,H1,H2]
   refine .lo (Io c i1 i2 (by assumption)) rfl (by simp[AV.cln,Fu]) ?_
   simp[go_sem,H1,H2]
   refine hK1 _ ?_;clear hK1
   refine Br ?_ ?_<;>intro h34
   ·refine Bt (Fa H1 H2)<|.exit ?_
    refine Bt (Fa H1 H2) ?_
    exact .ret (fin (Fa H1 H2) true trivial)
   refine Bp<|.H1 (Fa H1 H2) ?_
   exact⟨by omega,(y2),trivial,wk (Hq (Dx ((i2:Int)+1)) H1 H2) []⟩
  refine Bu<|.H1 H1 ?_
  exact⟨by omega,(y2),trivial,wk (Fa (Dx ((i1:Int)+1)) H1) []⟩
 refine Bu<|.R ?_
 exact .ret (fin Dz y1 trivial)
section
variable {sl:List (Nat×AV)} {n m:Nat} {ob:List Ob}
section
variable {P:Program}
def Ayy {γ:Type} (M:Nat) (sl:List (Nat×AV)) (f:γ->List Ob) (I:γ->Prop) (K:Exit->St->Prop):Exit->St->Prop
 | .normal,s=>∃x',I x'/\Zq M s ⟨[],f x'⟩
 | .ret,s=>∃ob',Zq M s ⟨[],ob'⟩/\K .ret ⟨sl,ob'⟩
 | .exit id,s=>∃ob',Zq M s ⟨[],ob'⟩/\K (.exit id) ⟨sl,ob'⟩
 | .goto t,s=>∃ob',Zq M s ⟨[],ob'⟩/\K (.goto t) ⟨sl,ob'⟩
 | _,_=>False
theorem J7.mono {k:Nat} {o:List Ob} {I I':Prop} {K K':Exit->St->Prop} (hI:I->I') (hK:∀e s,K e s->K' e s) {e:Exit} {s:St} (h:J7 k sl o I K e s):J7 k sl o I' K' e s:=by
 cases e with
 | normal=>exact⟨h.1,hI h.2⟩
 | ret=>obtain⟨ob,h1,h2⟩:=h;exact⟨ob,h1,hK _ _ h2⟩
 | exit id=>obtain⟨ob,h1,h2⟩:=h;exact⟨ob,h1,hK _ _ h2⟩
 | goto t=>obtain⟨ob,h1,h2⟩:=h;exact⟨ob,h1,hK _ _ h2⟩
 | _=>exact h
theorem J7.jump {k:Nat} {o o':List Ob} {I:Prop} {K:Exit->St->Prop} {e:Exit} {s:St} (h:J7 k sl o False K e s):J7 k sl o' I K e s:=by
 cases e with
 | normal=>exact h.2.elim
 | _=>exact h
theorem VX.rangeFn {γ : Type} {K : Exit -> St -> Prop} {g : Tmp} {ps : List Tmp} {al : List Oper} {aid : Nat} {body : Code} {gf : FuncId} {caps : List AV} {items : List (List AV)} (hit : Zu P gf caps items) (f : γ -> List Ob) (M : Nat) (hM : ∀ x, (f x).length = M) (hg : E9 sl g = .fn gf caps) (hlive : ∀ x id, (St.mk sl (f x)).o id ≠ .gone -> ((St.mk sl (f x)).o id).live) (hps : ∀ p ∈ ps, p < n) (hal : A0t n al = true) (hcl : ∀ vs ∈ items, vs.length = ps.length /\ Om (fun _ => none) vs = vs) (Inv : Nat -> γ -> Prop) (x0 : γ) (hI0 : Inv 0 x0) (hround : ∀ i vs x, items[i]? = some vs -> Inv i x -> VX P n M body (Ahq al ⟨T9 ps vs sl, f x⟩) (Ayy M sl f (Inv (i + 1)) K)) (hdone : ∀ x, Inv items.length x -> K .normal ⟨sl, f x⟩) :
    VX P n m (.rangeFunc (.tmp g) ps.toArray (.region aid al.toArray false) body) ⟨sl,f x0⟩ K:=by
  have key : ∀ (k i : Nat) (x : γ), i + k = items.length -> Inv i x -> ∃ e s, K e s /\ ∃ (xs : Nat -> γ) (stop : Nat), xs i = x /\ i <= stop /\ stop <= items.length /\
      (∀j vs,i<=j->j<stop->items[j]? = some vs->VW P n M body (Ahq al ⟨T9 ps vs sl,f (xs j)⟩) (J7 M sl (f (xs (j+1))) True fun _ _=>False)) /\
      (stop=items.length->e=.normal/\s=⟨sl,f (xs stop)⟩)/\(∀vs,items[stop]? = some vs->VW P n M body (Ahq al ⟨T9 ps vs sl,f (xs stop)⟩) (J7 M sl [] False fun e' s'=>e'=e/\s'=s)):=by
    intro k
    induction k with
    | zero =>
      intro i x hi hI
      refine ⟨.normal, ⟨sl, f x⟩, hdone x (by have : i = items.length := by omega
                                              rw[<- this];exact hI),fun _=>x,i,rfl,Aj _,by omega,fun j vs h1 h2=>by omega,fun _=>⟨rfl,rfl⟩,fun vs h=>?_⟩
      have:=(Ab.1 h).1
      omega
    | succ k ih =>
      intro i x hi hI
      obtain⟨vs,hvs⟩:∃vs,items[i]? = some vs:=⟨_,Aa (by omega)⟩
      obtain⟨e1,s1,h1,h2⟩:=hround i vs x hvs hI
      have other : ∀ (e : Exit) (s : St), K e s -> J7 M sl [] False (fun e' s' => e' = e /\ s' = s) e1 s1 -> ∃ e s, K e s /\ ∃ (xs : Nat -> γ) (stop : Nat), xs i = x /\ i <= stop /\ stop <= items.length /\
          (∀j vs,i<=j->j<stop->items[j]? = some vs->VW P n M body (Ahq al ⟨T9 ps vs sl,f (xs j)⟩) (J7 M sl (f (xs (j+1))) True fun _ _=>False)) /\
          (stop=items.length->e=.normal/\s=⟨sl,f (xs stop)⟩)/\(∀vs,items[stop]? = some vs->VW P n M body (Ahq al ⟨T9 ps vs sl,f (xs stop)⟩) (J7 M sl [] False fun e' s'=>e'=e/\s'=s)):=by
        intro e s hK hR
        refine⟨e,s,hK,fun _=>x,i,rfl,Aj _,by omega,fun j vs h1 h2=>by omega,fun h=>by omega,fun vs' h=>?_⟩
        rw[hvs] at h
        injection h with h
        subst h
        refine h1.mono ?_
        rintro e' s' ⟨rfl,rfl⟩
        exact hR
      cases e1 with
      | normal =>
        obtain⟨x',h3,h4⟩:=h2
        obtain⟨e,s,hK,xs,stop,q1,q2,q3,q4,q5,q6⟩:=ih (i+1) x' (by omega) h3
        refine⟨e,s,hK,fun j=>if j=i then x else xs j,stop,if_pos rfl,by omega,q3,fun j vs' hj1 hj2 hjv=>?_,fun h=>?_,fun vs' h=>?_⟩
        · by_cases e0:j=i
          · subst e0
            rw[hvs] at hjv
            injection hjv with hjv
            subst hjv
            simp only[if_true]
            rw[if_neg (by omega),q1]
            refine h1.mono ?_
            rintro e' s' ⟨rfl,rfl⟩
            exact⟨h4,trivial⟩
          · simp only
            rw[if_neg e0,if_neg (by omega)]
            exact q4 j vs' (by omega) hj2 hjv
        · obtain⟨g1,g2⟩:=q5 h
          exact⟨g1,by simp only;rw[if_neg (by omega)];exact g2⟩
        · simp only
          rw[if_neg (by omega)]
          exact q6 vs' h
      | ret=>obtain⟨ob,h3,h4⟩:=h2;exact other _ _ h4 ⟨ob,h3,rfl,rfl⟩
      | exit id=>obtain⟨ob,h3,h4⟩:=h2;exact other _ _ h4 ⟨ob,h3,rfl,rfl⟩
      | goto t=>obtain⟨ob,h3,h4⟩:=h2;exact other _ _ h4 ⟨ob,h3,rfl,rfl⟩
      | panic ch=>exact h2.elim
      | outgrown=>exact h2.elim
  obtain⟨e,s,hK,xs,stop,q1,q2,q3,q4,q5,q6⟩:=key items.length 0 x0 (by omega) hI0
  refine⟨e,s,?_,hK⟩
  have:=VW.rangeFn (m:=m) (K:=fun e' s'=>e'=e/\s'=s) (body:=body) (al:=al) (aid:=aid) (ps:=ps) (n:=n) (sl:=sl) (g:=g) hit (fun j=>f (xs j)) hg (fun j id=>hlive (xs j) id) hps hal hcl (fun j=>j<=stop) (Ae _) (fun j vs hj hI=>?_) (fun hI=>?_)
  · simp only[q1] at this
    exact this
  · rw[hM]
    by_cases e0:j=stop
    · subst e0
      exact (q6 vs hj).mono fun e' s' h=>h.jump
    · exact (q4 j vs (Ae _) (by omega) hj).mono fun e' s' h=>h.mono (fun _=>by omega) fun _ _ h=>h.elim
  · have hs:stop=items.length:=by omega
    obtain⟨g1,g2⟩:=q5 hs
    rw[hs] at g2
    exact⟨g1.symm,g2.symm⟩
abbrev Dm:=@VX.rangeFn
def St.dull (st:St) (id:Nat):St:=st.set id (.row (Abf (st.o id)) (T4 (st.o id)) false (At1 (st.o id)) (Lu (st.o id)))
theorem VX.dull {st:St} {K:Exit->St->Prop} {c:Code} (id:Nat) (h:F8 (st.o id)=true) (hv:VX P n m c (st.dull id) K):VX P n m c st K:=by
 obtain⟨e,s,h1,h2⟩:=hv
 refine⟨e,s,fun E F hE hF β a w r=>h1 E F hE hF β a w ?_,h2⟩
 unfold St.dull
 cases hq:st.o id with
 | row ty k fr fz es=>exact (r.flag hq (fun e=>by cases e) fun e=>e).1
 | _=>rw[hq] at h;exact absurd h (by simp[F8])
abbrev Cw:=@VX.dull
theorem A0x {id:Nat}:(St.mk sl ob).dull id=St.mk sl (P3 ob id (.row (Abf (ob.getD id .gone)) (T4 (ob.getD id .gone)) false (At1 (ob.getD id .gone)) (Lu (ob.getD id .gone)))):=rfl
attribute [go_sem] A0x
theorem Alw {m:Nat} {rs:List ResultVar} {σr:List Ob} {res:AV} (sel:List Nat) (hc:Wp P ⟨sl,ob⟩ rs) (hnd:sel.Nodup) (hm:∀id,id<m->sel[id]? = some id) (h:((Lg P ⟨sl,ob⟩ rs).ren fun id=>Nq id sel 0).low=res) (ho:OL (fun i=>ob.getD i .gone) (fun id=>Nq id sel 0) sel σr):Sg P m rs σr res .normal ⟨sl,ob⟩ :=
 ⟨.inl rfl,hc,sel,Es hnd (.cons (by rw[<- h];exact Le.low _) .nil) ho,hm⟩
end
end
end Go.Proofs.YtkkimgjinbaemaaGreat
