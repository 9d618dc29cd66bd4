/- The walk. -/
import Derived.Test.YtkkimgjinbaemaaGreatKag
noncomputable section
namespace Go.Proofs.YtkkimgjinbaemaaGreat
open Go.RowKit
set_option linter.unusedVariables false
set_option linter.unusedSimpArgs false
set_option linter.defProp false
set_option linter.unusedSectionVars false
set_option maxRecDepth 100000
set_option maxHeartbeats 4000000
section
section
variable (k:Int)
include k
def Vf:Option Gt:=if k=13\/k=14\/k=15 then some ⟨0,2,0,0,0,0⟩ else if k=16 then some ⟨0,1,0,0,0,10⟩ else if k=17 then some ⟨0,1,0,0,0,-1⟩ else if k=18 then some ⟨0,1,3,0,16,0⟩ else if k=19 then some ⟨0,0,2,0,4,0⟩ else if k=20 then some ⟨0,4,0,0,0,0⟩ else none
theorem Mw:Ct 74 [.li k] (fun d:Gt×Bool=>.tup [d.1.g,.lb d.2]) (fun d=>(0<=d.1.tok/\∀s,Vf k=some s->d=(s,true))/\d.1.tok<=10/\0<=d.1.fix/\d.1.fix<=4/\0<=d.1.grp/\d.1.grp<=4/\0<=d.1.lea/\d.1.mos<=100/\(k=2->d.1.fix=3)/\(k=4->d.1.fix=2)/\(k=6->d.1.fix=3)/\((k=3\/k=5\/k=7\/k=8\/k=10\/k=11)->d.1.fix=1)):=by
 refine Er Tryz.func74 ?_
 refine Bq<|.seq ?_
 refine Bq<|.block ?_
 refine Ce (by rfl) fun K1 hK1=>?_
 simp[go_sem]
 refine hK1 _ ⟨_,_,_,_,_,_,_,_,rfl,.more (by decide) rfl rfl (.one (by decide) rfl rfl),by decide,rfl,by simp[go_sem];rfl,by simp[go_sem];rfl,by simp[go_sem],?_⟩;clear hK1
 refine Br ?_ ?_<;>intro h5
 ·refine Bq ?_
  exact .ret (Ep Dy (⟨10,0,0,0,0,0⟩,true) ⟨⟨by (try dsimp only);omega,(fun s hs=>by unfold Vf at hs;(repeat' split at hs)<;>first | (exfalso;omega) | (cases hs;done))⟩,by (try dsimp only);omega⟩)
 refine Bq ?_
 refine Br ?_ ?_<;>intro h10
 ·refine Bq ?_
  exact .ret (Ep Dy (⟨10,3,0,0,0,0⟩,true) ⟨⟨by (try dsimp only);omega,(fun s hs=>by unfold Vf at hs;(repeat' split at hs)<;>first | (exfalso;omega) | (cases hs;done))⟩,by (try dsimp only);omega⟩)
 refine Ce (by rfl) fun K1 hK1=>?_
 simp[go_sem]
 refine hK1 _ ⟨_,_,_,_,_,_,_,_,rfl,.more (by decide) rfl rfl (.more (by decide) rfl rfl (.more (by decide) rfl rfl (.one (by decide) rfl rfl))),by decide,rfl,by simp[go_sem];rfl,by simp[go_sem];rfl,by simp[go_sem],?_⟩;clear hK1
 refine Br ?_ ?_<;>intro h13
 ·refine Bq ?_
  exact .ret (Ep Dy (⟨10,1,0,0,0,0⟩,true) ⟨⟨by (try dsimp only);omega,(fun s hs=>by unfold Vf at hs;(repeat' split at hs)<;>first | (exfalso;omega) | (cases hs;done))⟩,by (try dsimp only);omega⟩)
 refine Bq ?_
 refine Br ?_ ?_<;>intro h20
 ·refine Bq ?_
  exact .ret (Ep Dy (⟨10,2,0,0,0,0⟩,true) ⟨⟨by (try dsimp only);omega,(fun s hs=>by unfold Vf at hs;(repeat' split at hs)<;>first | (exfalso;omega) | (cases hs;done))⟩,by (try dsimp only);omega⟩)
 refine Bq ?_
 refine Br ?_ ?_<;>intro h23
 ·refine Bq ?_
  exact .ret (Ep Dy (⟨10,3,4,1,3,0⟩,true) ⟨⟨by (try dsimp only);omega,(fun s hs=>by unfold Vf at hs;(repeat' split at hs)<;>first | (exfalso;omega) | (cases hs;done))⟩,by (try dsimp only);omega⟩)
 refine Bq ?_
 refine Br ?_ ?_<;>intro h26
 ·refine Bq ?_
  exact .ret (Ep Dy (⟨10,1,2,1,3,0⟩,true) ⟨⟨by (try dsimp only);omega,(fun s hs=>by unfold Vf at hs;(repeat' split at hs)<;>first | (exfalso;omega) | (cases hs;done))⟩,by (try dsimp only);omega⟩)
 refine Ce (by rfl) fun K1 hK1=>?_
 simp[go_sem]
 refine hK1 _ ⟨_,_,_,_,_,_,_,_,rfl,.more (by decide) rfl rfl (.one (by decide) rfl rfl),by decide,rfl,by simp[go_sem];rfl,by simp[go_sem];rfl,by simp[go_sem],?_⟩;clear hK1
 refine Br ?_ ?_<;>intro h29
 ·refine Bq ?_
  exact .ret (Ep Dy (⟨0,2,0,0,0,0⟩,true) ⟨⟨by (try dsimp only);omega,(fun s hs=>by unfold Vf at hs;(repeat' split at hs)<;>first | (exfalso;omega) | (cases hs;done) | (cases hs;rfl))⟩,by (try dsimp only);omega⟩)
 refine Bq ?_
 refine Br ?_ ?_<;>intro h34
 ·refine Bq ?_
  exact .ret (Ep Dy (⟨0,1,0,0,0,10⟩,true) ⟨⟨by (try dsimp only);omega,(fun s hs=>by unfold Vf at hs;(repeat' split at hs)<;>first | (exfalso;omega) | (cases hs;done) | (cases hs;rfl))⟩,by (try dsimp only);omega⟩)
 refine Ce (by rfl) fun K1 hK1=>?_
 simp[go_sem]
 refine hK1 _ ⟨_,_,_,_,_,_,_,_,rfl,.one (by decide) rfl rfl,by decide,rfl,by simp[go_sem];rfl,by simp[go_sem];rfl,by simp[go_sem],?_⟩;clear hK1
 refine Br ?_ ?_<;>intro h37
 ·refine Bq ?_
  exact .ret (Ep Dy (⟨0,1,0,0,0,(-1)⟩,true) ⟨⟨by (try dsimp only);omega,(fun s hs=>by unfold Vf at hs;(repeat' split at hs)<;>first | (exfalso;omega) | (cases hs;done) | (cases hs;rfl))⟩,by (try dsimp only);omega⟩)
 refine Bq ?_
 refine Br ?_ ?_<;>intro h41
 ·refine Bq ?_
  exact .ret (Ep Dy (⟨0,1,3,0,16,0⟩,true) ⟨⟨by (try dsimp only);omega,(fun s hs=>by unfold Vf at hs;(repeat' split at hs)<;>first | (exfalso;omega) | (cases hs;done) | (cases hs;rfl))⟩,by (try dsimp only);omega⟩)
 refine Bq ?_
 refine Br ?_ ?_<;>intro h44
 ·refine Bq ?_
  exact .ret (Ep Dy (⟨0,0,2,0,4,0⟩,true) ⟨⟨by (try dsimp only);omega,(fun s hs=>by unfold Vf at hs;(repeat' split at hs)<;>first | (exfalso;omega) | (cases hs;done) | (cases hs;rfl))⟩,by (try dsimp only);omega⟩)
 refine Bq ?_
 refine Br ?_ ?_<;>intro h47
 ·refine Bq ?_
  exact .ret (Ep Dy (⟨0,4,0,0,0,0⟩,true) ⟨⟨by (try dsimp only);omega,(fun s hs=>by unfold Vf at hs;(repeat' split at hs)<;>first | (exfalso;omega) | (cases hs;done) | (cases hs;rfl))⟩,by (try dsimp only);omega⟩)
 refine Bq ?_
 refine Br ?_ ?_<;>intro h50
 ·refine Bq ?_
  exact .ret (Ep Dy (⟨0,1,0,0,0,0⟩,true) ⟨⟨by (try dsimp only);omega,(fun s hs=>by unfold Vf at hs;(repeat' split at hs)<;>first | (exfalso;omega) | (cases hs;done))⟩,by (try dsimp only);omega⟩)
 refine Bp<|.R ?_
 exact .ret (Ep Dy (⟨0,0,0,0,0,0⟩,false) ⟨⟨by (try dsimp only);omega,(fun s hs=>by unfold Vf at hs;(repeat' split at hs)<;>first | (exfalso;omega) | (cases hs;done))⟩,by (try dsimp only);omega⟩)
def Dz:Gt×Bool:=(Em (Mw k)).choose
theorem Rq:PP 74 [] [.li k] [] (.tup [.agg ((Dz k).1.a false),.lit (.bool (Dz k).2)]):=(Em (Mw k)).choose_spec.1
theorem Ic:(0<=(Dz k).1.tok/\∀s,Vf k=some s->(Dz k)=(s,true))/\(Dz k).1.tok<=10/\0<=(Dz k).1.fix/\(Dz k).1.fix<=4/\0<=(Dz k).1.grp/\(Dz k).1.grp<=4/\0<=(Dz k).1.lea/\(Dz k).1.mos<=100/\(k=2->(Dz k).1.fix=3)/\(k=4->(Dz k).1.fix=2)/\(k=6->(Dz k).1.fix=3)/\((k=3\/k=5\/k=7\/k=8\/k=10\/k=11)->(Dz k).1.fix=1):=(Em (Mw k)).choose_spec.2
end
section
variable (l:List Fy) (st:Int) (hl:l.length<=1000000)
include st hl
theorem Qu:Ct 176 [.mLight l,.li st] (fun d:List Int=>.mI d) (fun d=>d.length=l.length):=by
 refine Er Tryz.func176 ?_
 refine Bq ?_
 refine Bu Dy<|.seq ?_
 refine Bq<|.block ?_
 refine Bs l.length (fun i1 (y1:(List Int))=>⟨[(1,.li st),(5,.own 0 y1.length),(11,.mLight l),(12,.li l.length),(13,.li i1)],[.row 3 1 false false (tI y1)]⟩) (fun i1 y1=>y1.length=l.length) (List.replicate l.length 0) (wk Dy [0]) (by simp) fun i1 y1 hi1 hy1=>?_
 refine Bq<|.seq ?_
 refine Br ?_ ?_<;>intro h14
 ·refine Bp<|.seq<|.block ?_
  obtain⟨e1,H1⟩:=gx l i1
  refine Bu H1 ?_
  obtain⟨e2,H2⟩:=gx y1 i1
  refine Bu (Fa H1 H2) ?_
  refine Ds 0 rfl (by simp) (fun x:Int=>[T.lit (Value.int IntKind.i64 x)]) l.length ?_ fun R hR=>?_
  ·apply Ks
   ·repeat' first | exact Mi | exact Mh | exact Mg (x:=0) rfl | apply Ko | apply Kr | apply Kq | apply Qi | apply (fun h=>Qh (x:=_) h rfl)
   first | rfl | omega
  simp[go_sem,-Prod.exists]
  refine Bu (Jb H1 H2 hR) ?_
  refine Br ?_ ?_<;>intro h25
  ·obtain⟨e3,H3⟩:=gx R i1
   refine B0 (P6 H1 H2 hR H3) ?_
   refine B0 (P6 H1 H2 hR H3) ?_
   refine⟨by omega,((R).set i1 1),?_,wk (cj6 (Dw ((i1:Int)+1)) H1 H2 hR H3 hy1) [0]⟩
   first | omega | (simp;omega)
  refine Bp<|.H1 (Jb H1 H2 hR) ?_
  refine⟨by omega,(R),?_,wk (Zd (Dw ((i1:Int)+1)) H1 H2 hR hy1) [0]⟩
  omega
 refine Bt<|.R ?_
 refine B2 Dy 0 ?_
 exact .ret (Ep Dy y1 (by omega))
def Ng:List Int:=(Em (Qu l st hl)).choose
theorem Aew:PP 176 [] [.mLight l,.li st] [] (.mI (Ng l st hl)):=(Em (Qu l st hl)).choose_spec.1
theorem Afm:(Ng l st hl).length=l.length:=(Em (Qu l st hl)).choose_spec.2
end
theorem Ajw {α β:Type} (f:α->β) (l:List α):List.take l.length (l.map f)=l.map f:=by rw[Bf (by simp)]
attribute [go_sem] Ajw
theorem Ap5 (l:List Int):∀(f:Nat) (n:Int) (i:Nat),(T4 l f n i).2.2=0->0<=(T4 l f n i).2.1/\(T4 l f n i).2.1<=l.length
 | 0,n,i,h=>by simp[T4] at h
 | f+1,n,i,h=>by
  cases hx:l[i]? with
  | none=>simp[T4,hx] at h
  | some x =>
   have hi:=(Ab.1 hx).1
   rw[Ad3 hx] at h ⊢
   split at h
   ·simp at h
   rename_i h1
   rw[if_neg h1]
   split at h
   ·rename_i h2
    rw[if_pos h2]
    exact Ap5 l f _ _ h
   rename_i h2
   rw[if_neg h2]
   split at h
   ·simp at h
   rename_i h3
   rw[if_neg h3]
   simp
   omega
variable {l:List Int}
theorem Atc (h:(Qw l).2.2=0):0<=(Qw l).2.1/\(Qw l).2.1<=l.length:=Ap5 l 6 0 0 h
theorem Ay5 (x:Int):0<=Ex .and .u8 x 127/\Ex .and .u8 x 127<=127:=by
 have h:(BitVec.ofInt 8 x &&& BitVec.ofInt 8 127).toNat<=127:=by
  rw[BitVec.toNat_and]
  exact Ak Nat.and_le_right (by decide)
 show 0<=IntKind.u8.wrap (((BitVec.ofInt 8 x &&& BitVec.ofInt 8 127).toNat:Nat):Int)/\IntKind.u8.wrap (((BitVec.ofInt 8 x &&& BitVec.ofInt 8 127).toNat:Nat):Int)<=127
 generalize (BitVec.ofInt 8 x &&& BitVec.ofInt 8 127).toNat=y at h
 have:IntKind.u8.wrap (y:Int)=y:=by
  simp[IntKind.wrap,IntKind.signed,IntKind.bits]
  omega
 rw[this]
 omega
theorem Ap4 (l:List Int):∀(f:Nat) (n:Int) (i:Nat),0<=n->n<34359738368->i<=5->0<=(T4 l f n i).1
 | 0,n,i,_,_,_=>by simp[T4]
 | f+1,n,i,h1,h2,h3=>by
  cases hx:l[i]? with
  | none=>simp[T4,hx]
  | some x =>
   rw[Ad3 hx]
   split
   ·simp
   rename_i h5
   obtain⟨ha,hb⟩:=Ay5 x
   generalize Ex .and .u8 x 127=y at ha hb
   have hz:0<=IntKind.i64.wrap (IntKind.i64.wrap y*2 ^ min (7*(i:Int)).toNat 64)/\IntKind.i64.wrap (IntKind.i64.wrap y*2 ^ min (7*(i:Int)).toNat 64)<34359738368:=by
    rw[Dw y]
    obtain rfl | rfl | rfl | rfl | rfl:i=0\/i=1\/i=2\/i=3\/i=4:=by omega
    all_goals
     first | rw[show (2:Int) ^ min (7*((0:Nat):Int)).toNat 64=1 from rfl] | rw[show (2:Int) ^ min (7*((1:Nat):Int)).toNat 64=128 from rfl] | rw[show (2:Int) ^ min (7*((2:Nat):Int)).toNat 64=16384 from rfl] | rw[show (2:Int) ^ min (7*((3:Nat):Int)).toNat 64=2097152 from rfl] | rw[show (2:Int) ^ min (7*((4:Nat):Int)).toNat 64=268435456 from rfl]
     rw[Dw _]
     omega
   generalize IntKind.i64.wrap (IntKind.i64.wrap y*2 ^ min (7*(i:Int)).toNat 64)=z at hz
   have hn:=Ao2 h1 (by omega) hz.1 (by omega)
   have hlt:n.toNat ||| z.toNat<2 ^ 35:=Nat.or_lt_two_pow (by omega) (by omega)
   rw[hn]
   split
   ·exact Ap4 l f _ _ (by omega) (by omega) (by omega)
   split
   ·simp
   simp
theorem Ayt {x:Int} (h:∀a∈l,0<=a) (hx:0<=x):∀a∈l++[x],0<=a:=fun a ha=>by
 rcases A0.1 ha with ha | ha
 ·exact h a ha
 rw[An.1 ha];exact hx
theorem Atb (l:List Int):0<=(Qw l).1:=Ap4 l 6 0 0 (by omega) (by omega) (by omega)
theorem Lh (b:List Int) (n:Int) (hb:b.length<=1000000) (hn:0<=n) (hn2:n<=1000):∃d:List Int×List Int×Bool,PP 75 [] [.mY b,.li n] [.row 3 1 false false (tI d.1)] (.tup [.own 0 d.1.length,.mY d.2.1,.lb d.2.2])/\(d.1.length<=n.toNat/\d.2.1.length<=b.length/\(d.2.2=true->d.1.length=n.toNat)/\(d.2.2=false->d.1=[])/\(∀a∈d.1,0<=a)/\∀l r,b=codes l++r->O3 l->(l.length:Int)=n->d=(l,r,true)):=by
 refine Nk (D:=List Int×List Int×Bool) (F:=fun d=>.tup [.own 0 d.1.length,.mY d.2.1,.lb d.2.2]) (S:=fun d=>[.row 3 1 false false (tI d.1)]) (Q:=fun d=>d.1.length<=n.toNat/\d.2.1.length<=b.length/\(d.2.2=true->d.1.length=n.toNat)/\(d.2.2=false->d.1=[])/\(∀a∈d.1,0<=a)/\∀l r,b=codes l++r->O3 l->(l.length:Int)=n->d=(l,r,true)) Tryz.func75 rfl rfl rfl (by simp[Tryz.ntmps75]) ?_
 refine Bq ?_
 refine Bu Dy<|.seq ?_
 refine Bq<|.block ?_
 refine Bs n.toNat (fun i1 (y1:(List Int)×(List Int))=>⟨[(0,.mY y1.2),(7,.own 0 y1.1.length),(13,.li n),(14,.li i1)],[.row 3 1 false false (tI y1.1)]⟩) (fun i1 y1=>y1.1.length=i1/\y1.2.length<=b.length/\(∀a∈y1.1,0<=a)/\∀l r,b=codes l++r->O3 l->(l.length:Int)=n->y1=(l.take i1,codes (l.drop i1)++r)) (List.replicate 0 0,b) (wk Dy [0]) (⟨rfl,Aj _,(fun a h=>by cases h),fun l r hb2 _ _=>by rw[hb2];rfl⟩) fun i1 y1 hi1 hy1=>?_
 refine Bq<|.seq ?_
 refine Br ?_ ?_<;>intro h15
 ·refine Bp<|.seq<|.block<|.L Dy (Ac8 y1.2 (by omega))<|.seq ?_
  refine Bq ?_
  refine Br ?_ ?_<;>intro h23
  ·refine Bq ?_
   refine Cf 4 3 1 (by decide) (k':=1) (by simp[go_sem]) ?_
   simp[go_sem,-Prod.exists]
   exact .ret ⟨([],[],false),rW Dy [1],(by exact⟨Ae _,Ae _,fun h=>absurd h Bool.false_ne_true,fun _=>rfl,(fun a h=>by cases h),fun l r hb2 hv2 hn3=>absurd (Aft (hy1.2.2.2 l r hb2 hv2 hn3) hv2 (by omega)).1 h23⟩)⟩
  have hv:=Atc h23
  refine Bp<|.H Dy ?_
  refine B0 Dy ?_
  refine Ci ?_
  exact⟨by omega,(y1.1++([(Qw y1.2).1]),y1.2.drop (((Qw y1.2).2.1).toNat)),⟨by simp;omega,by simp;omega,Ayt hy1.2.2.1 (Atb _),fun l r hb2 hv2 hn3=>(Aft (hy1.2.2.2 l r hb2 hv2 hn3) hv2 (by omega)).2⟩,wk (Dw ((i1:Int)+1)) [0]⟩
 refine Bt<|.R ?_
 exact .ret ⟨(y1.1,y1.2,true),rW Dy [0],(by first | exact⟨Ae _,Ae _,fun h=>absurd h Bool.false_ne_true,fun _=>rfl,(fun a h=>by cases h),fun l r hb2 hv2 hn3=>absurd (Aft (hy1.2.2.2 l r hb2 hv2 hn3) hv2 (by omega)).1 h23⟩ | (refine⟨?_,?_,fun _=>?_,fun h=>absurd h (by simp),hy1.2.2.1,fun l r hb2 hv2 hn3=>?_⟩<;>first | (have e:=hy1.2.2.2 l r hb2 hv2 hn3;rw[Bf (by omega),List.drop_eq_nil_of_le (by omega)] at e;rw[e];rfl) | (dsimp only;omega)))⟩
end
section
def Q9 (s:Gt) (n:Int):Int×Bool:=if s.grp=0 then (0,n == s.fix) else if n - s.fix<0\/¬(n - s.fix).tmod s.grp=0 then (0,false) else ((n - s.fix).tdiv s.grp,decide (s.lea<=(n - s.fix).tdiv s.grp)&&decide ((n - s.fix).tdiv s.grp<=s.mos))
theorem Azo {a g:Int} (h:0<=a/\a<=1000000) (hg:0<=g):IntKind.i64.wrap (a.tdiv g)=a.tdiv g:=by
 have h1:0<=a.tdiv g:=Int.tdiv_nonneg h.1 hg
 have h2:a.tdiv g<=a:=Int.tdiv_le_self _ h.1
 exact Dw _
def msArgs (s:Gt) (l:List Int):List Int:=if 0<s.grp then codes (l.take s.fix.toNat)++(Gj (Q9 s l.length).1).1++codes (l.drop s.fix.toNat) else codes l
def Th (s:Gt) (l:List Int) (i:Nat):List Int:=if 0<s.grp/\s.fix<i then codes (l.take s.fix.toNat)++(Gj (Q9 s l.length).1).1++codes ((l.take i).drop s.fix.toNat) else codes (l.take i)
theorem Art {s:Gt} {l:List Int} {i:Nat} {e:Int} (hi:(i:Int)=s.fix) (hg:0<s.grp) (he:l[i]? = some e):Th s l i++(Gj (Q9 s l.length).1).1++(Gj e).1=Th s l (i+1):=by
 have hn:s.fix.toNat=i:=by omega
 have hl:=(Ab.1 he).1
 unfold Th
 rw[if_neg (by omega),if_pos ⟨hg,by omega⟩,hn,List.take_add_one,he,List.drop_append_of_le_length (by simp;omega),List.drop_eq_nil_of_le (by simp;omega)]
 simp[codes]
theorem Ars {s:Gt} {l:List Int} {i:Nat} {e:Int} (h0:0<=s.fix) (hn:¬((i:Int)=s.fix/\0<s.grp)) (he:l[i]? = some e):Th s l i++(Gj e).1=Th s l (i+1):=by
 have hl:=(Ab.1 he).1
 unfold Th
 by_cases h:0<s.grp/\s.fix<(i:Int)
 ·rw[if_pos h,if_pos ⟨h.1,by omega⟩,List.take_add_one,he,List.drop_append_of_le_length (by simp;omega),Xj,List.append_assoc,List.append_assoc,List.append_assoc]
  simp[codes]
 rw[if_neg h,if_neg (by omega),Apd he]
theorem Ao3 {s:Gt} {l:List Int} (hi:(l.length:Int)=s.fix) (hg:0<s.grp):Th s l l.length++(Gj (Q9 s l.length).1).1=msArgs s l:=by
 have hn:s.fix.toNat=l.length:=by omega
 unfold Th msArgs
 rw[if_neg (by omega),if_pos hg,hn,List.take_length,List.drop_eq_nil_of_le (Aj _),Aix,List.append_nil]
theorem Aru {s:Gt} {l:List Int} (h0:0<=s.fix) (hg0:0<=s.grp) (hn:¬((l.length:Int)=s.fix/\0<s.grp)) (ho:(Q9 s l.length).2=true):Th s l l.length=msArgs s l:=by
 unfold Th msArgs
 rw[List.take_length]
 by_cases hg:0<s.grp
 ·have:s.fix<=l.length:=by
   unfold Q9 at ho
   rw[if_neg (by omega)] at ho
   split at ho
   ·cases ho
   omega
  rw[if_pos ⟨hg,by omega⟩,if_pos hg]
 rw[if_neg (by omega),if_neg hg]
variable {l:List Int}
theorem Aep {i:Nat} {e:Int} (h:O3 (l.take i)) (he:l[i]? = some e) (h0:(Gj e).2=0):O3 (l.take (i+1)):=fun a ha=>by
 rw[List.take_add_one,he] at ha
 rcases A0.1 ha with ha | ha
 ·exact h a ha
 rw[An.1 ha];exact h0
structure Np (m:D0):Prop where
  kind:(Dz m.kind).2=true
  tok:(m.tok.length:Int)=(Dz m.kind).1.tok
  dat:(Dz m.kind).1.dat = -1\/(m.data.length:Int)=(Dz m.kind).1.dat
  grp:(Q9 (Dz m.kind).1 m.args.length).2=true
  dl:m.data.length<=200
  args:O3 m.args
  len:(m.tok++msArgs (Dz m.kind).1 m.args++m.data).length<=200
def Kl (m:D0):List Int×Int:=by
 classical
 exact if Np m then (m.tok++msArgs (Dz m.kind).1 m.args++m.data,0) else ([],6)
variable {m:D0}
theorem Am1 (h:¬Np m):([],6)=Kl m:=(if_neg h).symm
theorem Afu {m:D0} (h:Np m) {y:List Int} (hy:y=m.tok++msArgs (Dz m.kind).1 m.args):(y++m.data,0)=Kl m:=by rw[hy];exact (if_pos h).symm
structure Azg (S:Gt×Bool) (b:List Int) (m:D0):Prop where
  k:S.2=true
  bl:b.length<=200
  tl:S.1.tok<=b.length
  tk:b.take S.1.tok.toNat=m.tok
  dat:S.1.dat = -1\/(m.data.length:Int)=S.1.dat
  al:O3 m.args
  g0:S.1.grp=0->b.drop S.1.tok.toNat=codes m.args++m.data/\(m.args.length:Int)=S.1.fix
  g1:0<S.1.grp->∃g:Int,b.drop S.1.tok.toNat=codes (m.args.take S.1.fix.toNat)++(codes [g]++(codes (m.args.drop S.1.fix.toNat)++m.data))/\((m.args.take S.1.fix.toNat).length:Int)=S.1.fix/\O3 [g]/\S.1.lea<=g/\g<=S.1.mos/\((m.args.drop S.1.fix.toNat).length:Int)=g*S.1.grp
variable {b:List Int}
theorem A21 {k:Int} (hk:m.kind=k) (ho:Np m) (hb:b=m.tok++msArgs (Dz k).1 m.args++m.data):Azg (Dz k) b m:=by
 subst hk
 have hq:=Ic m.kind
 obtain⟨h1,h2,h3,h4,h5,h6,h7⟩:=ho
 generalize Dz m.kind=S at *
 have htn:S.1.tok.toNat=m.tok.length:=by omega
 rw[List.append_assoc] at hb
 have hdr:b.drop S.1.tok.toNat=msArgs S.1 m.args++m.data:=by rw[hb,htn,List.drop_left]
 refine⟨h1,by rw[hb,<- List.append_assoc];exact h7,by rw[hb];simp;omega,by rw[hb,htn,List.take_left],h3,h6,fun hg=>?_,fun hg=>?_⟩
 ·refine⟨by rw[hdr,msArgs,if_neg (by omega)],?_⟩
  unfold Q9 at h4
  rw[if_pos hg] at h4
  simpa using h4
 have hm:msArgs S.1 m.args=codes (m.args.take S.1.fix.toNat)++(Gj (Q9 S.1 m.args.length).1).1++codes (m.args.drop S.1.fix.toNat):=by rw[msArgs,if_pos hg]
 rw[hm] at hdr
 unfold Q9 at h4 hdr
 rw[if_neg (by omega)] at h4 hdr
 split at h4
 ·cases h4
 rename_i hn
 rw[if_neg hn] at hdr
 have h4:S.1.lea<=((m.args.length:Int) - S.1.fix).tdiv S.1.grp/\((m.args.length:Int) - S.1.fix).tdiv S.1.grp<=S.1.mos:=by simpa using h4
 have hmod:((m.args.length:Int) - S.1.fix).tmod S.1.grp=0:=by
  by_cases hz:((m.args.length:Int) - S.1.fix).tmod S.1.grp=0
  ·exact hz
  exact absurd (.inr hz) hn
 have h0:0<=(m.args.length:Int) - S.1.fix:=by omega
 have hdv:=Int.mul_tdiv_add_tmod ((m.args.length:Int) - S.1.fix) S.1.grp
 rw[hmod,Int.add_zero] at hdv
 have hnn:0<=((m.args.length:Int) - S.1.fix).tdiv S.1.grp:=Int.tdiv_nonneg h0 (by omega)
 generalize ((m.args.length:Int) - S.1.fix).tdiv S.1.grp=g at *
 refine⟨g,by rw[hdr,Aby];simp,by rw[A5];omega,fun a ha=>?_,h4.1,h4.2,?_⟩
 ·rw[An.1 ha];unfold Gj;rw[if_neg (by omega)]
 rw[Bc,Int.mul_comm g,hdv];omega
theorem Ym (h:O3 l) (n:Nat):O3 (l.take n):=fun a ha=>h a (Aq ha)
theorem Qx (h:O3 l) (n:Nat):O3 (l.drop n):=fun a ha=>h a (Ay ha)
theorem Ql {S:Gt×Bool} {N1 N2:List Int×List Int×Bool} (hP:Azg S b m) (hg:0<S.1.grp) (h1:∀l r,b.drop S.1.tok.toNat=codes l++r->O3 l->(l.length:Int)=S.1.fix->N1=(l,r,true)) (h2:∀l r,N1.2.1=codes l++r->O3 l->(l.length:Int)=1->N2=(l,r,true)):∃g,N1.1=m.args.take S.1.fix.toNat/\N2=([g],codes (m.args.drop S.1.fix.toNat)++m.data,true)/\S.1.lea<=g/\g<=S.1.mos/\((m.args.drop S.1.fix.toNat).length:Int)=g*S.1.grp:=by
 obtain⟨g,p1,p2,p3,p4,p5,p6⟩:=hP.g1 hg
 have n1:=h1 _ _ p1 (Ym hP.al _) p2
 subst n1
 exact⟨g,rfl,h2 [g] _ rfl p3 rfl,p4,p5,p6⟩
end
theorem A05 {a b:Int} (h1:0<=a) (h2:a<=100) (h3:0<=b) (h4:b<=4):0<=a*b/\a*b<=400:=⟨Int.mul_nonneg h1 h3,by
 have:=Int.mul_le_mul h2 h4 h3 (by omega:(0:Int)<=100)
 omega⟩
section
variable (k:Int) (b:List Int) (hb:b.length<=1000000)
include k hb
theorem N9:Ct 50 [.li k,.mY b] (fun d:D0×Int=>.tup [d.1.g,.li d.2]) (fun d=>(d.2=0->d.1.kind=k/\(Dz k).1.fix<=d.1.args.length/\d.1.args.length<=1000/\d.1.tok.length<=b.length/\d.1.data.length<=b.length/\∀a∈d.1.args,0<=a)/\∀m,m.kind=k->Np m->b=m.tok++(msArgs (Dz k).1 m.args++m.data)->d=(m,0)):=by
 refine Er Tryz.func50 ?_
 have hv:=Rq k
 have hq0:=Ic k
 have hdp:∀m,m.kind=k->Np m->b=m.tok++(msArgs (Dz k).1 m.args++m.data)->Azg (Dz k) b m:=fun m h1 h2 h3=>A21 h1 h2 (by rw[h3,List.append_assoc])
 generalize Dz k=S at hv hq0 hdp ⊢
 refine Bq ?_
 refine B8 Dy (hv)<|.seq ?_
 refine Bq ?_
 refine Br ?_ ?_<;>intro h19
 ·refine Bq ?_
  exact .ret (Ep Dy (⟨0,[],[],[]⟩,5) ⟨fun h=>absurd h (by decide),fun m hk ho hb=>absurd (hdp m hk ho hb).k (by rw[h19];decide)⟩)
 refine Bp<|.seq<|.R ?_
 refine Br ?_ ?_<;>intro h30
 ·refine Bq ?_
  exact .ret (Ep Dy (⟨0,[],[],[]⟩,6) ⟨fun h=>absurd h (by decide),fun m hk ho hb=>(by have hP:=hdp m hk ho hb;have:=hP.bl;have:=hP.tl;omega)⟩)
 refine Bp<|.G Dy ?_
 obtain⟨N1,hN1,hq1⟩:=Lh (b.drop S.1.tok.toNat) (S.1.fix) (by first | omega | (simp;omega)) (by omega) (by omega)
 simp only[Bc] at hq1
 refine B3 (fun K kk=>by simp[go_sem];refine .lo (hN1) (by simp[go_sem]) (by simp[AV.cln,Fb]) ?_;simp[go_sem];exact kk)<|.seq ?_
 refine Bq ?_
 refine Br ?_ ?_<;>intro h53
 ·refine Bq ?_
  obtain⟨N2,hN2,hq2⟩:=Lh N1.2.1 1 (by omega) (by omega) (by omega)
  refine B3 (fun K kk=>by simp[go_sem];refine .lo (hN2) (by simp[go_sem]) (by simp[AV.cln,Fb]) ?_;simp[go_sem];exact kk)<|.seq ?_
  by_cases hc11:N2.2.2=true
  ·have hln:N2.1.length=1:=hq2.2.2.1 hc11
   obtain⟨e1,H1⟩:=gx N2.1 0
   refine C9 (Fa hc11 H1) ?_
   refine Br ?_ ?_<;>intro h77
   ·refine Bu (Fa hc11 H1) ?_
    exact .ret (Ep (Fa hc11 H1) (⟨0,[],[],[]⟩,6) ⟨fun h=>absurd h (by decide),fun m hk ho hb=>(by obtain⟨g,c1,c2,c3,c4,c5⟩:=Ql (hdp m hk ho hb) h53.2 hq1.2.2.2.2.2 hq2.2.2.2.2.2;(rw[c2] at H1;injection H1 with H1;omega))⟩)
   refine Bp ?_
   have hm:=A05 (a:=e1) (b:=S.1.grp) (by omega) (by omega) (by omega) (by omega)
   obtain⟨N3,hN3,hq3⟩:=Lh N2.2.1 (e1*S.1.grp) (by omega) (by omega) (by omega)
   have hw2:=Dw (e1*S.1.grp:Int)
   refine Cw (fun K kk=>by simp[go_sem,hc11,H1,hw2];(repeat refine aK ?_);refine .lo (hN3) (by simp[go_sem]) (by simp[AV.cln,Fb]) ?_;simp[go_sem,hc11,H1,hw2];exact kk) ?_
   refine B0 (Jb hc11 H1 hw2)<|.seq ?_
   refine B3 (fun K kk=>by simp +contextual[go_sem,hc11,H1,hw2];exact kk) ?_
   refine Br ?_ ?_<;>intro h107
   ·refine Bu (Jb hc11 H1 hw2) ?_
    exact .ret (Ep (Jb hc11 H1 hw2) (⟨0,[],[],[]⟩,6) ⟨fun h=>absurd h (by decide),fun m hk ho hb=>(by have hP:=hdp m hk ho hb;(obtain⟨g,c1,c2,c3,c4,c5⟩:=Ql (hdp m hk ho hb) h53.2 hq1.2.2.2.2.2 hq2.2.2.2.2.2;rw[c2] at H1;injection H1 with H1;have n3:=hq3.2.2.2.2.2 _ _ (by rw[c2]) (Qx hP.al _) (by rw[<- H1];exact c5);have hd:=hP.dat;rw[n3] at h107;simp at h107;omega))⟩)
   refine Bp<|.S (fun K kk=>by simp[go_sem,hc11,H1,hw2];refine .lo cB rfl (by simp[AV.cln,Fb]) ?_;simp[go_sem,hc11,H1,hw2];refine .lo cB rfl (by simp[AV.cln,Fb]) ?_;simp[go_sem,hc11,H1,hw2];exact kk) ?_
   refine B2 Dy 2 ?_
   exact .ret (Ep (Jb hc11 H1 hw2) (⟨k,b.take S.1.tok.toNat,N1.1++N3.1,N3.2.1⟩,0) (by (have hA:=hq1.2.2.1 h53.1;exact⟨fun _=>⟨rfl,by simp;omega,by simp;omega,by simp;omega,by dsimp only;omega,fun a ha=>(A0.1 ha).elim (hq1.2.2.2.2.1 a) (hq3.2.2.2.2.1 a)⟩,fun m hk ho hb=>(by have hP:=hdp m hk ho hb;obtain⟨g,c1,c2,c3,c4,c5⟩:=Ql (hdp m hk ho hb) h53.2 hq1.2.2.2.2.2 hq2.2.2.2.2.2;rw[c2] at H1;injection H1 with H1;have n3:=hq3.2.2.2.2.2 _ _ (by rw[c2]) (Qx hP.al _) (by rw[<- H1];exact c5);rw[n3,c1,hP.tk,<- hk];show ((⟨m.kind,m.tok,m.args.take _++m.args.drop _,m.data⟩:D0),(0:Int))=(m,0);rw[List.take_append_drop])⟩)))
  have hz:N2.1[0]? = none:=by rw[hq2.2.2.2.1 (by simpa using hc11)];rfl
  refine C9 (Fa hc11 hz) ?_
  refine Cl ?_ ?_<;>intro h77<;>simp[go_sem] at h77
  refine Bu (Fa hc11 hz) ?_
  exact .ret (Ep (Fa hc11 hz) (⟨0,[],[],[]⟩,6) ⟨fun h=>absurd h (by decide),fun m hk ho hb=>(by obtain⟨g,c1,c2,c3,c4,c5⟩:=Ql (hdp m hk ho hb) h53.2 hq1.2.2.2.2.2 hq2.2.2.2.2.2;first | (rw[c2] at H1;injection H1 with H1;omega) | exact absurd (congrArg (fun x=>x.2.2) c2) hc11)⟩)
 refine Bp<|.seq<|.S (fun K kk=>by simp +contextual[go_sem];exact kk) ?_
 refine Br ?_ ?_<;>intro h107
 ·refine Bq ?_
  exact .ret (Ep Dy (⟨0,[],[],[]⟩,6) ⟨fun h=>absurd h (by decide),fun m hk ho hb=>(by have hP:=hdp m hk ho hb;first | (obtain⟨g,c1,c2,c3,c4,c5⟩:=Ql (hdp m hk ho hb) h53.2 hq1.2.2.2.2.2 hq2.2.2.2.2.2;rw[c2] at H1;injection H1 with H1;have n3:=hq3.2.2.2.2.2 _ _ (by rw[c2]) (Qx hP.al _) (by rw[<- H1];exact c5);have hd:=hP.dat;rw[n3] at h107;simp at h107;omega) | (by_cases hg:0<S.1.grp;(obtain⟨g,p1,p2,p3,p4,p5,p6⟩:=hP.g1 hg;have n1:=hq1.2.2.2.2.2 _ _ p1 (Ym hP.al _) p2;rw[n1] at h53;simp at h53;omega);(obtain⟨p1,p2⟩:=hP.g0 (by omega);have n1:=hq1.2.2.2.2.2 _ _ p1 hP.al p2;have hd:=hP.dat;rw[n1] at h107;simp at h107;omega)))⟩)
 refine Bp<|.S (fun K kk=>by simp[go_sem];refine .lo cB rfl (by simp[AV.cln,Fb]) ?_;simp[go_sem];refine .lo cB rfl (by simp[AV.cln,Fb]) ?_;simp[go_sem];exact kk) ?_
 refine B2 Dy 2 ?_
 exact .ret (Ep Dy (⟨k,b.take S.1.tok.toNat,N1.1,N1.2.1⟩,0) (by first | (have hA:=hq1.2.2.1 h53.1;exact⟨fun _=>⟨rfl,by simp;omega,by simp;omega,by simp;omega,by dsimp only;omega,fun a ha=>(A0.1 ha).elim (hq1.2.2.2.2.1 a) (hq3.2.2.2.2.1 a)⟩,fun m hk ho hb=>(by have hP:=hdp m hk ho hb;obtain⟨g,c1,c2,c3,c4,c5⟩:=Ql (hdp m hk ho hb) h53.2 hq1.2.2.2.2.2 hq2.2.2.2.2.2;rw[c2] at H1;injection H1 with H1;have n3:=hq3.2.2.2.2.2 _ _ (by rw[c2]) (Qx hP.al _) (by rw[<- H1];exact c5);rw[n3,c1,hP.tk,<- hk];show ((⟨m.kind,m.tok,m.args.take _++m.args.drop _,m.data⟩:D0),(0:Int))=(m,0);rw[List.take_append_drop])⟩) | (have hA:=hq1.2.2.1 h107.1;exact⟨fun _=>⟨rfl,by dsimp only;omega,by dsimp only;omega,by simp;omega,by dsimp only;omega,hq1.2.2.2.2.1⟩,fun m hk ho hb=>(by have hP:=hdp m hk ho hb;obtain⟨p1,p2⟩:=hP.g0 (by have:=h53 h107.1;omega);have n1:=hq1.2.2.2.2.2 _ _ p1 hP.al p2;rw[n1,hP.tk,<- hk])⟩)))
def E6:D0×Int:=(Em (N9 k b hb)).choose
theorem S6:PP 50 [] [.li k,.mY b] [] (.tup [.agg ((E6 k b hb).1.a false),.lit (.int .i64 (E6 k b hb).2)]):=(Em (N9 k b hb)).choose_spec.1
theorem Td:((E6 k b hb).2=0->(E6 k b hb).1.kind=k/\(Dz k).1.fix<=(E6 k b hb).1.args.length/\(E6 k b hb).1.args.length<=1000/\(E6 k b hb).1.tok.length<=b.length/\(E6 k b hb).1.data.length<=b.length/\∀a∈(E6 k b hb).1.args,0<=a)/\∀m,m.kind=k->Np m->b=m.tok++(msArgs (Dz k).1 m.args++m.data)->(E6 k b hb)=(m,0):=(Em (N9 k b hb)).choose_spec.2
end
section
variable (s:Gt) (n:Int) (hn:0<=n/\n<=1000000) (hf:0<=s.fix/\s.fix<=4) (hg:0<=s.grp/\s.grp<=4)
include hn hf hg
theorem Tx:Ct 159 [s.g,.li n] (fun d:Int×Bool=>.tup [.li d.1,.lb d.2]) (fun d=>d=Q9 s n):=by
 refine Er Tryz.func159 ?_
 refine Bq<|.seq ?_
 refine Bq ?_
 refine Br ?_ ?_<;>intro h10
 ·refine VX.D ?_
  exact .ret (Ep Dy (0,((n:Int) == s.fix)) (by show _=Q9 s n;rw[Q9,if_pos h10]))
 refine Bp ?_
 have hw1:=Dw (n - s.fix:Int)
 refine Bu hw1<|.seq ?_
 refine Bu hw1 ?_
 refine Br ?_ ?_<;>intro h27
 ·refine Bu hw1 ?_
  exact .ret (Ep hw1 (0,false) (by show _=Q9 s n;rw[Q9,if_neg h10,if_pos h27]))
 refine Bp<|.H hw1 ?_
 refine C9 hw1 ?_
 exact .ret (Ep hw1 (IntKind.i64.wrap (Int.tdiv (n - s.fix) s.grp),(decide ((s.lea:Int)<=(IntKind.i64.wrap (Int.tdiv (n - s.fix) s.grp)))&&decide (((IntKind.i64.wrap (Int.tdiv (n - s.fix) s.grp)):Int)<=s.mos))) (by show _=Q9 s n;rw[Q9,if_neg h10,if_neg (by omega),Azo (by omega) hg.1]))
def Uf:Int×Bool:=(Em (Tx s n hn hf hg)).choose
theorem Ajl:PP 159 [] [s.g,.li n] [] (.tup [.lit (.int .i64 (Uf s n hn hf hg).1),.lit (.bool (Uf s n hn hf hg).2)]):=(Em (Tx s n hn hf hg)).choose_spec.1
theorem Aj8:(Uf s n hn hf hg)=Q9 s n:=(Em (Tx s n hn hf hg)).choose_spec.2
theorem Aha:PP 159 [] [s.g,.li n] [] (.tup [.lit (.int .i64 (Q9 s n).1),.lit (.bool (Q9 s n).2)]):=by
 have h:=Ajl s n hn hf hg
 rwa[Aj8] at h
end
section
variable (m:D0) (h1:m.tok.length<=10000) (h2:m.args.length<=10000) (h3:m.data.length<=10000)
include h1 h2 h3
theorem N8:Ct 136 [m.g] (fun d:List Int×Int=>.tup [.mY d.1,.li d.2]) (fun d=>d=Kl m):=by
 refine Er Tryz.func136 ?_
 have hv:=Rq m.kind
 have hq0:=Ic m.kind
 have hgv:=Aha (Dz m.kind).1 m.args.length (by omega) (by omega) (by omega)
 have hno:=Am1 (m:=m)
 have hye:=@Afu m
 have hok:=@Np.mk m
 have hko:=@Np.kind m
 have hto:=@Np.tok m
 have hdo:=@Np.dat m
 have hgo:=@Np.grp m
 have hlo:=@Np.dl m
 have hao:=@Np.args m
 have hzo:=@Np.len m
 have hp1:=@Art (Dz m.kind).1 m.args
 have hp2:=@Ars (Dz m.kind).1 m.args
 have hp3:=@Ao3 (Dz m.kind).1 m.args
 have hp4:=@Aru (Dz m.kind).1 m.args
 have hp0:Th (Dz m.kind).1 m.args 0=[]:=by unfold Th;rw[if_neg (by omega)];rfl
 generalize (Dz m.kind)=S at hv hq0 hgv hye hok hko hto hdo hgo hlo hao hzo hp1 hp2 hp3 hp4 hp0
 generalize hGr:Q9 S.1 m.args.length=Gr at hgv hok hgo hp1 hp3 hp4
 refine B3 (fun K kk=>by simp[go_sem,Af];exact kk) ?_
 refine B3 (fun K kk=>by simp[go_sem,Af];refine .l (hv) ?_;simp[go_sem,Af];exact kk)<|.seq ?_
 refine B3 (fun K kk=>by simp +contextual[go_sem,Af];exact kk) ?_
 refine Br ?_ ?_<;>intro h41
 ·refine B3 (fun K kk=>by simp[go_sem,Af];exact kk) ?_
  refine Bz (Fk ?_);simp[go_sem,Af]
  exact⟨([],6),by rfl,(hno fun h=>by rcases h41 with (h4 | h4) | h4;(rw[hko h] at h4;cases h4);exact h4 (hto h);(rcases hdo h with h5 | h5;exact h4.1 h5;exact h4.2 h5))⟩
 refine Bp<|.S (fun K kk=>by simp[go_sem,Af];refine .l (hgv) ?_;simp[go_sem,Af];exact kk)<|.seq ?_
 refine B3 (fun K kk=>by simp +contextual[go_sem,Af];exact kk) ?_
 refine Br ?_ ?_<;>intro h57
 ·refine B3 (fun K kk=>by simp[go_sem,Af];exact kk) ?_
  refine Bz (Fk ?_);simp[go_sem,Af]
  exact⟨([],6),by rfl,(hno fun h=>by rcases h57 with h4 | h4;(rw[hgo h] at h4;cases h4);(have:=hlo h;omega))⟩
 refine Bp<|.S (fun K kk=>by simp[go_sem,Af];refine .lo (Gf _ (by first | (simp;done) | (simp;omega)) (by (simp[T.plain];done))) rfl (by simp[AV.cln,Fb]) ?_;simp[go_sem,Af];exact kk)<|.seq ?_
 have hw1:=Dw (m.args.length+1:Int)
 refine B3 (fun K kk=>by simp[go_sem,Af,hw1];exact kk)<|.block ?_
 refine Bs (m.args.length+1) (fun i1 (y1:(List Int))=>⟨[(1,.ptr 0 0),(4,.ptr 1 0),(6,.li Gr.1),(7,.own 2 y1.length),(64,.li (m.args.length+1)),(65,.li i1)],[.box 56 (m.a false),.box 171 [.li S.1.tok,.li S.1.fix,.li S.1.grp,.li S.1.lea,.li S.1.mos,.li S.1.dat],.row 5 1 false false (tY y1)]⟩) (fun i1 y1=>(y1.length<=m.tok.length+12*i1/\i1<=m.args.length)/\y1=m.tok++Th S.1 m.args i1/\O3 (m.args.take i1)) (m.tok) (wk hw1 [0,1,2]) (⟨by simp,by simp[hp0],fun a h=>by cases h⟩) fun i1 y1 hi1 hy1=>?_
 refine B3 (fun K kk=>by simp[go_sem,Af,hw1];exact kk)<|.seq ?_
 refine Br ?_ ?_<;>intro h66
 ·refine Bp<|.seq<|.block<|.S (fun K kk=>by simp[go_sem,Af,hw1];exact kk)<|.seq ?_
  refine B3 (fun K kk=>by simp[go_sem,Af,hw1];exact kk) ?_
  refine Br ?_ ?_<;>intro h76
  ·refine B3 (fun K kk=>by simp[go_sem,Af,hw1];refine .l (Po Gr.1) ?_;simp[go_sem,Af,hw1];exact kk) ?_
   refine C4 (by rfl) fun K1 hK1=>?_
   simp[go_sem,Af,hw1]
   repeat' with_reducible refine Ax ?_ ?_
   all_goals try (intros;(repeat' refine Ax ?_ ?_)<;>omega)
   all_goals try ((have q0:=Eh Gr.1);(try have q1:=Eh e1);(try have q2:=Eh e2);(try have q3:=Eh e3);(try have q4:=Eh e4);(try have q5:=Eh e5);(try have q6:=Eh e6);(try have q7:=Eh e7);(try have q8:=Eh e8);omega)
   refine hK1 _ ?_;clear hK1
   refine Ca<|.S (fun K kk=>by simp[go_sem,Af,hw1];exact kk) ?_
   refine Br ?_ ?_<;>intro h89
   ·refine Bt ?_
    refine B4 (by rfl) fun K1 hK1=>?_
    simp[go_sem,Af,hw1]
    repeat' with_reducible refine Ax ?_ ?_
    all_goals try (intros;(repeat' refine Ax ?_ ?_)<;>omega)
    all_goals try ((have q0:=Eh Gr.1);(try have q1:=Eh e1);(try have q2:=Eh e2);(try have q3:=Eh e3);(try have q4:=Eh e4);(try have q5:=Eh e5);(try have q6:=Eh e6);(try have q7:=Eh e7);(try have q8:=Eh e8);omega)
    refine hK1 _ ?_;clear hK1
    refine Ca<|.S (fun K kk=>by simp[go_sem,Af,hw1];exact kk) ?_
    refine Br ?_ ?_<;>intro h111
    ·refine B3 (fun K kk=>by simp[go_sem,Af,hw1];exact kk) ?_
     refine Bz (Fk ?_);simp[go_sem,Af,hw1]
     exact⟨([],6),by rfl,(by have hi:i1=m.args.length:=(by omega);have hy2:=hy1.2.1;have hv2:=hy1.2.2;rw[hi] at hy2 hv2;rw[List.take_length] at hv2;(have hA:=hp3 (by omega) h76.2;have hB:y1++(Gj Gr.1).1=m.tok++msArgs S.1 m.args:=(by rw[hy2,List.append_assoc,hA]);first | exact hye (hok h41.1.1 h41.1.2 (by omega) h57.1 (by omega) hv2 (by rw[<- hB];simp;omega)) hB | exact hno fun h=>(by have h9:=hzo h;rw[<- hB] at h9;simp at h9;omega)))⟩
    refine Bp<|.S (fun K kk=>by simp[go_sem,Af,hw1];exact kk) ?_
    refine B2 Dy 2 ?_
    refine Bz (Fk ?_);simp[go_sem,Af,hw1]
    exact⟨((y1++((Gj Gr.1).1))++m.data,0),by first | rfl | simp[go_sem],(by have hi:i1=m.args.length:=(by omega);have hy2:=hy1.2.1;have hv2:=hy1.2.2;rw[hi] at hy2 hv2;rw[List.take_length] at hv2;(have hA:=hp3 (by omega) h76.2;have hB:y1++(Gj Gr.1).1=m.tok++msArgs S.1 m.args:=(by rw[hy2,List.append_assoc,hA]);exact hye (hok h41.1.1 h41.1.2 (by omega) h57.1 (by omega) hv2 (by rw[<- hB];simp;omega)) hB))⟩
   refine Bp ?_
   obtain⟨e2,H2⟩:=gx m.args i1
   refine B3 (fun K kk=>by simp[go_sem,Af,hw1,H2];(repeat refine aK ?_);refine .l (Po e2) ?_;simp[go_sem,Af,hw1,H2];exact kk)<|.seq ?_
   refine B3 (fun K kk=>by simp[go_sem,Af,hw1,H2];exact kk) ?_
   refine Br ?_ ?_<;>intro h100
   ·refine B3 (fun K kk=>by simp[go_sem,Af,hw1,H2];exact kk) ?_
    refine Bz (Fk ?_);simp[go_sem,Af,hw1,H2]
    exact⟨([],6),by rfl,(hno fun h=>h100 (hao h _ (Ac (by assumption))))⟩
   refine Bp ?_
   refine C4 (by rfl) fun K1 hK1=>?_
   simp[go_sem,Af,hw1,H2]
   repeat' with_reducible refine Ax ?_ ?_
   all_goals try (intros;(repeat' refine Ax ?_ ?_)<;>omega)
   all_goals try ((have q0:=Eh Gr.1);(try have q1:=Eh e1);(try have q2:=Eh e2);(try have q3:=Eh e3);(try have q4:=Eh e4);(try have q5:=Eh e5);(try have q6:=Eh e6);(try have q7:=Eh e7);(try have q8:=Eh e8);omega)
   refine hK1 _ ?_;clear hK1
   refine Cg (fun K kk=>by simp[go_sem,Af,hw1,H2];exact kk) ?_
   exact⟨by omega,((y1++((Gj Gr.1).1))++((Gj e2).1)),⟨⟨by first | omega | (simp only[Bo];(have q0:=Eh Gr.1);(have q2:=Eh e2);omega),by omega⟩,by rw[<- hp1 h76.1 h76.2 H2,hy1.2.1];simp only[List.append_assoc],Aep hy1.2.2 H2 h100⟩,wk (Jb (Dw ((i1:Int)+1)) hw1 H2) [0,1,2]⟩
  refine Bp<|.seq<|.S (fun K kk=>by simp[go_sem,Af,hw1];exact kk) ?_
  refine Br ?_ ?_<;>intro h89
  ·refine Bt ?_
   refine B4 (by rfl) fun K1 hK1=>?_
   simp[go_sem,Af,hw1]
   repeat' with_reducible refine Ax ?_ ?_
   all_goals try (intros;(repeat' refine Ax ?_ ?_)<;>omega)
   all_goals try ((have q0:=Eh Gr.1);(try have q1:=Eh e1);(try have q2:=Eh e2);(try have q3:=Eh e3);(try have q4:=Eh e4);(try have q5:=Eh e5);(try have q6:=Eh e6);(try have q7:=Eh e7);(try have q8:=Eh e8);omega)
   refine hK1 _ ?_;clear hK1
   refine Ca<|.S (fun K kk=>by simp[go_sem,Af,hw1];exact kk) ?_
   refine Br ?_ ?_<;>intro h111
   ·refine B3 (fun K kk=>by simp[go_sem,Af,hw1];exact kk) ?_
    refine Bz (Fk ?_);simp[go_sem,Af,hw1]
    exact⟨([],6),by rfl,(by have hi:i1=m.args.length:=(by omega);have hy2:=hy1.2.1;have hv2:=hy1.2.2;rw[hi] at hy2 hv2;rw[List.take_length] at hv2;first | (have hA:=hp3 (by omega) h76.2;have hB:y1++(Gj Gr.1).1=m.tok++msArgs S.1 m.args:=(by rw[hy2,List.append_assoc,hA]);first | exact hye (hok h41.1.1 h41.1.2 (by omega) h57.1 (by omega) hv2 (by rw[<- hB];simp;omega)) hB | exact hno fun h=>(by have h9:=hzo h;rw[<- hB] at h9;simp at h9;omega)) | (have hA:=hp4 (by omega) (by omega) (by omega) h57.1;have hB:y1=m.tok++msArgs S.1 m.args:=(by rw[hy2,hA]);first | exact hye (hok h41.1.1 h41.1.2 (by omega) h57.1 (by omega) hv2 (by rw[<- hB];simp;omega)) hB | exact hno fun h=>(by have h9:=hzo h;rw[<- hB] at h9;simp at h9;omega)))⟩
   refine Bp<|.S (fun K kk=>by simp[go_sem,Af,hw1];exact kk) ?_
   refine B2 Dy 2 ?_
   refine Bz (Fk ?_);simp[go_sem,Af,hw1]
   exact⟨(y1++m.data,0),by first | rfl | simp[go_sem],(by have hi:i1=m.args.length:=(by omega);have hy2:=hy1.2.1;have hv2:=hy1.2.2;rw[hi] at hy2 hv2;rw[List.take_length] at hv2;first | (have hA:=hp3 (by omega) h76.2;have hB:y1++(Gj Gr.1).1=m.tok++msArgs S.1 m.args:=(by rw[hy2,List.append_assoc,hA]);first | exact hye (hok h41.1.1 h41.1.2 (by omega) h57.1 (by omega) hv2 (by rw[<- hB];simp;omega)) hB | exact hno fun h=>(by have h9:=hzo h;rw[<- hB] at h9;simp at h9;omega)) | (have hA:=hp4 (by omega) (by omega) (by omega) h57.1;have hB:y1=m.tok++msArgs S.1 m.args:=(by rw[hy2,hA]);exact hye (hok h41.1.1 h41.1.2 (by omega) h57.1 (by omega) hv2 (by rw[<- hB];simp;omega)) hB))⟩
  refine Bp ?_
  obtain⟨e3,H3⟩:=gx m.args i1
  refine B3 (fun K kk=>by simp[go_sem,Af,hw1,H3];(repeat refine aK ?_);refine .l (Po e3) ?_;simp[go_sem,Af,hw1,H3];exact kk)<|.seq ?_
  refine B3 (fun K kk=>by simp[go_sem,Af,hw1,H3];exact kk) ?_
  refine Br ?_ ?_<;>intro h100
  ·refine B3 (fun K kk=>by simp[go_sem,Af,hw1,H3];exact kk) ?_
   refine Bz (Fk ?_);simp[go_sem,Af,hw1,H3]
   exact⟨([],6),by rfl,(hno fun h=>h100 (hao h _ (Ac (by assumption))))⟩
  refine Bp ?_
  refine C4 (by rfl) fun K1 hK1=>?_
  simp[go_sem,Af,hw1,H3]
  repeat' with_reducible refine Ax ?_ ?_
  all_goals try (intros;(repeat' refine Ax ?_ ?_)<;>omega)
  all_goals try ((have q0:=Eh Gr.1);(try have q1:=Eh e1);(try have q2:=Eh e2);(try have q3:=Eh e3);(try have q4:=Eh e4);(try have q5:=Eh e5);(try have q6:=Eh e6);(try have q7:=Eh e7);(try have q8:=Eh e8);omega)
  refine hK1 _ ?_;clear hK1
  refine Cg (fun K kk=>by simp[go_sem,Af,hw1,H3];exact kk) ?_
  exact⟨by omega,(y1++((Gj e3).1)),⟨⟨by first | omega | (simp only[Bo];(have q0:=Eh e3);omega),by omega⟩,by rw[<- hp2 (by omega) (by omega) H3,hy1.2.1];simp only[List.append_assoc],Aep hy1.2.2 H3 h100⟩,wk (Jb (Dw ((i1:Int)+1)) hw1 H3) [0,1,2]⟩
 exfalso;omega
def Eu:List Int×Int:=(Em (N8 m h1 h2 h3)).choose
theorem S5:PP 136 [] [m.g] [] (.tup [.imm false 1 (tY (Eu m h1 h2 h3).1),.lit (.int .i64 (Eu m h1 h2 h3).2)]):=(Em (N8 m h1 h2 h3)).choose_spec.1
theorem La:(Eu m h1 h2 h3)=Kl m:=(Em (N8 m h1 h2 h3)).choose_spec.2
end
def P17 (m:D0) (n:Int):Prop:=m.kind=17/\m.tok=[]/\m.args=[n]/\(Gj n).2=0/\m.data.length<=100
theorem Auo {m:D0} {n:Int} (h:P17 m n):Kl m=((Gj n).1++m.data,0):=by
 obtain⟨h1,h2,h3,h4,h5⟩:=h
 have hs:=(Ic m.kind).1.2 _ (by rw[h1];rfl)
 have ha:msArgs (Dz m.kind).1 m.args=(Gj n).1:=by rw[hs,h3];show (if (0:Int)<0 then _ else codes [n])=_;rw[if_neg (by decide),Aby]
 have hl:=Eh n
 have ho:Np m:=⟨by rw[hs],by rw[hs,h2];rfl,by rw[hs];exact .inl rfl,by rw[hs,h3];rfl,by omega,fun a ha=>by rw[h3,An] at ha;rw[ha];exact h4,by rw[ha,h2];simp;omega⟩
 rw[<- Afu ho (y:=(Gj n).1) (by rw[ha,h2];rfl)]
theorem Arv (m:D0):(Kl m).2=0<->Np m:=by
 unfold Kl
 split
 ·rename_i h;exact⟨fun _=>h,fun _=>rfl⟩
 rename_i h;exact⟨fun h1=>by simp at h1,fun h1=>absurd h1 h⟩
theorem Ti (m:D0):(Kl m).1.length<=200:=by
 unfold Kl
 split
 ·rename_i h;exact h.len
 simp
theorem Ok (m:D0) (h1:m.tok.length<=10000) (h2:m.args.length<=10000) (h3:m.data.length<=10000):(Eu m h1 h2 h3).1.length<=200/\∀n,P17 m n->(Eu m h1 h2 h3)=((Gj n).1++m.data,0):=by
 rw[La]
 exact⟨Ti m,fun n h=>Auo h⟩
theorem Au2 {k:Int} {p:List Int} (h1:0<=k) (h2:k<=255) (h3:p.length<=200):(P5 k p).2=0/\(P5 k p).1.length=p.length+10:=by
 unfold P5
 rw[if_neg (by omega),if_neg (by omega)]
 exact⟨rfl,by simp[Ig,I0,Kg]⟩
theorem Ase (k:Int) (p:List Int):(P5 k p).1.length<=p.length+10:=by
 unfold P5
 split
 ·simp
 split
 ·simp
 simp[Ig,I0,Kg]
section
variable (m:D0) (h1:m.tok.length<=10000) (h2:m.args.length<=10000) (h3:m.data.length<=10000)
include h1 h2 h3
theorem Lt:Ct 134 [m.g] (fun d:Bool=>.lb d) (fun d=>d=((Eu m h1 h2 h3).2 == 0)):=by
 refine Er Tryz.func134 ?_
 refine Bq ?_
 refine B8 Dy (S5 m h1 h2 h3) ?_
 refine Bq ?_
 exact .ret (Ep Dy ((((Eu m h1 h2 h3).2):Int) == 0) rfl)
def Lz:Bool:=(Em (Lt m h1 h2 h3)).choose
theorem Adg:PP 134 [] [m.g] [] (.lb (Lz m h1 h2 h3)):=(Em (Lt m h1 h2 h3)).choose_spec.1
theorem Vd:(Lz m h1 h2 h3)=((Eu m h1 h2 h3).2 == 0):=(Em (Lt m h1 h2 h3)).choose_spec.2
theorem Pg:Ct 102 [m.g] (fun d:List Int×Int=>.tup [.mY d.1,.li d.2]) (fun d=>d.1.length<=210/\((Eu m h1 h2 h3).2=0->0<=m.kind->m.kind<=255->d.2=0/\d.1.length=(Eu m h1 h2 h3).1.length+10)/\(Np m->d=P5 m.kind (Kl m).1)/\(¬Np m->¬d.2=0)):=by
 refine Er Tryz.func102 ?_
 have hq:=Ok m h1 h2 h3
 have he0:(Eu m h1 h2 h3).2=0<->Np m:=by rw[La];exact Arv m
 refine Bq ?_
 refine B8 Dy (S5 m h1 h2 h3)<|.seq ?_
 refine Bq ?_
 refine Br ?_ ?_<;>intro h12
 ·refine Bq ?_
  exact .ret (Ep Dy ([],(Eu m h1 h2 h3).2) (by exact⟨Ae _,(fun e=>absurd e (by assumption)),(fun h=>absurd (he0.2 h) (by assumption)),fun _=>(by assumption)⟩))
 refine Bp<|.L Dy (Ae1 m.kind (Eu m h1 h2 h3).1 (by omega)) ?_
 exact .ret (Ep Dy ((P5 m.kind ((Eu m h1 h2 h3).1)).1,(P5 m.kind ((Eu m h1 h2 h3).1)).2) (by first | exact⟨Ae _,(fun e=>absurd e (by assumption)),(fun h=>absurd (he0.2 h) (by assumption)),fun _=>(by assumption)⟩ | exact⟨Ak (Ase _ _) (by omega),(fun _ k1 k2=>Au2 k1 k2 hq.1),(fun _=>by rw[La]),fun h=>absurd (he0.1 (by assumption)) h⟩))
def Fo:List Int×Int:=(Em (Pg m h1 h2 h3)).choose
theorem Adh:PP 102 [] [m.g] [] (.tup [.imm false 1 (tY (Fo m h1 h2 h3).1),.lit (.int .i64 (Fo m h1 h2 h3).2)]):=(Em (Pg m h1 h2 h3)).choose_spec.1
theorem L4:(Fo m h1 h2 h3).1.length<=210/\((Eu m h1 h2 h3).2=0->0<=m.kind->m.kind<=255->(Fo m h1 h2 h3).2=0/\(Fo m h1 h2 h3).1.length=(Eu m h1 h2 h3).1.length+10)/\(Np m->(Fo m h1 h2 h3)=P5 m.kind (Kl m).1)/\(¬Np m->¬(Fo m h1 h2 h3).2=0):=(Em (Pg m h1 h2 h3)).choose_spec.2
end
section
section
variable (n:Int) (a:H0) (h1:a.sec.length<=1000000) (h2:a.lims.length<=1000000)
include n h1 h2
theorem Yj:Ct 55 [.li n,a.g] (fun d:Dx=>d.g) (fun d=>d.reg=Gz n a h1 h2/\d.reqs=[]/\d.draws=[]/\d.aud.length<=2/\(∀k:Nat,¬d.aud[k]? = some true)/\d.aud=List.replicate ((if 2<(if a.se<0 then 0 else a.se) then 2 else (if a.se<0 then 0 else a.se)).toNat) false):=by
 refine Er Tryz.func55 ?_
 iterate 2 refine Bq ?_
 refine Dd Dy (Aeu n a (by assumption) (by assumption)) ?_
 refine B2 Dy 2 ?_
 exact .ret (Ep Dy ⟨(Gz n a (by assumption) (by assumption)),[],[],List.replicate ((if 2<(if a.se<0 then 0 else a.se) then 2 else (if a.se<0 then 0 else a.se)).toNat) false⟩ ⟨rfl,rfl,rfl,by simp;(repeat' split)<;>omega,(fun k h=>by have:=List.eq_of_mem_replicate (Ac h);cases this),rfl⟩)
def Fw:Dx:=(Em (Yj n a h1 h2)).choose
theorem Aoi:PP 55 [] [.li n,a.g] [] (.agg ((Fw n a h1 h2).a false)):=(Em (Yj n a h1 h2)).choose_spec.1
theorem Y8:(Fw n a h1 h2).reg=Gz n a h1 h2/\(Fw n a h1 h2).reqs=[]/\(Fw n a h1 h2).draws=[]/\(Fw n a h1 h2).aud.length<=2/\(∀k:Nat,¬(Fw n a h1 h2).aud[k]? = some true)/\(Fw n a h1 h2).aud=List.replicate ((if 2<(if a.se<0 then 0 else a.se) then 2 else (if a.se<0 then 0 else a.se)).toNat) false:=(Em (Yj n a h1 h2)).choose_spec.2
end
theorem Xu (c:No) (h:c.lights.length<=1000000):Ct 225 [c.g] (fun d:Bool=>.lb d) (fun d=>True):=by
 refine Er Tryz.func225 ?_
 refine Bq ?_
 refine B3 (fun K kk=>by simp[go_sem];refine .lo (V6 c.lights _ [] (fun x=>x.l != 0) h Ta Ac9) (by simp[go_sem]) (by simp[AV.cln,Fb]) ?_;simp[go_sem];exact kk) ?_
 refine Bz (Fk ?_);simp[go_sem]
 exact⟨_,by rfl,trivial⟩
def Nt (m:D0):List Int:=by
 classical
 exact if h:m.tok.length<=10000/\m.args.length<=10000/\m.data.length<=10000 then (if (Fo m h.1 h.2.1 h.2.2).2=0 then (Fo m h.1 h.2.1 h.2.2).1 else []) else []
variable {m:D0}
theorem Aed (h1:m.tok.length<=10000) (h2:m.args.length<=10000) (h3:m.data.length<=10000) (h:(Fo m h1 h2 h3).2=0):Nt m=(Fo m h1 h2 h3).1:=by
 unfold Nt
 rw[dif_pos ⟨h1,h2,h3⟩,if_pos h]
theorem Aqn (h1:m.tok.length<=10000) (h2:m.args.length<=10000) (h3:m.data.length<=10000) (h:¬(Fo m h1 h2 h3).2=0):Nt m=[]:=by
 unfold Nt
 rw[dif_pos ⟨h1,h2,h3⟩,if_neg h]
theorem Axh {n:Int} (h:P17 m n):(Nt m).length=(Gj n).1.length+m.data.length+10:=by
 have h1:m.tok.length<=10000:=by rw[h.2.1];simp
 have h2:m.args.length<=10000:=by rw[h.2.2.1];simp
 have h3:m.data.length<=10000:=by have:=h.2.2.2.2;omega
 have he:=(Ok m h1 h2 h3).2 n h
 have hf:=(L4 m h1 h2 h3).2.1 (by rw[he]) (by rw[h.1];decide) (by rw[h.1];decide)
 rw[Aed h1 h2 h3 hf.1,hf.2,he]
 simp
theorem Aqo {α β:Type} {f:α->List β} {l:List α} {i:Nat} {e:α} (h:l[i]? = some e):((l.take (i+1)).map f).flatten=((l.take i).map f).flatten++f e:=by
 rw[List.take_add_one,h];simp
theorem Uz (l:List D0) (hl:l.length<=1000) (hm:∀m∈l,m.tok.length<=10000/\m.args.length<=10000/\m.data.length<=10000):Ct 66 [.mMsg l] (fun d:List Int=>.mY d) (fun d=>d=(l.map Nt).flatten):=by
 refine Er Tryz.func66 ?_
 refine Bq ?_
 refine Bq<|.seq ?_
 refine Bq<|.block ?_
 refine Cf 3 5 1 (by decide) (k':=1) (by simp[go_sem]) ?_
 simp[go_sem,-Prod.exists]
 refine Bs l.length (fun i1 (y1:(List Int))=>⟨[(3,.own 0 y1.length),(8,.mMsg l),(9,.li l.length),(10,.li i1)],[.row 5 1 false false (tY y1)]⟩) (fun i1 y1=>y1=((l.take i1).map Nt).flatten/\y1.length<=300*i1) ([]) (wk Dy [0]) (⟨by simp,by simp⟩) fun i1 y1 hi1 hy1=>?_
 refine Bq<|.seq ?_
 refine Br ?_ ?_<;>intro h11
 ·refine Bp<|.seq<|.block ?_
  obtain⟨e1,H1⟩:=gx l i1
  refine Bu H1 ?_
  have hb:=hm e1 (Ac H1)
  have hf:=(L4 e1 hb.1 hb.2.1 hb.2.2).1
  refine B8 H1 (Adh e1 hb.1 hb.2.1 hb.2.2) ?_
  refine Bu H1 ?_
  refine Br ?_ ?_<;>intro h20
  ·refine B0 H1 ?_
   refine B0 H1 ?_
   exact⟨by omega,(y1++((Fo e1 hb.1 hb.2.1 hb.2.2).1)),⟨by rw[hy1.1,Aqo H1,Aed hb.1 hb.2.1 hb.2.2 h20],by simp;omega⟩,wk (Fa (Dw ((i1:Int)+1)) H1) [0]⟩
  refine Bp<|.H1 H1 ?_
  exact⟨by omega,(y1),⟨by rw[Aqo H1,Aqn hb.1 hb.2.1 hb.2.2 h20,List.append_nil];exact hy1.1,by omega⟩,wk (Fa (Dw ((i1:Int)+1)) H1) [0]⟩
 refine Bt<|.R ?_
 refine B2 Dy 0 ?_
 exact .ret (Ep Dy y1 (by rw[hy1.1,Bf (by omega)]))
end
section
variable {cs:List AV}
theorem Eo.cellOwn {E:Gi} {β:Nat->Option Nat} {st:St} {a:Act} {w:World} (r:Eo E β st a w) {b n i k:Nat} {ty:TypeId} (hb:st.o b=.box ty cs) (hi:cs[i]? = some (.nil k)) (hn:∀A,Ea (E.C β st w) (.own n 0) (.slice A 0 0)) :
 Eo E β (st.set b (.box ty (cs.set i (.own n 0)))) a w:=by
 have ho':∀j,j≠b->(st.set b (.box ty (cs.set i (.own n 0)))).o j=st.o j:=fun j hj=>by rw[St.set_o,if_neg hj]
 have ho:(st.set b (.box ty (cs.set i (.own n 0)))).o b=.box ty (cs.set i (.own n 0)):=by rw[St.set_o,if_pos rfl]
 have hng:∀j,(st.set b (.box ty (cs.set i (.own n 0)))).o j≠.gone->st.o j≠.gone:=fun j hj=>by
  by_cases e:j=b
  ·subst e;rw[hb];simp
  rw[ho' j e] at hj;exact hj
 have s:Nu (E.C β st w) (E.C β (st.set b (.box ty (cs.set i (.own n 0)))) w):=by
  refine⟨rfl,fun _ h=>h,fun _ h=>h,fun _ h=>h,Aj _,?_,fun _ _ _=>rfl,?_,?_⟩
  ·rintro x hx ⟨j,h1,h2⟩
   have h2:((st.set b (.box ty (cs.set i (.own n 0)))).o j).live:=h2
   by_cases e:j=b
   ·subst e;exact⟨j,h1,by show (st.o j).live;rw[hb];trivial⟩
   rw[ho' j e] at h2;exact⟨j,h1,h2⟩
  ·intro j ty' cs' hj
   have hj:st.o j=.box ty' cs':=hj
   by_cases e:j=b
   ·subst e
    rw[hb] at hj
    injection hj with e1 e2
    subst e1
    exact⟨⟨_,ho⟩,rfl⟩
   exact⟨⟨cs',(ho' j e).trans hj⟩,rfl⟩
  intro j ty' k' fr' fz' es' hj
  have hj:st.o j=.row ty' k' fr' fz' es':=hj
  have e:j≠b:=fun e=>by subst e;rw[hb] at hj;cases hj
  exact⟨_,_,_,(ho' j e).trans hj,Aj _,fun _=>⟨rfl,fun b cc hb hc=>⟨cc,hc,rfl⟩⟩⟩
 refine r.move s rfl (fun j=>?_) (fun i j x hi hj=>r.inj i j x (hng i hi) (hng j hj)) (fun j x hj=>r.rng j x (hng j hj)) r.kp
 by_cases e:j=b
 ·subst e
  rw[ho]
  have h:=r.ob j
  rw[hb] at h
  obtain⟨x,cur,h1,h2,h3,h4⟩:=J8.step (o:=.box ty cs) s h rfl fun _ _=>rfl
  refine⟨x,cur,h1,h2,by rw[List.length_set];exact h3,fun q c u hc hu=>?_⟩
  rw[List.getElem?_set] at hc
  split at hc
  ·rename_i e
   subst e
   split at hc
   ·injection hc with hc
    subst hc
    obtain⟨g1,g2⟩:=h4 i _ u hi hu
    refine⟨?_,g2⟩
    cases g1 with
    | nil k A=>exact (hn A).step s
   cases hc
  exact h4 q c u hc hu
 rw[ho' j e]
 exact (r.ob j).step s rfl fun _ _=>rfl
variable {bt:TypeId}
section
variable {P:Program} {n m:Nat} {st:St} {K:Exit->St->Prop} {c:Code}
theorem VW.own0c (b i:Nat) (ty k:Nat) (hk:0<k) {k':Nat} (hb:st.o b=.box bt cs) (hi:cs[i]? = some (.nil k')) (hv:VW P n m c ((st.set st.ob.length (.row ty k true false [])).set b (.box bt (cs.set i (.own st.ob.length 0)))) K):VW P n m c st K:=fun E F hE hF β a w r=>by
 obtain⟨r1,h1⟩:=r.empty (Ha st st.ob.length (Aj _)) ty hk true
 have hne:b≠st.ob.length:=fun e=>by
  have:=Ha st st.ob.length (Aj _)
  rw[<- e,hb] at this
  cases this
 exact hv E F hE hF _ a w (r1.cellOwn (by rw[St.set_o,if_neg hne];exact hb) hi h1)
theorem VX.own0c (b i:Nat) (ty k:Nat) (hk:0<k) {k':Nat} (hb:st.o b=.box bt cs) (hi:cs[i]? = some (.nil k')) (hv:VX P n m c ((st.set st.ob.length (.row ty k true false [])).set b (.box bt (cs.set i (.own st.ob.length 0)))) K):VX P n m c st K:=by
 obtain⟨e,s,h1,h2⟩:=hv
 exact⟨e,s,.own0c b i ty k hk hb hi h1,h2⟩
abbrev Ck:=@VX.own0c
end
end
section
variable (x:Dx) (k:Int) (now:Int) (h1:x.reqs.length<=1000) (h2:x.reg.toks.length<=1000000)
include k now h1 h2
theorem Vw:Ct 192 [x.g,.li k,.li now] (fun d:D0=>d.g) (fun d=>d.tok=[]/\d.data=[]/\d.args.length<=2000/\(d.kind=13\/d.kind=19\/d.kind=20)):=by
 refine Er Tryz.func192 ?_
 refine Bq<|.seq ?_
 refine Bq<|.block ?_
 refine Bq ?_
 refine Br ?_ ?_<;>intro h14
 ·refine Bq ?_
  refine B2 Dy 2 ?_
  exact .ret (Ep Dy ⟨13,[],[x.reg.num,now],[]⟩ ⟨rfl,rfl,by (simp;done),by simp⟩)
 refine Bq ?_
 refine Br ?_ ?_<;>intro h22
 ·refine Bq<|.seq ?_
  refine Bq<|.block ?_
  refine Ck 2 2 3 1 (by decide) rfl rfl ?_
  simp[go_sem,-Prod.exists]
  refine Bs x.reqs.length (fun i1 (y1:(List Int))=>⟨[(6,.ptr 0 0),(7,.ptr 1 0),(26,.mReq x.reqs),(27,.li x.reqs.length),(28,.li i1)],[.box 56 [.li 0,.nil 1,.nil 1,.nil 1],.box 56 [.li 19,.nil 1,.own 2 y1.length,.nil 1],.row 3 1 false false (tI y1)]⟩) (fun i1 y1=>y1.length=2*i1) ([]) (wk Dy [1,2,3]) (rfl) fun i1 y1 hi1 hy1=>?_
  refine Bq<|.seq ?_
  refine Br ?_ ?_<;>intro h29
  ·refine Bp<|.seq<|.block ?_
   obtain⟨e1,H1⟩:=gx x.reqs i1
   refine Bu H1 ?_
   refine B0 H1 ?_
   refine B0 H1 ?_
   refine⟨by omega,(y1++([e1.id,e1.unt])),?_,wk (Fa (Dw ((i1:Int)+1)) H1) [0,1,2]⟩
   simp;omega
  refine Bt<|.R ?_
  refine B2 Dy 2 ?_
  exact .ret (Ep Dy ⟨19,[],y1,[]⟩ ⟨rfl,rfl,by first | (simp;done) | (dsimp only;omega),by simp⟩)
 refine Bp<|.R<|.seq ?_
 refine Bq<|.block ?_
 refine Bs x.reg.toks.length (fun i2 (y2:Int)=>⟨[(3,.ptr 0 0),(6,.ptr 1 0),(10,.li y2),(45,.mTok x.reg.toks),(46,.li x.reg.toks.length),(47,.li i2)],[.box 70 (x.a false),.box 56 [.li 0,.nil 1,.nil 1,.nil 1]]⟩) (fun i2 y2=>True) (0) (wk Dy [0,1]) (trivial) fun i2 y2 hi2 hy2=>?_
 refine Bq<|.seq ?_
 refine Br ?_ ?_<;>intro h48
 ·refine Bp<|.seq<|.block ?_
  obtain⟨e2,H2⟩:=gx x.reg.toks i2
  refine Bu H2 ?_
  refine Bu H2 ?_
  refine Br ?_ ?_<;>intro h53
  ·refine B0 H2 ?_
   refine B0 H2 ?_
   exact⟨by omega,(IntKind.i64.wrap (y2+1)),trivial,wk (Fa (Dw ((i2:Int)+1)) H2) [0,1]⟩
  refine Bp<|.H1 H2 ?_
  exact⟨by omega,(y2),trivial,wk (Fa (Dw ((i2:Int)+1)) H2) [0,1]⟩
 refine Bt<|.R ?_
 refine B2 Dy 2 ?_
 exact .ret (Ep Dy ⟨20,[],[y2,IntKind.i64.wrap (8 - x.reg.vehs.length),IntKind.i64.wrap (x.reg.ag.rq - x.reqs.length),x.reg.bk.lv],[]⟩ ⟨rfl,rfl,by (simp;done),by simp⟩)
def Ip:D0:=(Em (Vw x k now h1 h2)).choose
theorem Alx:PP 192 [] [x.g,.li k,.li now] [] (.agg ((Ip x k now h1 h2).a false)):=(Em (Vw x k now h1 h2)).choose_spec.1
theorem Acp:(Ip x k now h1 h2).tok=[]/\(Ip x k now h1 h2).data=[]/\(Ip x k now h1 h2).args.length<=2000/\((Ip x k now h1 h2).kind=13\/(Ip x k now h1 h2).kind=19\/(Ip x k now h1 h2).kind=20):=(Em (Vw x k now h1 h2)).choose_spec.2
end
section
structure E9 where
  l:List Int
  pos:Int
def E9.a (fr:Bool) (x:E9):List AV:=[.imm fr 1 (tI x.l),.li x.pos]
abbrev E9.g (x:E9):AV:=.agg (x.a false)
attribute [go_sem] E9.g
attribute [go_sem] E9.a
def Aya (P:Program) (m:Nat) {D:Type} (rs:List ResultVar) (F:D->AV) (S:D->List Ob) (Q:D->Prop) (e:Exit) (st:St):Prop:=∃d,Re P m rs (S d) (F d) e st/\Q d
variable {f:FuncId} {fn:Func} {args:List AV} {σa:List Ob} {rs:List ResultVar}
theorem Aec {P:Program} {c:Code} {D:Type} {F:D->AV} {S:D->List Ob} {Q:D->Prop} (hf:P.funcs[f]? = some fn) (hb:fn.body=some c) (hn:(fn.name == "runtime.NumGoroutine")=false) (hrs:fn.results=rs.toArray) (hk:args.length<=fn.ntmps) (h:VX P fn.ntmps σa.length c ⟨Hr 0 args,σa⟩ (Aya P σa.length rs F S Q)):∃d,Ey P f σa args (S d) (F d)/\Q d:=by
 obtain⟨e,s,h1,d,h2,h3⟩:=h
 refine⟨d,Ad9 hf hb hn hrs hk (h1.mono ?_),h3⟩
 rintro e' s' ⟨rfl,rfl⟩
 exact h2
def Cx {D:Type} (f:FuncId) (σa:List Ob) (args:List AV) (S:D->List Ob) (F:D->AV) (Q:D->Prop):Prop:=∃d,PP f σa args (S d) (F d)/\Q d
theorem Tj {c:Code} {D:Type} {F:D->AV} {S:D->List Ob} {Q:D->Prop} (hf:Tryz.prog.funcs[f]? = some fn) (h:VX Tryz.prog fn.ntmps σa.length c ⟨Hr 0 args,σa⟩ (Aya Tryz.prog σa.length rs F S Q)) (hb:fn.body=some c:=by rfl) (hn:(fn.name == "runtime.NumGoroutine")=false:=by rfl) (hrs:fn.results=rs.toArray:=by rfl) (hk:args.length<=fn.ntmps:=by exact Nat.le_of_ble_eq_true rfl):Cx f σa args S F Q:=Aec hf hb hn hrs hk h
theorem N0 (k:E9) (h:k.l.length<=300):Cx 34 [.box 84 (k.a false)] [.ptr 0 0] (fun d:Bool×E9=>[.box 84 (d.2.a false)]) (fun d=>.lb d.1) (fun d=>d.2=k):=by
 refine Tj Tryz.func34 ?_
 refine Bq ?_
 refine VX.D ?_
 exact .ret ⟨(decide ((k.pos:Int)<k.l.length),k),rW Dy [0],rfl⟩
theorem Dv (k:E9) (n:Int) (h:k.l.length<=300) (h0:0<=k.pos) (h1:1<=n) (h2:n<=1000000):Cx 26 [.box 84 (k.a false)] [.ptr 0 0,.li n] (fun d:Int×E9=>[.box 84 (d.2.a false)]) (fun d=>.li d.1) (fun d=>d.2.l=k.l/\k.pos<=d.2.pos/\(0<=d.1/\d.1<n/\(k.l=[]->d.1=0))):=by
 refine Tj Tryz.func26 ?_
 refine Bq<|.seq ?_
 refine VX.D ?_
 refine Br ?_ ?_<;>intro h14
 ·refine Bq ?_
  exact .ret ⟨(0,k),rW Dy [0],(by exact⟨rfl,by dsimp only;omega,by dsimp only;omega,by dsimp only;omega,fun _=>rfl⟩)⟩
 have hw0:=Dw k.pos (by omega) (by omega)
 refine Bp ?_
 have hw1:=Dw (k.pos+1:Int)
 refine Bu hw1 ?_
 obtain⟨e2,H2⟩:=gx k.l k.pos.toNat
 refine Dd (Jb hw1 H2 hw0) (M0 e2 n (by assumption) (by assumption)) ?_
 exact .ret ⟨((J3 e2 n (by assumption) (by assumption)),⟨k.l,(k.pos+1)⟩),rW (Fa hw1 H2) [0],(by first | exact⟨rfl,by dsimp only;omega,by dsimp only;omega,by dsimp only;omega,fun _=>rfl⟩ | exact⟨rfl,by dsimp only;omega,(Nh _ _ h1 h2).1,(Nh _ _ h1 h2).2,fun e=>absurd h14 (by rw[e];simp;omega)⟩)⟩
end
theorem Ef (k:E9) (lo:Int) (hi:Int) (h:k.l.length<=300) (h0:0<=k.pos) (h1:0<=lo) (h2:lo<=hi) (h3:hi<=1000):Cx 25 [.box 84 (k.a false)] [.ptr 0 0,.li lo,.li hi] (fun d:Int×E9=>[.box 84 (d.2.a false)]) (fun d=>.li d.1) (fun d=>d.2.l=k.l/\k.pos<=d.2.pos/\lo<=d.1/\d.1<=hi/\(k.l=[]->d.1=lo)):=by
 refine Tj Tryz.func25 ?_
 obtain⟨N1,hN1,hq1⟩:=Dv k (hi - lo+1) h h0 (by omega) (by omega)
 have hw3:=Dw (lo+N1.1)
 refine Bu hw3 ?_
 have hw1:=Dw (hi - lo:Int)
 have hw2:=Dw ((hi - lo)+1:Int)
 refine Da (Jb hw3 hw1 hw2) [0] hN1 ?_
 exact .ret ⟨((lo+N1.1),N1.2),rW (Jb hw3 hw1 hw2) [0],⟨hq1.1,hq1.2.1,by dsimp only;omega,by dsimp only;omega,fun e=>by have:=hq1.2.2.2.2 e;dsimp only;omega⟩⟩
theorem Nq:By []:=fun x h=>by cases h
theorem W8 (x:Int):By [IntKind.u8.wrap x]:=fun y hy=>by simp at hy;subst hy;exact Rn x
theorem A1q (a b:Int):By [Ex .xor .u8 a b]:=W8 _
theorem Ho (n:Int):Ct 32 [.li n] (fun d:List Int=>.mY d) (fun d=>d.length=8/\By d):=by
 refine Er Tryz.func32 ?_
 refine Bq ?_
 refine Bq<|.seq ?_
 refine Bq<|.block ?_
 refine Cf 3 5 1 (by decide) (k':=1) (by simp[go_sem]) ?_
 simp[go_sem,-Prod.exists]
 refine Bs 8 (fun i1 (y1:(List Int))=>⟨[(0,.li n),(3,.own 0 y1.length),(5,.li i1)],[.row 5 1 false false (tY y1)]⟩) (fun i1 y1=>y1.length=i1/\By y1) ([]) (wk Dy [0]) (⟨rfl,Nq⟩) fun i1 y1 hi1 hy1=>?_
 refine Bq<|.seq ?_
 refine Br ?_ ?_<;>intro h6
 ·refine Bp<|.seq<|.block<|.R ?_
  refine B0 Dy ?_
  refine Ci ?_
  exact⟨by omega,(y1++([Ex .xor .u8 (IntKind.u8.wrap (Int.fdiv (IntKind.u64.wrap n) (2 ^ min (Int.toNat (IntKind.u64.wrap (8*(IntKind.u64.wrap i1)))) 64))) (IntKind.u8.wrap (IntKind.i64.wrap (IntKind.i64.wrap (29*i1)+7)))])),⟨by simp;omega,hy1.2.app (A1q _ _)⟩,wk (Dw ((i1:Int)+1)) [0]⟩
 refine Bt<|.R ?_
 refine B2 Dy 0 ?_
 exact .ret (Ep Dy y1 ⟨by omega,hy1.2⟩)
def Ec (n:Int):List Int:=(Em (Ho n)).choose
theorem Gb (n:Int):PP 32 [] [.li n] [] (.mY (Ec n)):=(Em (Ho n)).choose_spec.1
theorem I4 (n:Int):(Ec n).length=8/\By (Ec n):=(Em (Ho n)).choose_spec.2
section
variable (a:Int) (s:Int) (b:List Int) (h:b.length<=1000)
include a s h
theorem I2:Ct 20 [.li a,.li s,.mY b] (fun d:List Int=>.mY d) (fun d=>d.length=b.length+2/\(By b->By d)):=by
 refine Er Tryz.func20 ?_
 have e2:2+b.length=b.length+1+1:=by omega
 refine Bq ?_
 refine Bu Dy ?_
 refine B2 Dy 0 ?_
 refine Bz (Fk ?_);simp[go_sem,e2]
 exact⟨([IntKind.u8.wrap a,IntKind.u8.wrap s])++b,by rfl,⟨by simp,fun h=>by exact (W8 _).app ((W8 _).app h)⟩⟩
def Et:List Int:=(Em (I2 a s b h)).choose
theorem Hp:PP 20 [] [.li a,.li s,.mY b] [] (.mY (Et a s b h)):=(Em (I2 a s b h)).choose_spec.1
theorem Rk:(Et a s b h).length=b.length+2/\(By b->By (Et a s b h)):=(Em (I2 a s b h)).choose_spec.2
end
theorem Mv (k:E9) (num:Int) (ri:Int) (h:k.l.length<=300) (h0:0<=k.pos):Cx 28 [.box 84 (k.a false)] [.ptr 0 0,.li num,.li ri] (fun d:H0×E9=>[.box 84 (d.2.a false)]) (fun d=>d.1.g) (fun d=>d.2.l=k.l/\(0<=d.2.pos/\(k.l=[]->d.1.se=1))/\d.1.sec.length=8/\d.1.lims.length=4/\(∀x∈d.1.lims,0<=x/\x<=3)/\d.1.ri=ri/\d.1.cls=3/\(1<=d.1.rq/\d.1.rq<=3)/\(1<=d.1.se/\d.1.se<=2)/\(1<=d.1.ra/\d.1.ra<=3)/\d.1.ra<=d.1.bu/\d.1.bu<=7):=by
 refine Tj Tryz.func28 ?_
 refine Bq ?_
 obtain⟨D1,hD1,hd1⟩:=Ef k 1 3 (by assumption) (by assumption) (by omega) (by omega) (by omega)
 have hl1:D1.2.l.length<=300:=by rw[hd1.1];assumption
 have hp1:0<=D1.2.pos:=by omega
 obtain⟨D2,hD2,hd2⟩:=Ef D1.2 1 3 (by assumption) (by assumption) (by omega) (by omega) (by omega)
 have hl2:D2.2.l.length<=300:=by rw[hd2.1];assumption
 have hp2:0<=D2.2.pos:=by omega
 obtain⟨D3,hD3,hd3⟩:=Dv D2.2 3 (by assumption) (by assumption) (by omega) (by omega)
 have hl3:D3.2.l.length<=300:=by rw[hd3.1];assumption
 have hp3:0<=D3.2.pos:=by omega
 obtain⟨D4,hD4,hd4⟩:=Dv D3.2 3 (by assumption) (by assumption) (by omega) (by omega)
 have hl4:D4.2.l.length<=300:=by rw[hd4.1];assumption
 have hp4:0<=D4.2.pos:=by omega
 obtain⟨D5,hD5,hd5⟩:=Ef D4.2 1 3 (by assumption) (by assumption) (by omega) (by omega) (by omega)
 have hl5:D5.2.l.length<=300:=by rw[hd5.1];assumption
 have hp5:0<=D5.2.pos:=by omega
 obtain⟨D6,hD6,hd6⟩:=Ef D5.2 1 2 (by assumption) (by assumption) (by omega) (by omega) (by omega)
 have hl6:D6.2.l.length<=300:=by rw[hd6.1];assumption
 have hp6:0<=D6.2.pos:=by omega
 obtain⟨D7,hD7,hd7⟩:=Ef D6.2 1 3 (by assumption) (by assumption) (by omega) (by omega) (by omega)
 have hl7:D7.2.l.length<=300:=by rw[hd7.1];assumption
 have hp7:0<=D7.2.pos:=by omega
 refine Dj 13 2 (by rfl) fun K1 hK1=>?_
 simp[go_sem]
 obtain⟨Y1,cY1,qY1⟩:=Em (Ho (IntKind.i64.wrap (1000+num)))
 refine .l cY1 ?_
 simp[go_sem]
 refine .o [0] (hD1) ?_
 simp[go_sem]
 refine .o [0] (hD2) ?_
 simp[go_sem]
 refine .o [0] (hD3) ?_
 simp[go_sem]
 refine .o [0] (hD4) ?_
 simp[go_sem]
 refine .o [0] (hD5) ?_
 simp[go_sem]
 refine .o [0] (hD6) ?_
 simp[go_sem]
 refine .o [0] (hD7) ?_
 simp[go_sem]
 refine hK1 _ ?_;clear hK1
 obtain⟨D8,hD8,hd8⟩:=Dv D7.2 5 (by assumption) (by assumption) (by omega) (by omega)
 have hl8:D8.2.l.length<=300:=by rw[hd8.1];assumption
 have hp8:0<=D8.2.pos:=by omega
 have hw9:=Dw (D7.1+D8.1)
 refine Cw (fun K kk=>by simp[go_sem,hw9];refine .o [0] (hD8) ?_;simp[go_sem,hw9];exact kk) ?_
 refine Bq ?_
 exact .ret ⟨(⟨Y1,ri,3,[D1.1,D2.1,D3.1,D4.1],D5.1,D6.1,D7.1,(D7.1+D8.1)⟩,D8.2),rW Dy [0],⟨by simp only[hd1.1,hd2.1,hd3.1,hd4.1,hd5.1,hd6.1,hd7.1,hd8.1],⟨hp8,fun e=>hd6.2.2.2.2 (by simp only[hd1.1,hd2.1,hd3.1,hd4.1,hd5.1,e])⟩,qY1.1,rfl,by simp;omega,rfl,rfl,by dsimp only;omega,by dsimp only;omega,by dsimp only;omega,by dsimp only;omega,by dsimp only;omega⟩⟩
theorem Qp (s:Int) (b:List Int) (h:b.length<=1000000):Ct 138 [.lit (.int .u32 s),.mY b] (fun d:Int=>.lit (.int .u32 d)) (fun d=>True):=by
 refine Er Tryz.func138 ?_
 refine B3 (fun K kk=>by simp[go_sem,Ib];exact kk) ?_
 refine B3 (fun K kk=>by simp[go_sem,Ib];exact kk)<|.seq ?_
 refine B3 (fun K kk=>by simp[go_sem,Ib];exact kk)<|.block ?_
 refine Bs b.length (fun i1 (y1:Int)=>⟨[(5,.lit (.int .u32 y1)),(11,.mY b),(12,.li b.length),(13,.li i1)],[]⟩) (fun i1 y1=>True) (Ex .xor .u32 IntKind.u32.max s) (wk Dy []) (trivial) fun i1 y1 hi1 hy1=>?_
 refine B3 (fun K kk=>by simp[go_sem,Ib];exact kk)<|.seq ?_
 refine Br ?_ ?_<;>intro h14
 ·refine Bp<|.seq<|.block ?_
  obtain⟨e1,H1⟩:=gx b i1
  refine B3 (fun K kk=>by simp[go_sem,Ib,H1];repeat first | exact kk | refine aK ?_) ?_
  refine B3 (fun K kk=>by simp[go_sem,Ib,H1];exact kk) ?_
  refine B3 (fun K kk=>by simp[go_sem,Ib,H1];exact kk)<|.block ?_
  refine Bs 8 (fun i2 (y2:Int)=>⟨[(5,.lit (.int .u32 y2)),(11,.mY b),(12,.li b.length),(13,.li i1),(21,.li i2)],[]⟩) (fun i2 y2=>True) (Ex .xor .u32 y1 (IntKind.u32.wrap e1)) (wk H1 []) (trivial) fun i2 y2 hi2 hy2=>?_
  refine B3 (fun K kk=>by simp[go_sem,Ib,H1];exact kk)<|.seq ?_
  refine Br ?_ ?_<;>intro h22
  ·refine Bp<|.seq<|.block<|.S (fun K kk=>by simp[go_sem,Ib,H1];exact kk) ?_
   refine B3 (fun K kk=>by simp[go_sem,Ib,H1];repeat first | exact kk | refine aK ?_) ?_
   refine B3 (fun K kk=>by simp[go_sem,Ib,H1];exact kk) ?_
   refine Br ?_ ?_<;>intro h28
   ·refine Cg (fun K kk=>by simp[go_sem,Ib,H1];exact kk) ?_
    refine Cg (fun K kk=>by simp[go_sem,Ib,H1];exact kk) ?_
    exact⟨by omega,(Ex .xor .u32 (Int.fdiv y2 (2 ^ min (Int.toNat 1) 32)) 3988292384),trivial,wk (Fa (Dw ((i2:Int)+1)) H1) []⟩
   refine Bp<|.S1 (fun K kk=>by simp[go_sem,Ib,H1];exact kk) ?_
   exact⟨by omega,(Int.fdiv y2 (2 ^ min (Int.toNat 1) 32)),trivial,wk (Fa (Dw ((i2:Int)+1)) H1) []⟩
  refine Bt<|.S1 (fun K kk=>by simp[go_sem,Ib,H1];exact kk) ?_
  exact⟨by omega,(y2),trivial,wk (Fa (Dw ((i1:Int)+1)) H1) []⟩
 refine Bt<|.S (fun K kk=>by simp[go_sem,Ib];exact kk) ?_
 refine Bz (Fk ?_);simp[go_sem,Ib]
 exact⟨Ex .xor .u32 IntKind.u32.max y1,by rfl,trivial⟩
theorem Ss (b:List Int) (h:b.length<=1000000):Ct 103 [.mY b] (fun d:Int=>.lit (.int .u32 d)) (fun d=>True):=by
 refine Er Tryz.func103 ?_
 refine Bq ?_
 obtain⟨Y1,cY1,qY1⟩:=Em (Qp 0 b (by assumption))
 refine B8 Dy cY1 ?_
 exact .ret (Ep Dy Y1 trivial)
theorem R6 (n:Int):Ct 141 [.li n] (fun d:Int=>.li d) (fun d=>(d≠0->0<=n/\n<=4294967295)/\(0<=n->n<=4294967295->d≠0)):=by
 refine Er Tryz.func141 ?_
 refine Bq<|.seq ?_
 refine Bq ?_
 refine Br ?_ ?_<;>intro h9
 ·refine Bq ?_
  exact .ret (Ep Dy 0 (by exact⟨fun h=>absurd rfl h,fun _ _=>by omega⟩))
 refine Bp<|.R<|.seq<|.block ?_
 refine Cj (fun (y1:Int×Int)=>⟨[(0,.li y1.1),(3,.li y1.2)],[]⟩) (fun y1=>(0<=y1.1/\y1.1<=4294967295)/\1<=y1.2/\y1.2<=4294967295 - y1.1+1) (fun y1=>y1.1.toNat) (n,1) (wk Dy []) (by dsimp only;omega) fun y1 hy1=>?_
 refine Ca<|.R ?_
 refine Br ?_ ?_<;>intro h11
 ·refine Bp<|.block ?_
  have hd:Int.tdiv y1.1 128=y1.1 / 128:=Int.tdiv_eq_ediv_of_nonneg (by omega)
  have hq:=Dw (y1.1 / 128)
  refine Bu (Fa hd hq) ?_
  have hw1:=Dw (y1.2+1:Int)
  refine B0 hw1 ?_
  refine⟨((y1.1 / 128),(y1.2+1)),?_,?_,wQ [] ?_ ?_⟩
  ·dsimp only;omega
  ·dsimp only;omega
  all_goals simp[go_sem,hw1]
 refine Bt<|.R ?_
 exact .ret (Ep Dy y1.2 (by first | exact⟨fun h=>absurd rfl h,fun _ _=>by omega⟩ | exact⟨fun _=>by omega,fun _ _=>by omega⟩))
theorem Hf (n:Int):Ct 106 [.li n] (fun d:List Int×Int=>.tup [.mY d.1,.li d.2]) (fun d=>d.1.length<=5/\By d.1/\(0<=n->n<=4294967295->d.1.length=vnl n)):=by
 refine Er Tryz.func106 ?_
 obtain⟨Y1,cY1,qY1⟩:=Em (R6 n)
 have hs:=qY1
 refine Bq<|.seq ?_
 refine B8 Dy cY1 ?_
 refine Br ?_ ?_<;>intro h7
 ·refine Bq ?_
  exact .ret (Ep Dy ([],8) (by exact⟨Ae _,Nq,fun a b=>absurd (by assumption) (hs.2 a b)⟩))
 have hn:=hs.1 h7
 refine Bp<|.R<|.seq<|.block ?_
 refine Cf 4 5 1 (by decide) (k':=1) (by simp[go_sem]) ?_
 simp[go_sem,-Prod.exists]
 refine Cj (fun (y1:(List Int)×Int)=>⟨[(0,.li y1.2),(4,.own 0 y1.1.length)],[.row 5 1 false false (tY y1.1)]⟩) (fun y1=>(0<=y1.2/\((y1.1.length=0/\y1.2<=4294967295)\/(y1.1.length=1/\y1.2<=33554431)\/(y1.1.length=2/\y1.2<=262143)\/(y1.1.length=3/\y1.2<=2047)\/(y1.1.length=4/\y1.2<=15)))/\By y1.1/\y1.1.length+vnl y1.2=vnl n) (fun y1=>y1.2.toNat) ([],n) (wk Dy [0]) (⟨by simp;omega,Nq,by simp⟩) fun y1 hy1=>?_
 refine Ca<|.R ?_
 refine Br ?_ ?_<;>intro h9
 ·refine Bp<|.block<|.H Dy ?_
  have hd:Int.tdiv y1.2 128=y1.2 / 128:=Int.tdiv_eq_ediv_of_nonneg (by omega)
  have hq:=Dw (y1.2 / 128)
  refine B0 (Fa hd hq) ?_
  refine⟨(y1.1++([IntKind.u8.wrap (IntKind.i64.wrap (Int.tmod y1.2 128+128))]),(y1.2 / 128)),?_,?_,wQ [0] ?_ ?_⟩
  ·dsimp only;omega
  ·exact⟨by simp only[Bo,A6,List.length_nil];omega,hy1.2.1.app (W8 _),by have h:=hy1.2.2;rw[Alg (by omega) (by omega)] at h;simp only[Bo,A6,List.length_nil];omega⟩
  all_goals simp[go_sem]
 refine Bt<|.H Dy ?_
 refine B2 Dy 0 ?_
 exact .ret (Ep Dy (y1.1++([IntKind.u8.wrap y1.2]),0) (by first | exact⟨Ae _,Nq,fun a b=>absurd (by assumption) (hs.2 a b)⟩ | exact⟨by simp only[Bo,A6,List.length_nil];omega,hy1.2.1.app (W8 _),fun _ _=>by have h:=hy1.2.2;rw[show vnl y1.2=1 by unfold vnl;rw[if_pos (by omega)]] at h;simp only[Bo,A6,List.length_nil];omega⟩))
def Iz (n:Int):List Int×Int:=(Em (Hf n)).choose
theorem Eg (n:Int):(Iz n).1.length<=5/\By (Iz n).1/\(0<=n->n<=4294967295->(Iz n).1.length=vnl n):=(Em (Hf n)).choose_spec.2
theorem Jz (k:Int):Ct 76 [.li k] (fun d:Nn=>d.g) (fun d=>0<=d.fix/\d.fix<=4/\0<=d.grp/\d.grp<=4/\0<=d.lea/\d.lea<=1/\0<=d.mos/\d.mos<=100 /\ -1<=d.dat/\d.dat<=10/\∀s,Vf k=some s->d=⟨s.fix,s.grp,s.lea,s.mos,s.dat⟩):=by
 refine Er Tryz.func76 ?_
 refine Bq<|.seq ?_
 refine Bq<|.block ?_
 refine Bq ?_
 refine Br ?_ ?_<;>intro h4
 ·refine Bq ?_
  exact .ret (Ep Dy ⟨3,0,0,0,0⟩ ⟨by decide,by decide,by decide,by decide,by decide,by decide,by decide,by decide,by decide,by decide,(fun s hs=>by unfold Vf at hs;(repeat' split at hs)<;>first | (exfalso;omega) | (cases hs;done))⟩)
 refine Ce (by rfl) fun K1 hK1=>?_
 simp[go_sem]
 refine hK1 _ ⟨_,_,_,_,_,_,_,_,rfl,.more (by decide) rfl rfl (.more (by decide) rfl rfl (.more (by decide) rfl rfl (.more (by decide) rfl rfl (.one (by decide) rfl rfl)))),by decide,rfl,by simp[go_sem];rfl,by simp[go_sem];rfl,by simp[go_sem],?_⟩;clear hK1
 refine Br ?_ ?_<;>intro h7
 ·refine Bq ?_
  exact .ret (Ep Dy ⟨1,0,0,0,0⟩ ⟨by decide,by decide,by decide,by decide,by decide,by decide,by decide,by decide,by decide,by decide,(fun s hs=>by unfold Vf at hs;(repeat' split at hs)<;>first | (exfalso;omega) | (cases hs;done))⟩)
 refine Ce (by rfl) fun K1 hK1=>?_
 simp[go_sem]
 refine hK1 _ ⟨_,_,_,_,_,_,_,_,rfl,.more (by decide) rfl rfl (.more (by decide) rfl rfl (.one (by decide) rfl rfl)),by decide,rfl,by simp[go_sem];rfl,by simp[go_sem];rfl,by simp[go_sem],?_⟩;clear hK1
 refine Br ?_ ?_<;>intro h15
 ·refine Bq ?_
  exact .ret (Ep Dy ⟨2,0,0,0,0⟩ ⟨by decide,by decide,by decide,by decide,by decide,by decide,by decide,by decide,by decide,by decide,(fun s hs=>by unfold Vf at hs;(repeat' split at hs)<;>first | (exfalso;omega) | (cases hs;done) | (cases hs;rfl))⟩)
 refine Bq ?_
 refine Br ?_ ?_<;>intro h21
 ·refine Bq ?_
  exact .ret (Ep Dy ⟨3,4,1,3,0⟩ ⟨by decide,by decide,by decide,by decide,by decide,by decide,by decide,by decide,by decide,by decide,(fun s hs=>by unfold Vf at hs;(repeat' split at hs)<;>first | (exfalso;omega) | (cases hs;done))⟩)
 refine Bq ?_
 refine Br ?_ ?_<;>intro h24
 ·refine Bq ?_
  exact .ret (Ep Dy ⟨1,2,1,3,0⟩ ⟨by decide,by decide,by decide,by decide,by decide,by decide,by decide,by decide,by decide,by decide,(fun s hs=>by unfold Vf at hs;(repeat' split at hs)<;>first | (exfalso;omega) | (cases hs;done))⟩)
 refine Bq ?_
 refine Br ?_ ?_<;>intro h27
 ·refine Bq ?_
  exact .ret (Ep Dy ⟨1,0,0,0,10⟩ ⟨by decide,by decide,by decide,by decide,by decide,by decide,by decide,by decide,by decide,by decide,(fun s hs=>by unfold Vf at hs;(repeat' split at hs)<;>first | (exfalso;omega) | (cases hs;done) | (cases hs;rfl))⟩)
 refine Ce (by rfl) fun K1 hK1=>?_
 simp[go_sem]
 refine hK1 _ ⟨_,_,_,_,_,_,_,_,rfl,.one (by decide) rfl rfl,by decide,rfl,by simp[go_sem];rfl,by simp[go_sem];rfl,by simp[go_sem],?_⟩;clear hK1
 refine Br ?_ ?_<;>intro h30
 ·refine Bq ?_
  exact .ret (Ep Dy ⟨1,0,0,0,(-1)⟩ ⟨by decide,by decide,by decide,by decide,by decide,by decide,by decide,by decide,by decide,by decide,(fun s hs=>by unfold Vf at hs;(repeat' split at hs)<;>first | (exfalso;omega) | (cases hs;done) | (cases hs;rfl))⟩)
 refine Bq ?_
 refine Br ?_ ?_<;>intro h34
 ·refine Bq ?_
  exact .ret (Ep Dy ⟨1,3,0,16,0⟩ ⟨by decide,by decide,by decide,by decide,by decide,by decide,by decide,by decide,by decide,by decide,(fun s hs=>by unfold Vf at hs;(repeat' split at hs)<;>first | (exfalso;omega) | (cases hs;done) | (cases hs;rfl))⟩)
 refine Bq ?_
 refine Br ?_ ?_<;>intro h37
 ·refine Bq ?_
  exact .ret (Ep Dy ⟨0,2,0,4,0⟩ ⟨by decide,by decide,by decide,by decide,by decide,by decide,by decide,by decide,by decide,by decide,(fun s hs=>by unfold Vf at hs;(repeat' split at hs)<;>first | (exfalso;omega) | (cases hs;done) | (cases hs;rfl))⟩)
 refine Bq ?_
 refine Br ?_ ?_<;>intro h40
 ·refine Bq ?_
  exact .ret (Ep Dy ⟨4,0,0,0,0⟩ ⟨by decide,by decide,by decide,by decide,by decide,by decide,by decide,by decide,by decide,by decide,(fun s hs=>by unfold Vf at hs;(repeat' split at hs)<;>first | (exfalso;omega) | (cases hs;done) | (cases hs;rfl))⟩)
 refine Bp<|.R ?_
 exact .ret (Ep Dy ⟨0,0,0,0,0⟩ ⟨by decide,by decide,by decide,by decide,by decide,by decide,by decide,by decide,by decide,by decide,(fun s hs=>by unfold Vf at hs;(repeat' split at hs)<;>first | (exfalso;omega) | (cases hs;done))⟩)
def Ed (k:Int):Nn:=(Em (Jz k)).choose
theorem J1 (k:Int):PP 76 [] [.li k] [] (.agg ((Ed k).a false)):=(Em (Jz k)).choose_spec.1
theorem J4 (k:Int):0<=(Ed k).fix/\(Ed k).fix<=4/\0<=(Ed k).grp/\(Ed k).grp<=4/\0<=(Ed k).lea/\(Ed k).lea<=1/\0<=(Ed k).mos/\(Ed k).mos<=100 /\ -1<=(Ed k).dat/\(Ed k).dat<=10/\∀s,Vf k=some s->(Ed k)=⟨s.fix,s.grp,s.lea,s.mos,s.dat⟩:=(Em (Jz k)).choose_spec.2
def viR (l:List Int):Prop:=∀a∈l,0<=a/\a<=4294967295
section
variable (m:D0) (h1:m.tok.length<=10000) (h2:m.args.length<=10000) (h3:m.data.length<=10000)
include h1 h2 h3
theorem Hb:Ct 78 [m.g] (fun d:List Int=>.mY d) (fun d=>(By m.tok->By m.data->By d)/\(viR m.args->(0<(Ed m.kind).grp->(Ed m.kind).fix<=m.args.length)->d.length=m.tok.length+Yk m.args+(if 0<(Ed m.kind).grp then 1 else 0)+m.data.length)):=by
 refine Er Tryz.func78 ?_
 have hv:=J1 m.kind
 have hq0:=J4 m.kind
 generalize Ed m.kind=S at hv hq0 ⊢
 refine B3 (fun K kk=>by simp[go_sem,Af,Ba,A7];exact kk) ?_
 refine B3 (fun K kk=>by simp[go_sem,Af,Ba,A7];refine .l (hv) ?_;simp[go_sem,Af,Ba,A7];exact kk) ?_
 refine B3 (fun K kk=>by simp[go_sem,Af,Ba,A7];repeat first | exact kk | refine aK ?_)<|.seq ?_
 refine B3 (fun K kk=>by simp[go_sem,Af,Ba,A7];exact kk)<|.block ?_
 refine Bs m.args.length (fun i1 (y1:(List Int))=>⟨[(1,.ptr 0 0),(3,.ptr 1 0),(4,.own 2 y1.length),(16,.mI m.args),(17,.li m.args.length),(18,.li i1)],[.box 56 (m.a false),.box 177 [.li S.fix,.li S.grp,.li S.lea,.li S.mos,.li S.dat],.row 5 1 false false (tY y1)]⟩) (fun i1 y1=>y1.length<=m.tok.length+6*i1/\(By m.tok->By y1)/\(viR m.args->y1.length=m.tok.length+Yk (m.args.take i1)+if 0<S.grp/\S.fix<i1 then 1 else 0)) (m.tok) (wk Dy [0,1,2]) (⟨by simp,fun h=>h,fun _=>by rw[if_neg (by omega)];simp[Yk]⟩) fun i1 y1 hi1 hy1=>?_
 refine B3 (fun K kk=>by simp[go_sem,Af,Ba,A7];exact kk)<|.seq ?_
 refine Br ?_ ?_<;>intro h19
 ·refine Bp<|.seq<|.block ?_
  obtain⟨e1,H1⟩:=gx m.args i1
  refine B3 (fun K kk=>by simp[go_sem,Af,Ba,A7,H1];repeat first | exact kk | refine aK ?_)<|.seq ?_
  refine B3 (fun K kk=>by simp[go_sem,Af,Ba,A7,H1];exact kk) ?_
  refine Br ?_ ?_<;>intro h31
  ·refine Cg (fun K kk=>by simp[go_sem,Af,Ba,A7,H1];repeat first | exact kk | refine aK ?_) ?_
   have he:=fun n=>Eg n
   obtain⟨Y1,cY1,qY1⟩:=Em (Hf e1)
   refine B3 (fun K kk=>by simp[go_sem,Af,Ba,A7,H1];refine .l cY1 ?_;simp[go_sem,Af,Ba,A7,H1];exact kk) ?_
   refine C4 (by rfl) fun K1 hK1=>?_
   simp[go_sem,Af,Ba,A7,H1]
   repeat' with_reducible refine Ax ?_ ?_
   all_goals try (intros;(repeat' refine Ax ?_ ?_)<;>omega)
   all_goals try ((try have q1:=qY1);(try have q2:=Eg e2);(try have q3:=Eg e3);(try have q4:=Eg e4);omega)
   refine hK1 _ ?_;clear hK1
   refine Cg (fun K kk=>by simp[go_sem,Af,Ba,A7,H1];exact kk) ?_
   refine⟨by omega,((y1++([IntKind.u8.wrap (IntKind.i64.wrap (Int.tdiv (IntKind.i64.wrap (m.args.length - S.fix)) S.grp))]))++(Y1.1)),?_,wQ [0,1,2] ?_ ?_⟩
   ·refine⟨?_,(fun h=>by first | exact hy1.2.1 h | exact ((hy1.2.1 h).app (W8 _)).app qY1.2.1),fun hr=>(by have h9:=hy1.2.2 hr;(rw[Ahz H1];have h8:=qY1.2.2 (hr e1 (Ac H1)).1 (hr e1 (Ac H1)).2;simp only[Bo,A6,List.length_nil];split at h9<;>split<;>omega))⟩;simp only[Bo,A6,List.length_nil];(try have q1:=qY1);(try have q2:=Eg e2);(try have q3:=Eg e3);(try have q4:=Eg e4);omega
   all_goals simp[go_sem,Dw ((i1:Int)+1),H1,Af,Ba,A7]
  refine Bp ?_
  have he:=fun n=>Eg n
  obtain⟨Y2,cY2,qY2⟩:=Em (Hf e1)
  refine B3 (fun K kk=>by simp[go_sem,Af,Ba,A7,H1];refine .l cY2 ?_;simp[go_sem,Af,Ba,A7,H1];exact kk) ?_
  refine C4 (by rfl) fun K1 hK1=>?_
  simp[go_sem,Af,Ba,A7,H1]
  repeat' with_reducible refine Ax ?_ ?_
  all_goals try (intros;(repeat' refine Ax ?_ ?_)<;>omega)
  all_goals try ((try have q1:=qY2);(try have q2:=Eg e2);(try have q3:=Eg e3);(try have q4:=Eg e4);omega)
  refine hK1 _ ?_;clear hK1
  refine Cg (fun K kk=>by simp[go_sem,Af,Ba,A7,H1];exact kk) ?_
  refine⟨by omega,(y1++(Y2.1)),?_,wQ [0,1,2] ?_ ?_⟩
  ·refine⟨?_,(fun h=>by first | exact hy1.2.1 h | exact ((hy1.2.1 h).app (W8 _)).app qY2.2.1 | exact (hy1.2.1 h).app qY2.2.1),fun hr=>(by have h9:=hy1.2.2 hr;(rw[Ahz H1];have h8:=qY2.2.2 (hr e1 (Ac H1)).1 (hr e1 (Ac H1)).2;simp only[Bo,A6,List.length_nil];split at h9<;>split<;>omega))⟩;simp only[Bo,A6,List.length_nil];(try have q1:=qY2);(try have q2:=Eg e2);(try have q3:=Eg e3);(try have q4:=Eg e4);omega
  all_goals simp[go_sem,Dw ((i1:Int)+1),H1,Af,Ba,A7]
 refine Bt<|.seq<|.S (fun K kk=>by simp[go_sem,Af,Ba,A7];exact kk) ?_
 refine Br ?_ ?_<;>intro h64
 ·refine Cg (fun K kk=>by simp[go_sem,Af,Ba,A7];repeat first | exact kk | refine aK ?_) ?_
  refine B3 (fun K kk=>by simp[go_sem,Af,Ba,A7];repeat first | exact kk | refine aK ?_) ?_
  refine B2 Dy 2 ?_
  refine Bz (Fk ?_);simp[go_sem,Af,Ba,A7]
  exact⟨(y1++([0]))++m.data,by first | rfl | simp[go_sem],⟨fun h1 h2=>by exact ((hy1.2.1 h1).app (fun x hx=>by simp at hx;omega)).app h2,fun hr hf=>(by have h9:=hy1.2.2 hr;rw[Bf (by omega)] at h9;simp only[Bo,A6,List.length_nil];split at h9<;>split<;>omega)⟩⟩
 refine Bp<|.S (fun K kk=>by simp[go_sem,Af,Ba,A7];repeat first | exact kk | refine aK ?_) ?_
 refine B2 Dy 2 ?_
 refine Bz (Fk ?_);simp[go_sem,Af,Ba,A7]
 exact⟨y1++m.data,by first | rfl | simp[go_sem],⟨fun h1 h2=>by first | exact ((hy1.2.1 h1).app (fun x hx=>by simp at hx;omega)).app h2 | exact (hy1.2.1 h1).app h2,fun hr hf=>(by have h9:=hy1.2.2 hr;rw[Bf (by omega)] at h9;simp only[Bo,A6,List.length_nil];split at h9<;>split<;>omega)⟩⟩
def Fz:List Int:=(Em (Hb m h1 h2 h3)).choose
theorem Kh:PP 78 [] [m.g] [] (.mY (Fz m h1 h2 h3)):=(Em (Hb m h1 h2 h3)).choose_spec.1
theorem Qe:(By m.tok->By m.data->By (Fz m h1 h2 h3))/\(viR m.args->(0<(Ed m.kind).grp->(Ed m.kind).fix<=m.args.length)->(Fz m h1 h2 h3).length=m.tok.length+Yk m.args+(if 0<(Ed m.kind).grp then 1 else 0)+m.data.length):=(Em (Hb m h1 h2 h3)).choose_spec.2
end
section
variable (l:List Int) (x:Int) (h:l.length<=1000000)
include x h
theorem Tz:Ct 248 [.mI l,.li x] (fun d:Int=>.li d) (fun d=>0<=d->x∈l):=by
 refine Er Tryz.func248 ?_
 refine Bq<|.seq ?_
 refine Bq<|.block ?_
 refine Bs l.length (fun i1 (y1:Unit)=>⟨[(0,.mI l),(1,.li x),(7,.li l.length),(8,.li i1)],[]⟩) (fun i1 y1=>True) () (wk Dy []) (trivial) fun i1 y1 hi1 hy1=>?_
 refine Bq<|.seq ?_
 refine Br ?_ ?_<;>intro h9
 ·refine Bp<|.seq<|.block<|.R ?_
  obtain⟨e1,H1⟩:=gx l i1
  refine Bu H1 ?_
  refine Br ?_ ?_<;>intro h16
  ·refine Bu H1 ?_
   exact .ret (Ep H1 i1 (by first | exact fun h=>absurd h (by decide) | exact fun _=>h16▸Ac H1))
  refine Bp<|.H1 H1 ?_
  exact⟨by omega,(),trivial,wk (Fa (Dw ((i1:Int)+1)) H1) []⟩
 refine Bt<|.R ?_
 exact .ret (Ep Dy (-1) (by exact fun h=>absurd h (by decide)))
def Ug:Int:=(Em (Tz l x h)).choose
theorem Ajo:PP 248 [] [.mI l,.li x] [] (.li (Ug l x h)):=(Em (Tz l x h)).choose_spec.1
theorem Aj9:0<=(Ug l x h)->x∈l:=(Em (Tz l x h)).choose_spec.2
theorem Ac3:Ct 223 [.mI l,.li x] (fun d:Bool=>.lb d) (fun d=>d=true->x∈l):=by
 refine Er Tryz.func223 ?_
 refine Bq ?_
 refine B8 Dy (Ajo l x (by assumption)) ?_
 exact .ret (Ep Dy (decide ((0:Int)<=(Ug l x (by assumption)))) (fun h2=>Aj9 l x h (by simpa using h2)))
end
theorem Xm (c:List Int) (l:List Int) (h:l.length<=1000000) (hc:c.length<=1000000):Ct 177 [.mI c,.mI l] (fun d:Bool=>.lb d) (fun d=>True):=by
 refine Er Tryz.func177 ?_
 refine Bq ?_
 refine VX.scope ?_
 refine Bq<|.seq ?_
 refine VX.label ?_
 refine Ca<|.R<|.block ?_
 refine Bs l.length (fun i1 (y1:Bool)=>⟨[(0,.mI c),(1,.mI l),(5,.lb y1),(10,.mI l),(11,.li l.length),(12,.li i1)],[]⟩) (fun i1 y1=>True) (false) (wk Dy []) (trivial) fun i1 y1 hi1 hy1=>?_
 refine Bq<|.seq ?_
 refine Br ?_ ?_<;>intro h13
 ·refine Bp<|.seq<|.block ?_
  obtain⟨e1,H1⟩:=gx l i1
  refine Bu H1<|.seq ?_
  obtain⟨Y1,cY1,qY1⟩:=Em (Sx e1)
  refine B8 H1 cY1 ?_
  refine Br ?_ ?_<;>intro h19
  ·refine Bt<|.H1 H1 ?_
   exact⟨by omega,(y1),trivial,wk (Fa (Dw ((i1:Int)+1)) H1) []⟩
  refine Bp<|.H H1<|.block ?_
  refine Bs l.length (fun i2 (y2:Bool)=>⟨[(0,.mI c),(1,.mI l),(5,.lb y2),(6,.li i1),(10,.mI l),(11,.li l.length),(12,.li i1),(20,.mI l),(21,.li l.length),(22,.li i2)],[]⟩) (fun i2 y2=>True) (y1) (wk H1 []) (trivial) fun i2 y2 hi2 hy2=>?_
  refine Bu H1<|.seq ?_
  refine Br ?_ ?_<;>intro h23
  ·refine Bp<|.seq<|.block ?_
   obtain⟨e2,H2⟩:=gx l i2
   refine Bu (Fa H1 H2) ?_
   refine B4 (by rfl) fun K1 hK1=>?_
   simp[go_sem,H1,H2]
   obtain⟨Y2,cY2,qY2⟩:=Em (Sx e2)
   refine .l cY2 ?_
   simp[go_sem,H1,H2]
   refine P3 ?_
   simp[go_sem,H1,H2]
   refine .lo (Ia c i1 i2 (by assumption)) rfl (by simp[AV.cln,Fb]) ?_
   simp[go_sem,H1,H2]
   refine hK1 _ ?_;clear hK1
   refine Br ?_ ?_<;>intro h34
   ·refine Bu (Fa H1 H2)<|.exit ?_
    refine Bu (Fa H1 H2) ?_
    exact .ret (Ep (Fa H1 H2) true trivial)
   refine Bp<|.H1 (Fa H1 H2) ?_
   exact⟨by omega,(y2),trivial,wk (Jb (Dw ((i2:Int)+1)) H1 H2) []⟩
  refine Bt<|.H1 H1 ?_
  exact⟨by omega,(y2),trivial,wk (Fa (Dw ((i1:Int)+1)) H1) []⟩
 refine Bt<|.R ?_
 exact .ret (Ep Dy y1 trivial)
section
variable {sl:List (Nat×AV)} {n m:Nat} {ob:List Ob}
section
variable {P:Program}
def Av2 {γ:Type} (M:Nat) (sl:List (Nat×AV)) (f:γ->List Ob) (I:γ->Prop) (K:Exit->St->Prop):Exit->St->Prop
 | .normal,s=>∃x',I x'/\Yb M s ⟨[],f x'⟩
 | .ret,s=>∃ob',Yb M s ⟨[],ob'⟩/\K .ret ⟨sl,ob'⟩
 | .exit id,s=>∃ob',Yb M s ⟨[],ob'⟩/\K (.exit id) ⟨sl,ob'⟩
 | .goto t,s=>∃ob',Yb M s ⟨[],ob'⟩/\K (.goto t) ⟨sl,ob'⟩
 | _,_=>False
theorem Jp.mono {k:Nat} {o:List Ob} {I I':Prop} {K K':Exit->St->Prop} (hI:I->I') (hK:∀e s,K e s->K' e s) {e:Exit} {s:St} (h:Jp k sl o I K e s):Jp k sl o I' K' e s:=by
 cases e with
 | normal=>exact⟨h.1,hI h.2⟩
 | ret=>obtain⟨ob,h1,h2⟩:=h;exact⟨ob,h1,hK _ _ h2⟩
 | exit id=>obtain⟨ob,h1,h2⟩:=h;exact⟨ob,h1,hK _ _ h2⟩
 | goto t=>obtain⟨ob,h1,h2⟩:=h;exact⟨ob,h1,hK _ _ h2⟩
 | _=>exact h
theorem Jp.jump {k:Nat} {o o':List Ob} {I:Prop} {K:Exit->St->Prop} {e:Exit} {s:St} (h:Jp k sl o False K e s):Jp k sl o' I K e s:=by
 cases e with
 | normal=>exact h.2.elim
 | _=>exact h
theorem VX.rangeFn {γ : Type} {K : Exit -> St -> Prop} {g : Tmp} {ps : List Tmp} {al : List Oper} {aid : Nat} {body : Code} {gf : FuncId} {caps : List AV} {items : List (List AV)} (hit : Yd P gf caps items) (f : γ -> List Ob) (M : Nat) (hM : ∀ x, (f x).length = M) (hg : Ez sl g = .fn gf caps) (hlive : ∀ x id, (St.mk sl (f x)).o id ≠ .gone -> ((St.mk sl (f x)).o id).live) (hps : ∀ p ∈ ps, p < n) (hal : Axn n al = true) (hcl : ∀ vs ∈ items, vs.length = ps.length /\ Nr (fun _ => none) vs = vs) (Inv : Nat -> γ -> Prop) (x0 : γ) (hI0 : Inv 0 x0) (hround : ∀ i vs x, items[i]? = some vs -> Inv i x -> VX P n M body (Aga al ⟨Sn ps vs sl, f x⟩) (Av2 M sl f (Inv (i + 1)) K)) (hdone : ∀ x, Inv items.length x -> K .normal ⟨sl, f x⟩) :
    VX P n m (.rangeFunc (.tmp g) ps.toArray (.region aid al.toArray false) body) ⟨sl,f x0⟩ K:=by
  have key : ∀ (k i : Nat) (x : γ), i + k = items.length -> Inv i x -> ∃ e s, K e s /\ ∃ (xs : Nat -> γ) (stop : Nat), xs i = x /\ i <= stop /\ stop <= items.length /\
      (∀j vs,i<=j->j<stop->items[j]? = some vs->VW P n M body (Aga al ⟨Sn ps vs sl,f (xs j)⟩) (Jp M sl (f (xs (j+1))) True fun _ _=>False)) /\
      (stop=items.length->e=.normal/\s=⟨sl,f (xs stop)⟩)/\(∀vs,items[stop]? = some vs->VW P n M body (Aga al ⟨Sn ps vs sl,f (xs stop)⟩) (Jp M sl [] False fun e' s'=>e'=e/\s'=s)):=by
    intro k
    induction k with
    | zero =>
      intro i x hi hI
      refine ⟨.normal, ⟨sl, f x⟩, hdone x (by have : i = items.length := by omega
                                              rw[<- this];exact hI),fun _=>x,i,rfl,Aj _,by omega,fun j vs h1 h2=>by omega,fun _=>⟨rfl,rfl⟩,fun vs h=>?_⟩
      have:=(Ab.1 h).1
      omega
    | succ k ih =>
      intro i x hi hI
      obtain⟨vs,hvs⟩:∃vs,items[i]? = some vs:=⟨_,Aa (by omega)⟩
      obtain⟨e1,s1,h1,h2⟩:=hround i vs x hvs hI
      have other : ∀ (e : Exit) (s : St), K e s -> Jp M sl [] False (fun e' s' => e' = e /\ s' = s) e1 s1 -> ∃ e s, K e s /\ ∃ (xs : Nat -> γ) (stop : Nat), xs i = x /\ i <= stop /\ stop <= items.length /\
          (∀j vs,i<=j->j<stop->items[j]? = some vs->VW P n M body (Aga al ⟨Sn ps vs sl,f (xs j)⟩) (Jp M sl (f (xs (j+1))) True fun _ _=>False)) /\
          (stop=items.length->e=.normal/\s=⟨sl,f (xs stop)⟩)/\(∀vs,items[stop]? = some vs->VW P n M body (Aga al ⟨Sn ps vs sl,f (xs stop)⟩) (Jp M sl [] False fun e' s'=>e'=e/\s'=s)):=by
        intro e s hK hR
        refine⟨e,s,hK,fun _=>x,i,rfl,Aj _,by omega,fun j vs h1 h2=>by omega,fun h=>by omega,fun vs' h=>?_⟩
        rw[hvs] at h
        injection h with h
        subst h
        refine h1.mono ?_
        rintro e' s' ⟨rfl,rfl⟩
        exact hR
      cases e1 with
      | normal =>
        obtain⟨x',h3,h4⟩:=h2
        obtain⟨e,s,hK,xs,stop,q1,q2,q3,q4,q5,q6⟩:=ih (i+1) x' (by omega) h3
        refine⟨e,s,hK,fun j=>if j=i then x else xs j,stop,if_pos rfl,by omega,q3,fun j vs' hj1 hj2 hjv=>?_,fun h=>?_,fun vs' h=>?_⟩
        · by_cases e0:j=i
          · subst e0
            rw[hvs] at hjv
            injection hjv with hjv
            subst hjv
            simp only[if_true]
            rw[if_neg (by omega),q1]
            refine h1.mono ?_
            rintro e' s' ⟨rfl,rfl⟩
            exact⟨h4,trivial⟩
          · simp only
            rw[if_neg e0,if_neg (by omega)]
            exact q4 j vs' (by omega) hj2 hjv
        · obtain⟨g1,g2⟩:=q5 h
          exact⟨g1,by simp only;rw[if_neg (by omega)];exact g2⟩
        · simp only
          rw[if_neg (by omega)]
          exact q6 vs' h
      | ret=>obtain⟨ob,h3,h4⟩:=h2;exact other _ _ h4 ⟨ob,h3,rfl,rfl⟩
      | exit id=>obtain⟨ob,h3,h4⟩:=h2;exact other _ _ h4 ⟨ob,h3,rfl,rfl⟩
      | goto t=>obtain⟨ob,h3,h4⟩:=h2;exact other _ _ h4 ⟨ob,h3,rfl,rfl⟩
      | panic ch=>exact h2.elim
      | outgrown=>exact h2.elim
  obtain⟨e,s,hK,xs,stop,q1,q2,q3,q4,q5,q6⟩:=key items.length 0 x0 (by omega) hI0
  refine⟨e,s,?_,hK⟩
  have:=VW.rangeFn (m:=m) (K:=fun e' s'=>e'=e/\s'=s) (body:=body) (al:=al) (aid:=aid) (ps:=ps) (n:=n) (sl:=sl) (g:=g) hit (fun j=>f (xs j)) hg (fun j id=>hlive (xs j) id) hps hal hcl (fun j=>j<=stop) (Ae _) (fun j vs hj hI=>?_) (fun hI=>?_)
  · simp only[q1] at this
    exact this
  · rw[hM]
    by_cases e0:j=stop
    · subst e0
      exact (q6 vs hj).mono fun e' s' h=>h.jump
    · exact (q4 j vs (Ae _) (by omega) hj).mono fun e' s' h=>h.mono (fun _=>by omega) fun _ _ h=>h.elim
  · have hs:stop=items.length:=by omega
    obtain⟨g1,g2⟩:=q5 hs
    rw[hs] at g2
    exact⟨g1.symm,g2.symm⟩
abbrev Dl:=@VX.rangeFn
def St.dull (st:St) (id:Nat):St:=st.set id (.row (Z2 (st.o id)) (Sl (st.o id)) false (Ari (st.o id)) (K5 (st.o id)))
theorem VX.dull {st:St} {K:Exit->St->Prop} {c:Code} (id:Nat) (h:F5 (st.o id)=true) (hv:VX P n m c (st.dull id) K):VX P n m c st K:=by
 obtain⟨e,s,h1,h2⟩:=hv
 refine⟨e,s,fun E F hE hF β a w r=>h1 E F hE hF β a w ?_,h2⟩
 unfold St.dull
 cases hq:st.o id with
 | row ty k fr fz es=>exact (r.flag hq (fun e=>by cases e) fun e=>e).1
 | _=>rw[hq] at h;exact absurd h (by simp[F5])
abbrev Cv:=@VX.dull
theorem Axr {id:Nat}:(St.mk sl ob).dull id=St.mk sl (O7 ob id (.row (Z2 (ob.getD id .gone)) (Sl (ob.getD id .gone)) false (Ari (ob.getD id .gone)) (K5 (ob.getD id .gone)))):=rfl
attribute [go_sem] Axr
theorem Aj2 {m:Nat} {rs:List ResultVar} {σr:List Ob} {res:AV} (sel:List Nat) (hc:Vk P ⟨sl,ob⟩ rs) (hnd:sel.Nodup) (hm:∀id,id<m->sel[id]? = some id) (h:((Kt P ⟨sl,ob⟩ rs).ren fun id=>Ms id sel 0).low=res) (ho:OL (fun i=>ob.getD i .gone) (fun id=>Ms id sel 0) sel σr):Re P m rs σr res .normal ⟨sl,ob⟩ :=
 ⟨.inl rfl,hc,sel,El hnd (.cons (by rw[<- h];exact Le.low _) .nil) ho,hm⟩
end
end
section
def Jl (r:Int):List F4->Nat->List Int
 | [],_=>[]
 | p::l,i=>if p.ring=r then (i:Int)::Jl r l (i+1) else Jl r l (i+1)
def Aih (l:List F4) (r:Int):List Int:=Jl r l 0
theorem Afi (r:Int):∀(l1 l2:List F4) (i:Nat),Jl r (l1++l2) i=Jl r l1 i++Jl r l2 (i+l1.length)
 | [],l2,i=>by simp[Jl]
 | p::l1,l2,i=>by
  simp only[List.cons_append,Jl,A6,Afi r l1 l2 (i+1)]
  rw[show i+1+l1.length=i+(l1.length+1) by omega]
  split<;>rfl
theorem Y0 (r:Int):∀(l:List F4) (i:Nat) (x:Int),x∈Jl r l i->(i:Int)<=x/\x<i+l.length
 | [],i,x,h=>by simp[Jl] at h
 | p::l,i,x,h=>by
  unfold Jl at h
  split at h
  ·rcases List.mem_cons.1 h with rfl | h
   ·simp only[A6];omega
   have:=Y0 r l (i+1) x h;simp only[A6];omega
  have:=Y0 r l (i+1) x h;simp only[A6];omega
variable {l:List F4}
theorem Abe {r x:Int} (h:x∈Aih l r):0<=x/\x<l.length:=by
 have:=Y0 r l 0 x h
 omega
def rgN (l:List F4) (r:Int) (k:Nat):Nat:=(Jl r (l.take k) 0).length
variable {r:Int} {k:Nat} {p:F4}
theorem Aqf (h:l[k]? = some p):Jl r l 0=Jl r (l.take k) 0++((if p.ring=r then [(k:Int)] else [])++Jl r (l.drop (k+1)) (k+1)):=by
 have hk:=(Ab.1 h).1
 have e:l=l.take k++p::l.drop (k+1):=by
  have h1:=List.take_append_drop k l
  rw[List.drop_eq_getElem_cons hk,(Ab.1 h).2] at h1
  exact h1.symm
 have e2:Jl r l 0=Jl r (l.take k++p::l.drop (k+1)) 0:=congrArg (fun l=>Jl r l 0) e
 rw[e2,Afi,Jl]
 have hl:(l.take k).length=k:=by rw[A5];omega
 rw[hl,Bm]
 congr 1
 split<;>rfl
theorem Amg (h:l[k]? = some p):rgN l r (k+1)=rgN l r k+if p.ring=r then 1 else 0:=by
 have hk:=(Ab.1 h).1
 unfold rgN
 have h2:(l.take (k+1))[k]? = some p:=by rw[Ag (by omega)];exact h
 rw[Aqf h2,List.take_take,Nat.min_eq_left (by omega)]
 have h3:(l.take (k+1)).drop (k+1)=[]:=List.drop_of_length_le (by rw[A5];omega)
 rw[h3]
 simp only[Jl,List.append_nil,Bo]
 split<;>rfl
theorem Aym (h:l[k]? = some p) (hp:p.ring=r):(Aih l r)[rgN l r k]? = some (k:Int):=by
 unfold Aih rgN
 rw[Aqf h,if_pos hp,Ao (Aj _),Nat.sub_self]
 rfl
theorem Aww (l:List F4) (r:Int) (h:l.length<=k):rgN l r k=(Aih l r).length:=by
 unfold rgN Aih
 rw[Bf h]
theorem V2 (j:Ga) (r:Int) (h:j.phs.length<=1000000):Yd Tryz.prog 182 [.iptr false [.sl 8 (Q3 j.phs),.sl 1 (tI j.con),.li j.start] 0,.iptr false [.li r] 0] ((Aih j.phs r).map fun a=>[.li a]):=by
 refine Aeb Tryz.func182 rfl rfl rfl (by simp[Tryz.ntmps182]) rfl fun yl=>?_
 refine B9 (by rfl) fun K1 hK1=>?_
 simp[go_sem]
 refine hK1 _ ?_;clear hK1
 refine Cy ?_
 refine Dp j.phs.length (fun k=>⟨[(0,.lit (.func (.yield yl) #[] #[])),(2,.iptr false [.li r] 0),(7,.mPhase j.phs),(8,.li j.phs.length),(9,.li k)],[]⟩) (fun k=>rgN j.phs r k)
  (fun k=>True) (wQ [] ?_ ?_) ⟨rfl,rfl,trivial⟩ fun k hk _=>?_
 ·simp[go_sem]
 ·simp[go_sem]
 refine B9 (by rfl) fun K1 hK1=>?_
 simp[go_sem]
 refine hK1 _ ?_;clear hK1
 refine C3 ?_
 refine VI.Q ?_ ?_<;>intro h10
 ·refine De ?_
  refine C3 ?_
  refine Cy ?_
  obtain⟨e1,hx⟩:∃e,j.phs[k]? = some e:=⟨_,Aa (by omega)⟩
  refine B9 (by rfl) fun K1 hK1=>?_
  simp[go_sem,hx]
  repeat' with_reducible refine Ax ?_ ?_
  all_goals try (intros;(repeat' refine Ax ?_ ?_)<;>omega)
  refine hK1 _ ?_;clear hK1
  refine C3 (Dt ?_)
  refine Ut.first 7 (by rfl) fun K1 hK1=>?_
  by_cases hr:e1.ring=r
  ·have hit:=Aym hx hr
   have hnx:=Amg (r:=r) hx
   rw[if_pos hr] at hnx
   simp[go_sem,hr]
   refine hK1 _ ?_;clear hK1
   refine Ut.yield (vs:=[.li k]) (by simp[go_sem]) (by simp[go_sem]) (by decide) (by simp[go_sem]) (by simp[go_sem]) (by simp[go_sem]) (by simp[hit]) (by simp[go_sem]) rfl fun b=>?_
   refine Ut.rest (by rfl) fun K1 hK1=>?_
   cases b with
   | true =>
    simp[go_sem]
    refine hK1 _ ?_;clear hK1
    refine C5 (by simp[go_sem]) (by simp[go_sem]) (fun h17=>?_) (fun h17=>?_)<;>simp[go_sem] at h17
    exact VI.ret ⟨.inr rfl,fun h=>by cases h⟩
   | false =>
    simp[go_sem]
    refine hK1 _ ?_;clear hK1
    refine C5 (by simp[go_sem]) (by simp[go_sem]) (fun h17=>?_) (fun h17=>?_)<;>simp[go_sem] at h17
    refine De ?_
    refine Cs (by rfl) fun K1 hK1=>?_
    simp[go_sem]
    refine hK1 _ ?_;clear hK1
    refine⟨by omega,hnx.symm,rfl,trivial,wQ [] ?_ ?_⟩
    ·simp[go_sem,Dw ((k:Int)+1)]
    simp[go_sem]
  have hnx:=Amg (r:=r) hx
  rw[if_neg hr,Nat.add_zero] at hnx
  have hrb:(e1.ring == r)=false:=by simpa using hr
  simp[go_sem,hrb]
  refine hK1 _ ?_;clear hK1
  refine Ut.noyield (d:=21) rfl (by simp[go_sem]) (by simp[go_sem]) (by decide) ?_
  refine Ut.rest (by rfl) fun K1 hK1=>?_
  simp[go_sem,hrb]
  refine hK1 _ ?_;clear hK1
  refine C5 (by simp[go_sem]) (by simp[go_sem]) (fun h17=>?_) (fun h17=>?_)<;>simp[go_sem] at h17
  refine De ?_
  refine Cs (by rfl) fun K1 hK1=>?_
  simp[go_sem]
  refine hK1 _ ?_;clear hK1
  refine⟨by omega,hnx.symm,rfl,trivial,wQ [] ?_ ?_⟩
  ·simp[go_sem,Dw ((k:Int)+1)]
  simp[go_sem]
 refine VI.exit ?_
 exact⟨.inl rfl,fun _=>by rw[Aww _ _ (by omega)];simp⟩
theorem Sh (j:Ga) (r:Int):PP 164 [] [.agg (Ga.a false j),.li r] [] (.fn 182 [.iptr false [.sl 8 (Q3 j.phs),.sl 1 (tI j.con),.li j.start] 0,.iptr false [.li r] 0]):=by
 refine Ey.boxes (σr:=[.box 88 (j.a false),.box 3 [.li r]]) (res:=.fn 182 [.ptr 0 0,.ptr 1 0]) ?_ (by simp[go_sem,St.o])
 refine Ei Tryz.func164 ?_
 iterate 2 refine Bw ?_
 exact .ret (rW Dy [0,1])
end
theorem Acg {l:List F6}:∀(n:Nat) (s x:Int),x∈Q1 l n s->Im l x=true
 | 0,s,x,h=>by simp[Q1] at h
 | n+1,s,x,h=>by
  unfold Q1 at h
  split at h
  ·rename_i hu
   rcases List.mem_cons.1 h with rfl | h
   ·exact hu
   exact Acg n _ x h
  cases h
theorem Aoj {l:List F6} {s x:Int} (h:x∈Vb l s):Im l x=true:=Acg 8 s x h
theorem N4 (j:Ga) (r:Int) (g:Int) (f:Int) (h:j.phs.length<=1000000):Ct 144 [j.g,.li r,.li g,.li f] (fun d:Int=>.li d) (fun d=>d = -1\/(0<=d/\d<j.phs.length)):=by
 refine Er Tryz.func144 ?_
 refine Bq<|.seq ?_
 refine B8 Dy (Sh j r)<|.block ?_
 refine Cz (s':=⟨[(4,.ptr 0 0),(6,.ptr 1 0),(7,.ptr 2 0),(8,.ptr 3 0),(12,.fn 182 [.iptr false [.sl 8 (Q3 j.phs),.sl 1 (tI j.con),.li j.start] 0,.iptr false [.li r] 0])],(fun (y1:Int)=>[.box 88 (j.a false),.box 3 [.li g],.box 3 [.li f],.box 3 [.li y1]]) (0)⟩) (wQ [0,1,2,3] ?_ ?_) ?_
 ·simp[go_sem]
 ·simp[go_sem]
 refine Dl (V2 j r h) (fun (y1:Int)=>[.box 88 (j.a false),.box 3 [.li g],.box 3 [.li f],.box 3 [.li y1]]) 4 (fun _=>rfl) (by rfl) (fun _=>Qf rfl) (by decide) (by rfl) ?_ (fun j1 y1=>True) (0) (trivial) (fun j1 vs y1 hj1 hy1=>?_) (fun y1 hy1=>?_)
 ·intro vs hvs
  obtain⟨a,_,rfl⟩:=A4.1 hvs
  simp[go_sem]
 ·
  obtain⟨a1,ha1,rfl⟩:=Ee hj1
  have hm:=Abe (Ac ha1)
  refine Db ?_
  obtain⟨e1,H1⟩:=gx j.phs a1.toNat
  refine C9 H1 ?_
  refine Br ?_ ?_<;>intro h26
  ·refine Bu H1 ?_
   refine Bz ⟨[.box 88 (j.a false),.box 3 [.li g],.box 3 [.li f],.box 3 [.li a1]],⟨[0,1,2,3],El (by decide) ?_ ?_,Fv rfl⟩,?_⟩
   ·simp[go_sem]
   ·simp[go_sem,H1]
   refine (At7 (by simp[go_sem]) ?_)
   simp[go_sem,H1]
   exact⟨a1,by rfl,(by first | exact .inl rfl | exact .inr hm)⟩
  refine Bp ?_
  refine⟨(y1),?_,⟨[0,1,2,3],El (by decide) ?_ ?_,Fv rfl⟩⟩
  ·trivial
  ·simp[go_sem]
  simp[go_sem,H1]
 -- done
 refine Bq ?_
 exact .ret (Ep Dy (-1) (by exact .inl rfl))
theorem O2 (j:Ga) (c:No) (r:Int) (h:j.phs.length<=1000000) (hl:c.lights.length=j.phs.length):Ct 226 [j.g,c.g,.li r] (fun d:Bool=>.lb d) (fun d=>True):=by
 refine Er Tryz.func226 ?_
 refine Bq<|.seq ?_
 refine B8 Dy (Sh j r)<|.block ?_
 refine Cz (s':=⟨[(4,.ptr 0 0),(6,.ptr 1 0),(10,.fn 182 [.iptr false [.sl 8 (Q3 j.phs),.sl 1 (tI j.con),.li j.start] 0,.iptr false [.li r] 0])],(fun (y1:Bool)=>[.box 133 (c.a false),.box 4 [.lb y1]]) (false)⟩) (wQ [1,2] ?_ ?_) ?_
 ·simp[go_sem]
 ·simp[go_sem]
 refine Dl (V2 j r h) (fun (y1:Bool)=>[.box 133 (c.a false),.box 4 [.lb y1]]) 2 (fun _=>rfl) (by rfl) (fun _=>Qf rfl) (by decide) (by rfl) ?_ (fun j1 y1=>True) (false) (trivial) (fun j1 vs y1 hj1 hy1=>?_) (fun y1 hy1=>?_)
 ·intro vs hvs
  obtain⟨a,_,rfl⟩:=A4.1 hvs
  simp[go_sem]
 ·
  obtain⟨a1,ha1,rfl⟩:=Ee hj1
  have hm:=Abe (Ac ha1)
  refine Db ?_
  obtain⟨e1,H1⟩:=gx c.lights a1.toNat
  refine Bu H1 ?_
  refine Br ?_ ?_<;>intro h18
  ·refine Bu H1 ?_
   refine Bz ⟨[.box 133 (c.a false),.box 4 [.lb false]],⟨[0,1],El (by decide) ?_ ?_,Fv rfl⟩,?_⟩
   ·simp[go_sem]
   ·simp[go_sem,H1]
   refine (At7 (by simp[go_sem]) ?_)
   simp[go_sem,H1]
   exact⟨false,by rfl,trivial⟩
  refine Bp ?_
  refine⟨(y1),?_,⟨[0,1],El (by decide) ?_ ?_,Fv rfl⟩⟩
  ·trivial
  ·simp[go_sem]
  simp[go_sem,H1]
 -- done
 refine Bq ?_
 exact .ret (Ep Dy true trivial)
theorem Sw (j:Ga) (c:No) (r:Int) (t:Int) (h:j.phs.length<=1000000) (hn:c.nxt.length=2) (hr:0<=r/\r<2) (hc:j.con.length<=1000000):Ct 227 [j.g,c.g,.li r,.li t] (fun d:Int=>.li d) (fun d=>d = -1\/(0<=d/\d<j.phs.length)):=by
 refine Er Tryz.func227 ?_
 refine Bq ?_
 refine Bq<|.seq ?_
 refine B8 Dy (Sh j r)<|.block ?_
 refine Cz (s':=⟨[(4,.ptr 0 0),(5,.ptr 1 0),(6,.ptr 2 0),(7,.ptr 3 0),(8,.ptr 4 0),(9,.ptr 5 0),(13,.fn 182 [.iptr false [.sl 8 (Q3 j.phs),.sl 1 (tI j.con),.li j.start] 0,.iptr false [.li r] 0])],(fun (y1:Int×Int)=>[.box 88 (j.a false),.box 133 (c.a false),.box 3 [.li r],.box 3 [.li t],.box 3 [.li y1.1],.box 3 [.li y1.2]]) (0,(-1))⟩) (wQ [0,1,2,3,4,5] ?_ ?_) ?_
 ·simp[go_sem]
 ·simp[go_sem]
 refine Dl (V2 j r h) (fun (y1:Int×Int)=>[.box 88 (j.a false),.box 133 (c.a false),.box 3 [.li r],.box 3 [.li t],.box 3 [.li y1.1],.box 3 [.li y1.2]]) 6 (fun _=>rfl) (by rfl) (fun _=>Qf rfl) (by decide) (by rfl) ?_ (fun j1 y1=>y1.2 = -1\/(0<=y1.2/\y1.2<j.phs.length)) (0,(-1)) (.inl rfl) (fun j1 vs y1 hj1 hy1=>?_) (fun y1 hy1=>?_)
 ·intro vs hvs
  obtain⟨a,_,rfl⟩:=A4.1 hvs
  simp[go_sem]
 ·
  obtain⟨a1,ha1,rfl⟩:=Ee hj1
  have hm:=Abe (Ac ha1)
  refine Db<|.seq<|.L Dy (Ia j.con a1 t (by assumption)) ?_
  refine Br ?_ ?_<;>intro h19
  ·refine Bt ?_
   refine⟨(y1.1,y1.2),?_,⟨[0,1,2,3,4,5],El (by decide) ?_ ?_,Fv rfl⟩⟩
   ·exact hy1
   all_goals simp[go_sem]
  refine Bp<|.seq ?_
  obtain⟨e1,H1⟩:=gx c.nxt r.toNat
  refine Bu H1 ?_
  refine Br ?_ ?_<;>intro h34
  ·refine Bu H1 ?_
   refine Bz ⟨[.box 88 (j.a false),.box 133 (c.a false),.box 3 [.li r],.box 3 [.li t],.box 3 [.li a1],.box 3 [.li y1.2]],⟨[0,1,2,3,4,5],El (by decide) ?_ ?_,Fv rfl⟩,?_⟩
   ·simp[go_sem]
   ·simp[go_sem,H1]
   refine (At7 (by simp[go_sem]) ?_)
   simp[go_sem,H1]
   exact⟨a1,by rfl,(by first | exact .inl rfl | exact .inr hm)⟩
  refine Bp<|.H H1 ?_
  refine Br ?_ ?_<;>intro h37
  ·refine B0 H1 ?_
   refine⟨(y1.1,a1),?_,⟨[0,1,2,3,4,5],El (by decide) ?_ ?_,Fv rfl⟩⟩
   ·first | exact hy1 | exact .inr hm
   ·simp[go_sem]
   simp[go_sem,H1]
  refine Bp ?_
  refine⟨(y1.1,y1.2),?_,⟨[0,1,2,3,4,5],El (by decide) ?_ ?_,Fv rfl⟩⟩
  ·exact hy1
  ·simp[go_sem]
  simp[go_sem,H1]
 -- done
 refine Bq ?_
 exact .ret (Ep Dy y1.2 (by first | exact .inl rfl | exact .inr hm | exact hy1))
section
variable (l:List F6) (n:Int) (hl:l.length<=1000000) (ht:∀t∈l,t.sec.length<=1000000)
include n hl ht
theorem Qn:Ct 166 [.mTok l,.li n] (fun d:List F6=>.mTok d) (fun d=>d.length=l.length/\∀t∈d,t.sec.length<=1000000):=by
 refine Er Tryz.func166 ?_
 refine Bq ?_
 refine B8 Dy (Lu l hl ht)<|.seq ?_
 refine Bq<|.block ?_
 refine Bs l.length (fun i1 (y1:(List F6))=>⟨[(2,.ptr 0 0),(3,.ptr 1 0),(5,.ptr 3 0),(11,.li l.length),(12,.li i1)],[.box 61 [.mTok l],.box 3 [.li n],.row 73 6 false false (O5 y1),.box 61 [.own 2 y1.length]]⟩) (fun i1 y1=>y1.length=l.length/\∀t∈y1,t.sec.length<=1000000) (l) (wk Dy [0,1,2,3]) (⟨rfl,ht⟩) fun i1 y1 hi1 hy1=>?_
 refine Bq<|.seq ?_
 refine Br ?_ ?_<;>intro h13
 ·refine Bp<|.seq<|.block<|.R ?_
  refine B8 Dy (Rp l i1)<|.block ?_
  refine Cz (s':=⟨[(2,.ptr 0 0),(3,.ptr 1 0),(5,.ptr 3 0),(6,.ptr 4 0),(11,.li l.length),(12,.li i1),(17,.fn 206 [.iptr false [.li i1] 0,.iptr false [.sl 6 (O5 l)] 0])],(fun (y2:(List F6))=>[.box 61 [.mTok l],.box 3 [.li n],.row 73 6 false false (O5 y2),.box 61 [.own 2 y2.length],.box 3 [.li i1]]) (y1)⟩) (wQ [0,1,2,3,4] ?_ ?_) ?_
  ·simp[go_sem]
  ·simp[go_sem]
  refine Dl (V3 l i1) (fun (y2:(List F6))=>[.box 61 [.mTok l],.box 3 [.li n],.row 73 6 false false (O5 y2),.box 61 [.own 2 y2.length],.box 3 [.li i1]]) 5 (fun _=>rfl) (by rfl) (fun _=>Qf rfl) (by decide) (by rfl) ?_ (fun j2 y2=>y2.length=l.length/\∀t∈y2,t.sec.length<=1000000) (y1) (hy1) (fun j2 vs y2 hj2 hy2=>?_) (fun y2 hy2=>?_)
  ·intro vs hvs
   obtain⟨a,_,rfl⟩:=A4.1 hvs
   simp[go_sem]
  ·
   obtain⟨a2,ha2,rfl⟩:=Ee hj2
   obtain⟨hp0,tp,hp1,hp2⟩:=Q0 (Aoj (Ac ha2))
   have hp3:=(Ab.1 hp1).1
   refine Db ?_
   obtain⟨e1,H1⟩:=gx l a2.toNat
   refine Dd H1 (U2 e1 n) ?_
   refine Br ?_ ?_<;>intro h24
   ·obtain⟨e2,H2⟩:=gx y2 i1
    refine Dd (Fa H1 H2) (T5) ?_
    refine Bt ⟨[.box 61 [.mTok l],.box 3 [.li n],.row 73 6 false false (O5 ((y2).set i1 Uc)),.box 61 [.own 2 y2.length],.box 3 [.li i1]],⟨[0,1,2,3,4],El (by decide) ?_ ?_,Fv rfl⟩,?_⟩
    ·simp[go_sem]
    ·simp[go_sem,H1,H2]
    refine B0 (Fa H1 H2) ?_
    refine⟨by omega,((y2).set i1 Uc),?_,wk (Jb (Dw ((i1:Int)+1)) H1 H2) [0,1,2,3]⟩
    first | exact hy2 | exact⟨(List.length_set ..).trans hy2.1,M8 hy2.2 (by simp[Uc])⟩
   refine Bp ?_
   refine⟨(y2),?_,⟨[0,1,2,3,4],El (by decide) ?_ ?_,Fv rfl⟩⟩
   ·exact hy2
   ·simp[go_sem]
   simp[go_sem,H1]
  -- done
  refine Ci ?_
  refine⟨by omega,(y2),?_,wk (Dw ((i1:Int)+1)) [0,1,2,3]⟩
  exact hy2
 refine Bt<|.R ?_
 refine B2 Dy 2 ?_
 exact .ret (Ep Dy y1 hy1)
def Jm:List F6:=(Em (Qn l n hl ht)).choose
theorem Aet:PP 166 [] [.mTok l,.li n] [] (.mTok (Jm l n hl ht)):=(Em (Qn l n hl ht)).choose_spec.1
theorem Afl:(Jm l n hl ht).length=l.length/\∀t∈(Jm l n hl ht),t.sec.length<=1000000:=(Em (Qn l n hl ht)).choose_spec.2
end
structure Nv (j:Ga):Prop where
  len:j.phs.length<=1000000
  pos:1<=j.phs.length
  con:j.con.length<=1000000
  ring:∀p∈j.phs,0<=p.ring/\p.ring<2
  grp:∀p∈j.phs,0<=p.grp/\p.grp<=3
structure Sq (j:Ga) (l:List Int):Prop where
  len:l.length=2
  ok:∀x∈l,x = -1\/(0<=x/\x<j.phs.length)
theorem Sq.set {j:Ga} {l:List Int} (h:Sq j l) (i:Nat) {x:Int} (hx:x = -1\/(0<=x/\x<j.phs.length)):Sq j (l.set i x):=⟨by rw[List.length_set];exact h.len,fun y hy=>by
 rcases Bi hy with h1 | h1
 ·exact h.ok y h1
 subst h1;exact hx⟩
theorem Qq (j:Ga) (c:No) (g:Int) (hj:Nv j):Cx 113 [.box 133 [.own 1 c.lights.length,.li c.grp,.own 2 c.nxt.length,.li c.wt],.row 185 2 false false (Ij c.lights),.row 3 1 false false (tI c.nxt)] [j.g,.ptr 0 0,.li g] (fun d:No×(List Int)=>[.box 133 [.own 1 d.1.lights.length,.li d.1.grp,.own 3 d.1.nxt.length,.li d.1.wt],.row 185 2 false false (Ij d.1.lights),.row 3 1 false false (tI d.2),.row 3 1 false false (tI d.1.nxt)]) (fun d=>.tup []) (fun d=>d.1.lights=c.lights/\d.1.grp=g/\d.1.wt=c.wt/\Sq j d.1.nxt):=by
 refine Tj Tryz.func113 ?_
 iterate 2 refine Bq ?_
 refine Bu Dy ?_
 refine Bq<|.block ?_
 refine Bs 2 (fun i1 (y1:(List Fy)×(List Int)×(List Int))=>⟨[(1,.ptr 0 0),(2,.li g),(3,.ptr 3 0),(19,.li 2),(20,.li i1)],[.box 133 [.own 1 y1.1.length,.li g,.own 4 y1.2.2.length,.li c.wt],.row 185 2 false false (Ij y1.1),.row 3 1 false false (tI y1.2.1),.box 88 (j.a false),.row 3 1 false false (tI y1.2.2)]⟩) (fun i1 y1=>y1.1=c.lights/\Sq j y1.2.2) (c.lights,c.nxt,List.replicate 2 0) (wk Dy [0,1,2,3,4]) (⟨rfl,by simp,fun x hx=>by have:=hj.pos;simp at hx;omega⟩) fun i1 y1 hi1 hy1=>?_
 refine Bq<|.seq ?_
 refine Br ?_ ?_<;>intro h21
 ·refine Bp<|.seq<|.block<|.R ?_
  have hl2:=hy1.2.len
  obtain⟨e1,H1⟩:=gx y1.2.2 i1
  obtain⟨Y1,cY1,qY1⟩:=Em (N4 j i1 g 0 hj.len)
  refine Cp H1 cY1 ?_
  refine B0 H1 ?_
  refine⟨by omega,(y1.1,y1.2.1,(y1.2.2).set i1 Y1),?_,[0,1,2,3,4],El (by decide) ?_ ?_,Fv rfl⟩
  ·exact⟨hy1.1,hy1.2.set _ qY1⟩
  all_goals simp[go_sem,Dw ((i1:Int)+1),H1,hy1.2.len]
 refine Bt ?_
 refine⟨(⟨y1.1,g,y1.2.2,c.wt⟩,y1.2.1),Aj2 [0,1,2,4] (by simp[go_sem]) (by decide) (Fv rfl) (by simp[go_sem]) ?_,⟨hy1.1,rfl,rfl,hy1.2⟩⟩
 repeat' (first | exact .nil | refine .cons (by simp[go_sem]) ?_)
theorem Iy (j:Ga) (c:No) (p:Int) (hj:Nv j) (hl:c.lights.length=j.phs.length) (hn:Sq j c.nxt) (h0:0<=p) (h1:p<j.phs.length):Cx 228 [.box 133 [.own 1 c.lights.length,.li c.grp,.own 2 c.nxt.length,.li c.wt],.row 185 2 false false (Ij c.lights),.row 3 1 false false (tI c.nxt)] [j.g,.ptr 0 0,.li p] (fun d:No×Bool×(List Int)=>(bif d.2.1 then [.box 133 [.own 1 d.1.lights.length,.li d.1.grp,.own 3 d.1.nxt.length,.li d.1.wt],.row 185 2 false false (Ij d.1.lights),.row 3 1 false false (tI d.2.2),.row 3 1 false false (tI d.1.nxt)] else [.box 133 [.own 1 d.1.lights.length,.li d.1.grp,.own 2 d.1.nxt.length,.li d.1.wt],.row 185 2 false false (Ij d.1.lights),.row 3 1 false false (tI d.1.nxt)])) (fun d=>.tup []) (fun d=>d.1.lights.length=c.lights.length/\d.1.wt=c.wt/\Sq j d.1.nxt):=by
 refine Tj Tryz.func228 ?_
 have hjl:=hj.len
 have hjc:=hj.con
 have hnl:=hn.len
 refine Bq<|.seq ?_
 refine Bq<|.block ?_
 refine Bs c.lights.length (fun i1 (y1:Unit)=>⟨[(1,.ptr 0 0),(2,.li p),(3,.ptr 3 0),(12,.own 1 c.lights.length),(13,.li c.lights.length),(14,.li i1)],[.box 133 [.own 1 c.lights.length,.li c.grp,.own 2 c.nxt.length,.li c.wt],.row 185 2 false false (Ij c.lights),.row 3 1 false false (tI c.nxt),.box 88 (j.a false)]⟩) (fun i1 y1=>True) () (wk Dy [0,1,2,3]) (trivial) fun i1 y1 hi1 hy1=>?_
 refine Bq<|.seq ?_
 refine Br ?_ ?_<;>intro h15
 ·refine Bp<|.seq<|.block ?_
  obtain⟨e1,H1⟩:=gx c.lights i1
  refine Bu H1 ?_
  refine B4 (by rfl) fun K1 hK1=>?_
  simp[go_sem,H1]
  refine P3 ?_
  simp[go_sem,H1]
  refine .lo (Ia j.con p i1 (by assumption)) rfl (by simp[AV.cln,Fb]) ?_
  simp[go_sem,H1]
  refine hK1 _ ?_;clear hK1
  refine Br ?_ ?_<;>intro h28
  ·exact .ret ⟨(⟨c.lights,c.grp,c.nxt,c.wt⟩,false,[]),rW H1 [0,1,2],⟨rfl,rfl,hn⟩⟩
  refine Bp<|.H1 H1 ?_
  exact⟨by omega,(),trivial,wk (Fa (Dw ((i1:Int)+1)) H1) [0,1,2,3]⟩
 refine Bt ?_
 obtain⟨e2,H2⟩:=gx j.phs p.toNat
 refine Bu H2 ?_
 have hrg:=hj.ring e2 (Ac H2)
 obtain⟨e3,H3⟩:=gx c.lights p.toNat
 refine Bu (Fa H2 H3)<|.seq ?_
 refine C9 (Fa H2 H3) ?_
 refine Br ?_ ?_<;>intro h48
 ·obtain⟨N,hN,hqN⟩:=Qq j ⟨(c.lights).set p.toNat ⟨1,0⟩,c.grp,c.nxt,c.wt⟩ e2.grp hj
  refine C6 (Fa H2 H3) [0,1,2] hN ?_
  (try have hnl2:=hqN.2.2.2.len)
  have hw4:=Dw (p+1:Int)
  obtain⟨e5,H5⟩:=gx N.1.nxt e2.ring.toNat
  obtain⟨Y1,cY1,qY1⟩:=Em (N4 j e2.ring e2.grp (p+1) hj.len)
  refine Cp (P6 H2 H3 hw4 H5) cY1 ?_
  refine⟨(⟨N.1.lights,N.1.grp,(N.1.nxt).set e2.ring.toNat Y1,N.1.wt⟩,true,N.2),Aj2 [0,1,2,5] (by simp[go_sem]) (by decide) (Fv rfl) (by simp[go_sem,H2,H3,hw4,H5]) ?_,⟨by dsimp only;rw[hqN.1];simp,hqN.2.2.1,hqN.2.2.2.set _ qY1⟩⟩
  repeat' (first | exact .nil | refine .cons (by simp[go_sem,H2,H3,hw4,H5]) ?_)
 refine Bp ?_
 (try have hnl2:=hqN.2.2.2.len)
 have hw6:=Dw (p+1:Int)
 obtain⟨e7,H7⟩:=gx c.nxt e2.ring.toNat
 obtain⟨Y2,cY2,qY2⟩:=Em (N4 j e2.ring e2.grp (p+1) hj.len)
 refine Cp (P6 H2 H3 hw6 H7) cY2 ?_
 refine⟨(⟨(c.lights).set p.toNat ⟨1,0⟩,c.grp,(c.nxt).set e2.ring.toNat Y2,c.wt⟩,false,[]),Aj2 [0,1,2] (by simp[go_sem]) (by decide) (Fv rfl) (by simp[go_sem,H2,H3,hw6,H7]) ?_,⟨by simp,rfl,hn.set _ qY2⟩⟩
 repeat' (first | exact .nil | refine .cons (by simp[go_sem,H2,H3,hw6,H7]) ?_)
end Go.Proofs.YtkkimgjinbaemaaGreat
