/- The walk. -/
import Derived.Test.YtkkimgjinbaemaaGreatKai
noncomputable section
namespace Go.Proofs.YtkkimgjinbaemaaGreat
open Go.RowKit
set_option linter.unusedVariables false
set_option linter.unusedSimpArgs false
set_option linter.defProp false
set_option linter.unusedSectionVars false
set_option maxRecDepth 100000
set_option maxHeartbeats 4000000
section
theorem Aws:∀(n:Nat) {b s:List Int} {ps:List Pc} {g:Bool} (N u:Int) (l:List E8),BSt b s ps->b.length<=n->(l.length:Int)<N->∃u' g' l' s' k,N6 N (Aaj n b) u g l=(u',g',l')/\k<=ps.length/\BSt (b.drop (u' - u).toNat) s' (ps.drop k)/\u<=u'/\l.length<=l'.length/\vs s' g'+W7 (ps.drop k)+(l'.length - l.length)<=vs s g+W7 ps/\((l'.length:Int)=N\/(Eh (b.drop (u' - u).toNat)).2.2=false)
 | 0,b,s,ps,g,N,u,l,h,hn,hl=>by
  have hb:b=[]:=List.length_eq_zero_iff.1 (by omega)
  refine⟨u,g,l,s,0,rfl,Ae _,?_,Int.le_refl _,Aj _,by simp,.inr ?_⟩
  ·rw[Int.sub_self];exact h
  rw[hb,Int.sub_self];rfl
 | n+1,b,s,ps,g,N,u,l,h,hn,hl=>by
  by_cases hp:(Eh b).2.2=true
  ·obtain⟨s1,k1,h1,h2,h3⟩:=step h hp (g:=g)
   have hsz:=Ra h.by' hp
   have hnl:(I8 b).length<=n:=by unfold I8;rw[Bc];omega
   have hdr:∀v:Int,u+(Eh b).2.1<=v->(I8 b).drop (v - (u+(Eh b).2.1)).toNat=b.drop (v - u).toNat:=fun v hv=>by
    unfold I8
    rw[List.drop_drop]
    congr 1
    omega
   rw[Aaj,if_pos hp,N6]
   dsimp only
   by_cases hc:(Eh b).1.code=2/\g=true
   ·rw[if_pos hc]
    rw[if_pos hc] at h3
    have hg:gOf (Eh b).1.code=g:=by rw[hc.1,hc.2];rfl
    rw[hg] at h3
    obtain⟨u',g',l',s',k,e1,e2,e3,e4,e5,e6,e7⟩:=Aws n (g:=g) N (u+(Eh b).2.1) l h1 hnl hl
    rw[hdr u' e4] at e3 e7
    rw[List.drop_drop] at e3 e6
    rw[Bc] at e2
    exact⟨u',g',l',s',k1+k,e1,by omega,e3,by omega,e5,by omega,e7⟩
   rw[if_neg hc]
   rw[if_neg hc] at h3
   by_cases hN:N<=((l++[(Eh b).1]).length:Int)
   ·rw[if_pos hN]
    rw[Bo,List.length_singleton] at hN
    refine⟨_,_,_,s1,k1,rfl,h2,?_,by omega,by simp,?_,.inl ?_⟩
    ·have:=hdr _ (Int.le_refl _)
     rw[Int.sub_self] at this
     rw[<- this]
     exact h1
    ·rw[Bo,List.length_singleton]
     unfold gOf at h3
     omega
    rw[Bo,List.length_singleton]
    push_cast
    omega
   rw[if_neg hN]
   obtain⟨u',g',l',s',k,e1,e2,e3,e4,e5,e6,e7⟩:=Aws n (g:=gOf (Eh b).1.code) N (u+(Eh b).2.1) (l++[(Eh b).1]) h1 hnl (by omega)
   rw[hdr u' e4] at e3 e7
   rw[List.drop_drop] at e3 e6
   rw[Bc] at e2
   rw[Bo,List.length_singleton] at e5 e6
   exact⟨u',g',l',s',k1+k,e1,by omega,e3,by omega,by omega,by omega,e7⟩
  rw[Aaj,if_neg hp]
  refine⟨u,g,l,s,0,rfl,Ae _,?_,Int.le_refl _,Aj _,by simp,.inr ?_⟩
  ·rw[Int.sub_self];exact h
  rw[Int.sub_self];simpa using hp
variable {ps:List Pc}
theorem Alo {x:Nd} {d:Nd×List E8} (h:TkR 4 x d) {s:List Int} (hb:BSt x.buf s ps):∃s' k,k<=ps.length/\BSt d.1.buf s' (ps.drop k)/\vs s' d.1.gar+W7 (ps.drop k)+d.2.length<=vs s x.gar+W7 ps/\(d.2.length=4\/(Eh d.1.buf).2.2=false):=by
 obtain⟨u,h1,h2⟩:=h
 obtain⟨u',g',l',s',k,e1,e2,e3,e4,e5,e6,e7⟩:=Aws x.buf.length (g:=x.gar) 4 0 [] hb (Aj _) (by simp)
 rw[show Aaj x.buf.length x.buf=Kv x.buf from rfl,h1] at e1
 obtain⟨rfl,rfl,rfl⟩:u=u'/\d.1.gar=g'/\d.2=l':=by
  injection e1 with a b
  injection b with b c
  exact⟨a,b,c⟩
 rw[Int.sub_zero,<- h2] at e3 e7
 exact⟨s',k,e2,e3,by simpa using e6,e7.imp (fun h=>by omega) id⟩
theorem Axs {b:List Int} (h:(Eh b).2.2=false):b.length<6\/∃b2 b3 b4 b5 t,b=90::165::b2::b3::b4::b5::t/\b4*256+b5<=200/\(t.length:Int)<b4*256+b5+4:=by
 match b with
 | [] | [_] | [_,_] | [_,_,_] | [_,_,_,_] | [_,_,_,_,_]=>exact .inl (by simp)
 | b0::b1::b2::b3::b4::b5::t =>
  rw[Po] at h
  by_cases h1:b0≠90\/b1≠165
  ·rw[if_pos h1] at h;cases h
  rw[if_neg h1] at h
  by_cases h2:200<b4*256+b5
  ·rw[if_pos h2] at h;cases h
  rw[if_neg h2] at h
  by_cases h3:(t.length:Int)<b4*256+b5+4
  ·refine .inr ⟨b2,b3,b4,b5,t,?_,by omega,h3⟩
   have a0:b0=90:=by by_cases h:b0=90;exact h;exact absurd (.inl h) h1
   have a1:b1=165:=by by_cases h:b1=165;exact h;exact absurd (.inr h) h1
   rw[a0,a1]
  rw[if_neg h3] at h
  repeat' split at h
  all_goals cases h
theorem A7e {b s:List Int} (h:BSt b s ps) (hp:(Eh b).2.2=false):(s=[]/\b.length<100)\/b.length<=5:=by
 rcases Axs hp with hl | ⟨b2,b3,b4,b5,t,hb,hn,ht⟩
 ·exact .inr (by omega)
 have hbl:b.length=t.length+6:=by rw[hb];rfl
 have hF:=Ahl h.ok
 have hB:=h.by'
 rw[hb] at hB
 have h5:=hB b5 (by simp)
 have heq:=h.eq
 rw[hb] at heq
 match s with
 | x::r =>
  exfalso
  have hsf:Sf (x::r):=h.sf.elim (fun e=>by cases e) id
  injection heq with hx heq
  subst hx
  match r,hsf,heq with
  | [],hsf,heq =>
   have heq:165::b2::b3::b4::b5::t=Rb ps:=heq
   have:=hF.1 165 (by rw[<- heq];rfl)
   omega
  | y::r,hsf,heq =>
   have heq:165::b2::b3::b4::b5::t=y::(r++Rb ps):=heq
   injection heq with hy htl
   subst hy
   have hr:=hsf.head
   have e:(r++Rb ps)[2]? = some b4:=by rw[<- htl];rfl
   have h4:1<=b4:=by
    match r,hr with
    | [],_=>exact hF.2.2 _ e
    | [_],_=>have:=hF.2.1 _ e;omega
    | [_,_],_=>have:=hF.1 _ e;omega
    | _::_::_::_,hr=>simp at hr
   omega
 | [] =>
  refine .inl ⟨rfl,?_⟩
  rw[List.nil_append] at heq
  match ps with
  | []=>cases heq
  | d::ps =>
   have hok:∀x∈ps,Aaq x:=fun x hx=>h.ok x (List.mem_cons_of_mem _ hx)
   have hF:=Ahl hok
   rw[Kw] at heq
   obtain⟨f,hf,L,h1,h2,hd⟩:=(h.ok d (List.mem_cons_self ..)).pre
   obtain⟨k,u,he,hk⟩:=hf.hd
   have hfl:=hf.l2
   rw[hd,he] at heq
   match L,h1 with
   | 1,_ =>
    injection heq with _ heq
    have:=hF.1 165 (by have heq:165::b2::b3::b4::b5::t=Rb ps:=heq;rw[<- heq];rfl)
    omega
   | 2,_ =>
    injection heq with _ heq
    injection heq with _ heq
    have:=hF.2.2 b4 (by have heq:b2::b3::b4::b5::t=Rb ps:=heq;rw[<- heq];rfl)
    omega
   | 3,_ =>
    injection heq with _ heq
    injection heq with _ heq
    injection heq with _ heq
    have:=hF.2.1 b4 (by have heq:b3::b4::b5::t=Rb ps:=heq;rw[<- heq];rfl)
    omega
   | 4,_ =>
    injection heq with _ heq
    injection heq with _ heq
    injection heq with _ heq
    injection heq with _ heq
    have:=hF.1 b4 (by have heq:b4::b5::t=Rb ps:=heq;rw[<- heq];rfl)
    omega
   | 5,_ =>
    injection heq with _ heq
    injection heq with _ heq
    injection heq with _ heq
    injection heq with _ heq
    injection heq with h4 heq
    have:=hF.1 b5 (by have heq:b5::t=Rb ps:=heq;rw[<- heq];rfl)
    omega
   | L+6,_ =>
    injection heq with _ heq
    injection heq with _ heq
    injection heq with _ heq
    injection heq with _ heq
    injection heq with h4 heq
    injection heq with h5 heq
    omega
end
section
theorem Ame (a b:List Pc):Rb (a++b)=Rb a++Rb b:=by simp[Rb]
theorem Afe (a b:List Pc):W7 (a++b)=W7 a+W7 b:=by simp[W7]
theorem As4:∀{ps:List Pc},(∀d∈ps,Aaq d)->(Rb ps).length<=32*ps.length
 | [],_=>Ae _
 | d::ps,h=>by
  have h1:=(h d (List.mem_cons_self ..)).len
  have h2:=As4 (ps:=ps) fun x hx=>h x (List.mem_cons_of_mem _ hx)
  rw[Kw,Bo,A6]
  omega
variable {s:List Int}
theorem A1z (h:s=[]\/Sf s):s.length<=31:=by
 rcases h with rfl | h
 ·exact Ae _
 match s,h with
 | [],_=>exact Ae _
 | x::r,h =>
  obtain⟨f,hf,o,h1,h2,_⟩:=h.get (List.cons_ne_nil _ _)
  have:=hf.l2
  omega
variable {x:Nd} {d:Nd×List E8} {ps:List Pc}
theorem Ato (h:TkR 4 x d) (hb:BSt x.buf s ps) (hl:x.buf.length=256):∃s' k,k<=ps.length/\BSt d.1.buf s' (ps.drop k)/\vs s' d.1.gar+W7 (ps.drop k)+4<=vs s x.gar+W7 ps:=by
 obtain⟨s',k,h1,h2,h3,h4⟩:=Alo h hb
 refine⟨s',k,h1,h2,?_⟩
 rcases h4 with h4 | h4
 ·omega
 have hs:=A1z hb.sf
 have e1:=congrArg List.length hb.eq
 have e2:=congrArg List.length h2.eq
 rw[Bo] at e1 e2
 have e3:(Rb ps).length=(Rb (ps.take k)).length+(Rb (ps.drop k)).length:=by
  rw[<- Bo,<- Ame,List.take_append_drop]
 have e4:=As4 (ps:=ps.take k) fun x hx=>hb.ok x (Aq hx)
 rw[A5,Nat.min_eq_left h1] at e4
 have e5:=Af6 hb.ok k h1
 rcases A7e h2 h4 with⟨rfl,h5⟩ | h5
 ·rw[Z0]
  omega
 have:=Ar9 h2.sf d.1.gar
 omega
theorem Acg:∀{ps:List Pc},(∀d∈ps,Aaq d)->∃W a b:Nat,W7 ps=W+3*a+b/\20*W+5*a+b<=(Rb ps).length/\a+b=(ps.filterMap Pc.t).length
 | [],_=>⟨0,0,0,rfl,Aj _,rfl⟩
 | d::ps,h=>by
  obtain⟨W,a,b,h1,h2,h3⟩:=Acg (ps:=ps) fun x hx=>h x (List.mem_cons_of_mem _ hx)
  obtain⟨f,hf,⟨ht,hd,hw⟩ | ⟨ht,L,l1,l2,hd,hw⟩⟩:=h d (List.mem_cons_self ..)
  ·have:=hf.l1
   refine⟨W+1,a,b,by rw[Pz,hw,h1];omega,by rw[Kw,Bo,hd];omega,?_⟩
   rw[List.filterMap_cons,ht]
   exact h3
  obtain⟨t,ht⟩:=Option.isSome_iff_exists.1 ht
  have e:((d::ps).filterMap Pc.t).length=(ps.filterMap Pc.t).length+1:=by rw[List.filterMap_cons,ht];rfl
  have el:d.b.length=L:=by rw[hd,A5];omega
  rw[Kw,Bo,el,Pz,hw,e]
  by_cases hL:L<=4
  ·rw[if_pos hL]
   exact⟨W,a,b+1,by omega,by omega,by omega⟩
  rw[if_neg hL]
  exact⟨W,a+1,b,by omega,by omega,by omega⟩
theorem Asy:∀(l:List Nat) {lo top:Nat},l.Pairwise (· < ·)->(∀x∈l,lo<=x/\x<top)->l.length<=top - lo
 | [],_,_,_,_=>Ae _
 | t::l,lo,top,hp,h=>by
  have h1:=List.pairwise_cons.1 hp
  have h2:=Asy l (lo:=t+1) (top:=top) h1.2 fun x hx=>⟨h1.1 x hx,(h x (List.mem_cons_of_mem _ hx)).2⟩
  have h3:=h t (List.mem_cons_self ..)
  rw[A6]
  omega
def Sb (b:List Int):Nat:=if b.length=256 then 1 else 0
structure Vb (b:List Int) (g:Bool) (F T:Nat) (s:List Int) (ps:List Pc):Prop where
  st:BSt b s ps
  len:b.length<=256
  v:vs s g+W7 ps+2*T<=F+2*Sb b
  inc:(ps.filterMap Pc.t).Pairwise (· < ·)
  cut:∀(i:Nat) (d:Pc) (t:Nat),ps[i]? = some d->d.t=some t->t<T+Sb b/\vs s g+W7 (ps.take i)+4*(T - t)<=3*t+15
variable {b:List Int} {g:Bool} {F T:Nat}
theorem Vb.top (h:Vb b g F T s ps) {lo:Nat} (hlo:∀(i:Nat) (d:Pc) (t:Nat),ps[i]? = some d->d.t=some t->lo<=t):(ps.filterMap Pc.t).length<=T+Sb b - lo:=by
 refine Asy _ h.inc fun t ht=>?_
 obtain⟨d,hd,e⟩:=List.mem_filterMap.1 ht
 obtain⟨i,hi⟩:=A3.1 hd
 exact⟨hlo i d t hi e,(h.cut i d t hi e).1⟩
theorem Vb.few (h:Vb b g F T s ps) (hF:F<=48):vs s g+W7 ps<=32:=by
 have hv:=h.v
 have hf:Sb b<=1:=by unfold Sb;split<;>omega
 have h3:=Ar9 h.st.sf g
 obtain⟨W,x,y,e1,e2,e3⟩:=Acg h.st.ok
 have e4:=congrArg List.length h.st.eq
 rw[Bo] at e4
 have hl:=h.len
 have ht:=h.top (lo:=(4*T - 9) / 7) fun i d t hi hd=>by
  have:=h.cut i d t hi hd
  omega
 by_cases hT:T<=8
 ·omega
 omega
theorem Vb.nil (g:Bool):Vb [] g 0 0 [] []:=⟨⟨rfl,.inl rfl,fun _ h=>by cases h⟩,Ae _,by rw[Z0];exact Ae _,.nil,fun i d t h=>by simp at h⟩
theorem Azd (h:Vb b g F T s ps) (hb:b.length<256):vs s g+W7 ps<=3*T+15:=by
 have h3:=Ar9 h.st.sf g
 obtain⟨W,x,y,e1,e2,e3⟩:=Acg h.st.ok
 have e4:=congrArg List.length h.st.eq
 rw[Bo] at e4
 have ht:=h.top (lo:=0) fun _ _ _ _ _=>Ae _
 have hf:Sb b=0:=by unfold Sb;rw[if_neg (by omega)]
 omega
theorem Vb.put (h:Vb b g F T s ps) {f:List Int} (hf:FrP f):∃ps',Vb ((b++f).take 256) g (F+1) T s ps':=by
 have hl:=h.len
 have h1:=hf.l1
 have hv:=h.v
 by_cases hfull:b.length=256
 ·have e:(b++f).take 256=b:=by rw[<- hfull,List.take_left]
  rw[e]
  exact⟨ps,h.st,h.len,by omega,h.inc,h.cut⟩
 have hn0:Sb b=0:=by unfold Sb;rw[if_neg hfull]
 rw[hn0] at hv
 by_cases hfit:b.length+f.length<=256
 ·have e:(b++f).take 256=b++f:=Bf (by rw[Bo];omega)
  rw[e]
  refine⟨ps++[⟨f,1,none⟩],⟨by rw[Ame,<- List.append_assoc,<- h.st.eq];simp[Rb],h.st.sf,fun d hd=>?_⟩,by rw[Bo];exact hfit,by rw[Afe];show _+(W7 ps+1)+_<=_;omega,?_,fun i d t hi hd=>?_⟩
  ·rcases A0.1 hd with hd | hd
   ·exact h.st.ok d hd
   rw[An.1 hd];exact⟨f,hf,.inl ⟨rfl,rfl,rfl⟩⟩
  ·rw[List.filterMap_append]
   simpa using h.inc
  by_cases hil:i<ps.length
  ·rw[Au hil] at hi
   have hc:=h.cut i d t hi hd
   rw[hn0] at hc
   rw[List.take_append_of_le_length (by omega)]
   omega
  rw[Ao (by omega)] at hi
  have:i - ps.length=0:=by
   have:=(Ab.1 hi).1
   simp at this
   omega
  rw[this] at hi
  have hi:(⟨f,1,none⟩:Pc)=d:=by simpa using hi
  rw[<- hi] at hd
  cases hd
 obtain⟨L,hL⟩:∃L,L=256 - b.length:=⟨_,rfl⟩
 have e:(b++f).take 256=b++f.take L:=by
  rw[List.take_append,Bf (by omega),hL]
 have el:(b++f.take L).length=256:=by rw[Bo,A5];omega
 have hn1:Sb (b++f.take L)=1:=by unfold Sb;rw[if_pos el]
 rw[e]
 refine⟨ps++[⟨f.take L,if L<=4 then 1 else 3,some T⟩],⟨by rw[Ame,<- List.append_assoc,<- h.st.eq];simp[Rb],h.st.sf,fun d hd=>?_⟩,by omega,?_,?_,fun i d t hi hd=>?_⟩
 ·rcases A0.1 hd with hd | hd
  ·exact h.st.ok d hd
  rw[An.1 hd];exact⟨f,hf,.inr ⟨rfl,L,by omega,by omega,rfl,rfl⟩⟩
 ·rw[Afe,hn1]
  show _+(W7 ps+((if L<=4 then 1 else 3)+0))+_<=_
  split<;>omega
 ·rw[List.filterMap_append,List.pairwise_append]
  refine⟨h.inc,by simp,fun x hx y hy=>?_⟩
  have hy:y=T:=by simpa using hy
  obtain⟨d,hd,hd2⟩:=List.mem_filterMap.1 hx
  obtain⟨i,hi⟩:=A3.1 hd
  have:=(h.cut i d x hi hd2).1
  omega
 rw[hn1]
 by_cases hil:i<ps.length
 ·rw[Au hil] at hi
  have hc:=h.cut i d t hi hd
  rw[hn0] at hc
  rw[List.take_append_of_le_length (by omega)]
  omega
 rw[Ao (by omega)] at hi
 have hi0:i=ps.length:=by
  have:=(Ab.1 hi).1
  simp at this
  omega
 rw[hi0,Nat.sub_self] at hi
 have hi:(⟨f.take L,if L<=4 then 1 else 3,some T⟩:Pc)=d:=by simpa using hi
 rw[<- hi] at hd
 injection hd with hd
 have:=Azd h (by omega)
 rw[hi0,List.take_left]
 omega
theorem Vb.tick (hd:TkR 4 x d) (h:Vb x.buf x.gar F T s ps):∃T' s' ps',Vb d.1.buf d.1.gar F T' s' ps':=by
 have hdl:d.1.buf.length<=x.buf.length:=by
  obtain⟨u,_,e⟩:=hd
  rw[e,Bc]
  omega
 have hl:=h.len
 have hv:=h.v
 have key:∀{s':List Int} {k c:Nat},k<=ps.length->vs s' d.1.gar+W7 (ps.drop k)+c<=vs s x.gar+W7 ps->∀i,vs s' d.1.gar+W7 ((ps.drop k).take i)+c<=vs s x.gar+W7 (ps.take (k+i)):=fun {s' k c} hk h1 i=>by
  have e1:W7 (ps.drop k)=W7 ((ps.drop k).take i)+W7 ((ps.drop k).drop i):=by rw[<- Afe,List.take_append_drop]
  have e2:W7 ps=W7 (ps.take (k+i))+W7 (ps.drop (k+i)):=by rw[<- Afe,List.take_append_drop]
  rw[List.drop_drop] at e1
  omega
 by_cases hfull:x.buf.length=256
 ·obtain⟨s',k,h1,h2,h3⟩:=Ato hd h.st hfull
  have hn1:Sb x.buf=1:=by unfold Sb;rw[if_pos hfull]
  rw[hn1] at hv
  refine⟨T+1,s',ps.drop k,h2,by omega,by omega,h.inc.sublist ((List.drop_sublist k ps).filterMap _),fun i e t hi he=>?_⟩
  rw[Bd] at hi
  have hc:=h.cut _ e t hi he
  have hk:=key h1 h3 i
  rw[hn1] at hc
  omega
 obtain⟨s',k,h1,h2,h3,_⟩:=Alo hd h.st
 have hn0:Sb x.buf=0:=by unfold Sb;rw[if_neg hfull]
 rw[hn0] at hv
 refine⟨T,s',ps.drop k,h2,by omega,by omega,h.inc.sublist ((List.drop_sublist k ps).filterMap _),fun i e t hi he=>?_⟩
 rw[Bd] at hi
 have hc:=h.cut _ e t hi he
 have hk:=key (s':=s') (c:=0) h1 (by omega) i
 rw[hn0] at hc
 omega
def Drn (n:Nat) (x:Nd):Prop:=(∃s ps,BSt x.buf s ps/\vs s x.gar+W7 ps<=4*n)\/(Eh x.buf).2.2=false
theorem Drn.take {n:Nat} (h:Drn (n+1) x) (hd:TkR 4 x d):Drn n d.1:=by
 rcases h with⟨s,ps,h1,h2⟩ | h
 ·obtain⟨s',k,h3,h4,h5,h6⟩:=Alo hd h1
  rcases h6 with h6 | h6
  ·exact .inl ⟨s',_,h4,by omega⟩
  exact .inr h6
 obtain⟨u,h1,h2⟩:=hd
 have e:Kv x.buf=[]:=by
  unfold Kv
  cases x.buf.length with
  | zero=>rfl
  | succ n=>rw[Aaj,if_neg (by rw[h];decide)]
 rw[e] at h1
 injection h1 with h1 _
 rw[<- h1] at h2
 exact .inr (by rw[h2];exact h)
theorem Drn.nil (h:Drn 0 x) (hd:TkR 4 x d):d.2=[]:=by
 rcases h with⟨s,ps,h1,h2⟩ | h
 ·obtain⟨s',k,h3,h4,h5,h6⟩:=Alo hd h1
  exact List.length_eq_zero_iff.1 (by omega)
 obtain⟨u,h1,h2⟩:=hd
 have e:Kv x.buf=[]:=by
  unfold Kv
  cases x.buf.length with
  | zero=>rfl
  | succ n=>rw[Aaj,if_neg (by rw[h];decide)]
 rw[e] at h1
 injection h1 with _ h1
 injection h1 with _ h1
 exact h1.symm
end
section
structure MkX (m:Ea):Prop where
  sh:∃s,Rg m.kind=some s/\(Ko s m.args.length).2=true
  tl:m.tok.length=10
  tb:By m.tok
  tk:∀x∈m.tok,x≠165
  tz:m.tok.getLast? ≠ some 90
  ar:∀a∈m.args,0<=a/\(a<90\/a=700)
  al:m.args.length<=11
  a7:(700:Int)∈m.args->m.args.length<=3
  dat:m.data=[]
def NL (l:List Int):Prop:=l.getLast? ≠ some 90
theorem NL.app {a b:List Int} (ha:NL a) (hb:NL b):NL (a++b):=by
 unfold NL at *
 rw[List.getLast?_append]
 cases h:b.getLast? with
 | none=>simpa using ha
 | some x=>rw[h] at hb;simpa using hb
def Cb (x:Int):Prop:=0<=x/\x<=255/\x≠165
theorem vi7:Fl 700=([188,5],0):=by
 unfold Fl
 rw[if_neg (by decide),Ach (by decide) (by decide),if_pos (by decide),Ach (by decide) (by decide),if_neg (by decide)]
 rfl
theorem viC {a:Int} (h:0<=a/\(a<90\/a=700)):(∀x∈(Fl a).1,Cb x)/\NL (Fl a).1/\(Fl a).1.length<=2/\(a<90->(Fl a).1.length<=1)/\(Fl a).2=0:=by
 rcases h with⟨h0,h | h⟩
 ·rw[Afg (by omega)]
  refine⟨fun x hx=>?_,?_,by simp,fun _=>by simp,rfl⟩
  ·simp at hx;subst hx;exact⟨h0,by omega,by omega⟩
  show [a].getLast? ≠ some 90
  simp;omega
 subst h
 rw[vi7]
 refine⟨fun x hx=>?_,by unfold NL;decide,by simp,fun h=>by omega,rfl⟩
 simp at hx
 rcases hx with rfl | rfl<;>exact⟨by decide,by decide,by decide⟩
theorem Ahm:∀{l:List Int},(∀a∈l,0<=a/\(a<90\/a=700))->(∀x∈codes l,Cb x)/\NL (codes l)/\(codes l).length<=2*l.length/\((700:Int)∉l->(codes l).length<=l.length)/\Jv l
 | [],_=>⟨fun x hx=>by simp[codes] at hx,by simp[codes,NL],by simp[codes],fun _=>by simp[codes],fun a ha=>by cases ha⟩
 | a::l,h=>by
  obtain⟨i1,i2,i3,i4,i5⟩:=Ahm (l:=l) fun x hx=>h x (List.mem_cons_of_mem _ hx)
  obtain⟨j1,j2,j3,j4,j5⟩:=viC (h a (List.mem_cons_self ..))
  have e:codes (a::l)=(Fl a).1++codes l:=by simp[codes]
  rw[e]
  refine⟨fun x hx=>(A0.1 hx).elim (j1 x) (i1 x),j2.app i2,by simp only[Bo,A6];omega,fun h7=>?_,fun b hb=>?_⟩
  ·rw[List.mem_cons] at h7
   have h9:=h a (List.mem_cons_self ..)
   have:=i4 fun h=>h7 (.inr h)
   have:=j4 (by omega)
   simp only[Bo,A6]
   omega
  rcases List.mem_cons.1 hb with rfl | hb
  ·exact j5
  exact i5 b hb
structure PlQ (p:List Int):Prop where
  l1:10<=p.length
  l2:p.length<=22
  by':By p
  no:∀x∈p,x≠165
  nl:NL p
variable {m:Ea}
theorem A5f {s:F5} (hs:Rg m.kind=some s) (ho:(Ko s m.args.length).2=true) (h:∀a∈m.args,0<=a/\(a<90\/a=700)) (hl:m.args.length<=11) (h7:(700:Int)∈m.args->m.args.length<=3):(∀x∈msArgs s m.args,Cb x)/\NL (msArgs s m.args)/\(msArgs s m.args).length<=12:=by
 have hb:=X4 hs
 obtain⟨c1,c2,c3,c4,c5⟩:=Ahm h
 have cl:(codes m.args).length<=11:=by
  by_cases h9:(700:Int)∈m.args
  ·have:=h7 h9;omega
  have:=c4 h9;omega
 unfold msArgs
 by_cases hg:0<s.grp
 ·rw[if_pos hg]
  have hgr:=PaX.gr hs (by omega) hg ho
  rw[hgr.2.1,Afg (n:=((m.args.length:Int) - s.fix).tdiv s.grp) (by omega)]
  have hd:=Int.tdiv_le_self s.grp hgr.1
  obtain⟨d1,d2,d3,d4,d5⟩:=Ahm (l:=m.args.take s.fix.toNat) fun a ha=>h a (Aq ha)
  obtain⟨e1,e2,e3,e4,e5⟩:=Ahm (l:=m.args.drop s.fix.toNat) fun a ha=>h a (Ay ha)
  have el:(codes (m.args.take s.fix.toNat)).length+(codes (m.args.drop s.fix.toNat)).length=(codes m.args).length:=by
   rw[<- Bo,<- U5,List.take_append_drop]
  refine⟨fun x hx=>?_,(d2.app ?_).app e2,?_⟩
  ·rcases A0.1 hx with hx | hx
   ·rcases A0.1 hx with hx | hx
    ·exact d1 x hx
    simp at hx;subst hx;exact⟨by omega,by omega,by omega⟩
   exact e1 x hx
  ·show [_].getLast? ≠ some 90
   simp;omega
  simp only[Bo,A6,List.length_nil]
  omega
 rw[if_neg hg]
 exact⟨c1,c2,by omega⟩
theorem MkX.pl (h:MkX m) {s:F5} (hs:Rg m.kind=some s):Jv m.args/\(Ko s m.args.length).2=true/\PlQ (m.tok++msArgs s m.args++m.data):=by
 obtain⟨s',hs',ho⟩:=h.sh
 rw[hs] at hs'
 cases hs'
 obtain⟨a1,a2,a3⟩:=A5f hs ho h.ar h.al h.a7
 rw[h.dat,List.append_nil]
 refine⟨(Ahm h.ar).2.2.2.2,ho,?_,?_,?_,fun x hx=>?_,NL.app h.tz a2⟩
 ·rw[Bo,h.tl];omega
 ·rw[Bo,h.tl];omega
 ·exact h.tb.app fun x hx=>⟨(a1 x hx).1,by have:=(a1 x hx).2.1;omega⟩
 rcases A0.1 hx with hx | hx
 ·exact h.tk x hx
 exact (a1 x hx).2.2
variable {k:Int} {p:List Int}
theorem Ard (hk:1<=k/\k<=22) (hp:p.length<=22):∃c1 c2 c3 c4,By [c1,c2,c3,c4]/\Gn k p=90::165::1::k::0::(p.length:Int)::(p++[c1,c2,c3,c4]):=by
 obtain⟨S,hS⟩:∃S,Te ((Im k p.length).drop 2++p)=S:=⟨_,rfl⟩
 refine⟨IntKind.u8.wrap (S.fdiv (2 ^ min 24 32)),IntKind.u8.wrap (S.fdiv (2 ^ min 16 32)),IntKind.u8.wrap (S.fdiv (2 ^ min 8 32)),IntKind.u8.wrap (S.fdiv (2 ^ min 0 32)),?_,?_⟩
 rotate_left
 ·unfold Gn
  rw[hS]
  unfold Im J5
  rw[Ul (show 0<=k/\k<256 by omega),Ul (show 0<=(p.length:Int)/\(p.length:Int)<256 by omega),show IntKind.u8.wrap ((p.length:Int).fdiv (2 ^ min 8 64))=0 by
   rw[show ((p.length:Int).fdiv (2 ^ min 8 64))=0 by rw[Int.fdiv_eq_ediv_of_nonneg _ (by decide)];exact Int.ediv_eq_zero_of_lt (by omega) (by show _<((256:Nat):Int);omega)];rfl]
  simp only[List.cons_append,List.nil_append,List.append_assoc]
 intro x hx
 simp at hx
 rcases hx with rfl | rfl | rfl | rfl<;>exact Rt _
theorem A2g (hk:1<=k/\k<=22) (hp:PlQ p):FrP (Gn k p):=by
 obtain⟨c1,c2,c3,c4,hc,he⟩:=Ard hk hp.l2
 have hl:=X6 k p
 have h1:=hp.l1
 have h2:=hp.l2
 refine⟨by omega,by omega,?_,⟨k,p,fun r=>?_⟩,⟨k,p++[c1,c2,c3,c4],?_,hk⟩,fun i hi h90 h165=>?_⟩
 ·rw[he]
  have hb:By [90,165,1,k,0,(p.length:Int)]:=fun x hx=>by
   simp at hx
   rcases hx with rfl | rfl | rfl | rfl | rfl | rfl<;>omega
  exact (hb.app (hp.by'.app hc))
 ·rw[Ahj r hk (by omega),hl]
  rfl
 ·rw[he]
  simp
  omega
 rw[hl]
 have hj:165∈p\/p.length+5<=i:=by
  rw[he] at h165
  match i,hi with
  | 1,_=>simp at h165
  | 2,_=>simp at h165;omega
  | 3,_=>simp at h165
  | 4,_=>simp at h165;omega
  | i+5,_ =>
   simp at h165
   by_cases hlt:i<p.length
   ·rw[Au hlt] at h165
    exact .inl (Ac h165)
   exact .inr (by omega)
 rcases hj with hj | hj
 ·exact absurd rfl (hp.no _ hj)
 by_cases hx:i=p.length+5
 ·subst hx
  exfalso
  rw[he,show p.length+5=(p.length - 1)+6 by omega] at h90
  have h9:(p++[c1,c2,c3,c4])[p.length - 1]? = some 90:=h90
  rw[Au (by omega)] at h9
  exact hp.nl (by rw[List.getLast?_eq_getElem?];exact h9)
 omega
variable {d:List Int}
theorem A1j (h:MkX m) (hd:FrQ m d):d=[]\/FrP d:=by
 obtain⟨s,hs,ho⟩:=h.sh
 have hp:=h.pl hs
 have hb:=X4 hs
 rcases hd s hs hp.1 (by have:=h.al;omega) ho with rfl | rfl
 ·exact .inl rfl
 exact .inr (A2g ⟨hb.1,by omega⟩ hp.2.2)
def TkQ (t:List Int):Prop:=t.length=10/\By t/\(∀x∈t,x≠165)/\t.getLast? ≠ some 90
def ShC (k n:Int):Prop:=∃s,Rg k=some s/\(Ko s n).2=true
theorem A7b (h:k=1\/k=9\/k=12):ShC k 0:=by rcases h with rfl | rfl | rfl<;>exact⟨_,rfl,rfl⟩
theorem A7a (h:k=3\/k=5\/k=8\/k=10\/k=11):ShC k 1:=by rcases h with rfl | rfl | rfl | rfl | rfl<;>exact⟨_,rfl,rfl⟩
theorem A4n (h:k=4):ShC k 2:=by subst h;exact⟨_,rfl,rfl⟩
theorem A69 (h:k=2):ShC k 3:=by subst h;exact⟨_,rfl,rfl⟩
theorem A68 {k n:Int} (h:k=6) (hn:n=7\/n=11):ShC k n:=by subst h;rcases hn with rfl | rfl<;>exact⟨_,rfl,rfl⟩
theorem A67 {k n:Int} (h:k=7) (hn:n=3\/n=5):ShC k n:=by subst h;rcases hn with rfl | rfl<;>exact⟨_,rfl,rfl⟩
theorem Ac2 {t l:List Int} (ht:TkQ t) (hs:ShC k l.length) (h:∀a∈l,0<=a/\a<90) (hl:l.length<=11):MkX ⟨k,t,l,[]⟩ :=
 ⟨hs,ht.1,ht.2.1,ht.2.2.1,ht.2.2.2,fun a ha=>⟨(h a ha).1,.inl (h a ha).2⟩,hl,fun h7=>absurd (h _ h7).2 (by decide),rfl⟩
theorem A44 {t:List Int} {a b c:Int} (ht:TkQ t) (hk:k=2) (ha:0<=a/\a<90) (hb:0<=b/\b<90) (hc:0<=c/\(c<90\/c=700)):MkX ⟨k,t,[a,b,c],[]⟩ :=
 ⟨A69 hk,ht.1,ht.2.1,ht.2.2.1,ht.2.2.2,fun x hx=>by simp at hx;omega,by show 3<=11;decide,fun _=>Aj _,rfl⟩
theorem A4r:∀i:Fin 3,(∀x∈Aiy (1000+(i.val:Int)),x≠165)/\(Aiy (1000+(i.val:Int))).getLast? ≠ some 90:=by decide +kernel
theorem A4q:∀i:Fin 23,(∀x∈Aiy (2000+(i.val:Int)),x≠165)/\(Aiy (2000+(i.val:Int))).getLast? ≠ some 90:=by decide +kernel
theorem A4p {n:Int} (h:(1000<=n/\n<=1002)\/(2000<=n/\n<=2022)):(∀x∈Aiy n,x≠165)/\(Aiy n).getLast? ≠ some 90:=by
 rcases h with h | h
 ·have:=A4r ⟨(n - 1000).toNat,by omega⟩
  rwa[show (1000+((⟨(n - 1000).toNat,by omega⟩:Fin 3).val:Int))=n by simp;omega] at this
 have:=A4q ⟨(n - 2000).toNat,by omega⟩
 rwa[show (2000+((⟨(n - 2000).toNat,by omega⟩:Fin 23).val:Int))=n by simp;omega] at this
theorem tkQ {a s n:Int} {b:List Int} {h:b.length<=1000} (hb:b=Eb n) (ha:0<=a/\a<=90) (hs:0<=s/\s<=90) (hn:(1000<=n/\n<=1002)\/(2000<=n/\n<=2022)):TkQ (En a s b h):=by
 subst hb
 have q:=Hy n
 have e:=L5 a s (Eb n) h
 have z:=A4p hn
 refine⟨by rw[e.1,q.1],e.2.1 q.2.1,?_,?_⟩<;>rw[e.2.2,Ul (by omega),Ul (by omega),q.2.2]
 ·intro x hx
  simp only[List.mem_cons] at hx
  rcases hx with rfl | rfl | hx
  ·omega
  ·omega
  exact z.1 x hx
 have:Aiy n≠[]:=by intro e0;have:=congrArg List.length e0;simp[Aiy] at this
 rw[List.getLast?_cons_cons]
 obtain⟨y,ys,hy⟩:=List.exists_cons_of_ne_nil this
 rw[hy,List.getLast?_cons_cons,<- hy]
 exact z.2
def EvF (e:I5) (n:Nat):Prop:=(e.kind≠3/\n=0)\/(e.kind=3/\∃fs:List (List Int),e.bytes=fs.flatten/\fs.length<=n/\∀f∈fs,FrP f)
theorem A5a {s:Int} (h:d=[]\/FrP d):EvF ⟨3,s,0,0,d⟩ 1:=by
 refine .inr ⟨rfl,?_⟩
 rcases h with rfl | h
 ·exact⟨[],rfl,by decide,fun f hf=>by cases hf⟩
 exact⟨[d],by simp,by simp,fun f hf=>by rw[An.1 hf];exact h⟩
theorem A7i {s:Int} {d e:List Int} (h:d=[]\/FrP d) (h2:e=[]\/FrP e):EvF ⟨3,s,0,0,d++e⟩ 2:=by
 refine .inr ⟨rfl,?_⟩
 rcases h with rfl | h<;>rcases h2 with rfl | h2
 ·exact⟨[],rfl,by decide,fun f hf=>by cases hf⟩
 ·exact⟨[e],by simp,by simp,fun f hf=>by rw[An.1 hf];exact h2⟩
 ·exact⟨[d],by simp,by simp,fun f hf=>by rw[An.1 hf];exact h⟩
 exact⟨[d,e],by simp,by simp,fun f hf=>by simp at hf;rcases hf with rfl | rfl;exact h;exact h2⟩
def FW (s:Int) (L:List (I5×Nat)):Nat:=(L.map fun x=>if x.1.se=s then x.2 else 0).sum
def Scr (l:List I5) (b:Int->Nat):Prop:=∃L:List (I5×Nat),L.map Prod.fst=l/\(∀x∈L,EvF x.1 x.2)/\∀s,FW s L<=b s
theorem Ay7 (s:Int) (L M:List (I5×Nat)):FW s (L++M)=FW s L+FW s M:=by simp[FW]
theorem Scr.nil (b:Int->Nat):Scr [] b:=⟨[],rfl,fun x h=>(by cases h),fun s=>Ae _⟩
variable {l:List I5} {b b':Int->Nat}
theorem Scr.mono (h:Scr l b) (hb:∀s,b s<=b' s):Scr l b':=by
 obtain⟨L,h1,h2,h3⟩:=h
 exact⟨L,h1,h2,fun s=>Ak (h3 s) (hb s)⟩
variable {e:I5}
theorem Scr.app {n:Nat} (h:Scr l b) (he:EvF e n) (hb:∀s,b s+(if e.se=s then n else 0)<=b' s):Scr (l++[e]) b':=by
 obtain⟨L,h1,h2,h3⟩:=h
 refine⟨L++[(e,n)],by simp[h1],fun x hx=>?_,fun s=>?_⟩
 ·rcases A0.1 hx with hx | hx
  ·exact h2 x hx
  rw[An.1 hx];exact he
 have:=h3 s
 have:=hb s
 rw[Ay7]
 simp only[FW,List.map_cons,List.map_nil,List.sum_cons,List.sum_nil]
 unfold FW at *
 omega
theorem Scr.tick {b:Int->Nat} (h:Scr l b) (he:e.kind≠3):Scr (l++[e]) b:=h.app (.inl ⟨he,rfl⟩) fun s=>by split<;>omega
def bI (B:Int) (i:Nat) (s:Int):Nat:=if s<B then 3 else if s=B then i else 0
theorem A7n (B s:Int):bI B 0 s<=3:=by unfold bI;(repeat' split)<;>omega
theorem A7l (B:Int) (i:Nat) (s:Int):bI B i s+(if B=s then 1 else 0)<=bI B (i+1) s:=by unfold bI;(repeat' split)<;>omega
theorem A7m {B C:Int} (h:B<C) {i:Nat} (hi:i<=3) (s:Int):bI B i s<=bI C 0 s:=by unfold bI;(repeat' split)<;>omega
theorem Arg {l:List G2} (h:∀a∈l,1<=a.se/\a.se<=2) (hl:l.length<=3) (a:Int):∀n:Nat,n<=l.length->(0<=bsm l a n/\bsm l a n<=2*n)/\bsm l a n+(if 0<=a/\a<n then 1 else 0)<=bsm l (a+1) n
 | 0,_=>by simp[bsm];omega
 | n+1,hn=>by
  obtain⟨⟨h1,h2⟩,h3⟩:=Arg h hl a n (by omega)
  obtain⟨⟨h4,h5⟩,h6⟩:=Arg h hl (a+1) n (by omega)
  have hg:l[n]? = some l[n]:=Aa (by omega)
  have hs:=h _ (Ac hg)
  have e:(l[n]?.map G2.se).getD 0=l[n].se:=by rw[hg];rfl
  rw[bsm,bsm,e]
  generalize l[n].se=x at hs
  rw[Dx (bsm l a n+x),Dx (bsm l (a+1) n+x)]
  repeat' split
  all_goals (repeat' split at h3)<;>omega
theorem A2j {l:List G2} (h:∀a∈l,1<=a.se/\a.se<=2) (hl:l.length<=3) {i:Nat} (hi:i<l.length):bsm l i l.length<bsm l ((i+1:Nat):Int) l.length:=by
 have:=(Arg h hl i l.length (Aj _)).2
 rw[if_pos ⟨by omega,by omega⟩] at this
 push_cast
 omega
def ScW (k:E6) (l:List I5) (p:Int):Prop:=∃n:Nat,Scr l (fun _=>3+n)/\((p<=k.l.length/\13*(n:Int)<=2*(p - k.pos))\/((k.l.length:Int)<=p/\(n=0\/13*(n:Int)<=2*(k.l.length - k.pos)+26)))
theorem ScW.start {k:E6} (h:Scr l (fun _=>3)):ScW k l k.pos:=⟨0,h,by omega⟩
theorem ScW.mv {k:E6} {p q:Int} (h:ScW k l p) (hq:p<=q):ScW k l q:=by
 obtain⟨n,h1,h2⟩:=h
 exact⟨n,h1,by omega⟩
theorem ScW.tick {k:E6} {p q:Int} (h:ScW k l p) (hq:p<=q) (he:e.kind≠3):ScW k (l++[e]) q:=by
 obtain⟨n,h1,h2⟩:=h
 exact⟨n,h1.tick he,by omega⟩
theorem ScW.fr {k:E6} {p q c:Int} {m:Nat} (h:ScW k l p) (hp:p<k.l.length) (he:EvF e m) (hs:Th p k.l c q) (hm:m<=2) (hc:13*(m:Int)<=2*c):ScW k (l++[e]) q:=by
 obtain⟨n,h1,h2⟩:=h
 refine⟨n+m,h1.app he (fun s=>by split<;>omega),?_⟩
 unfold Th at hs
 push_cast
 omega
def ScE (k:E6) (l:List I5):Prop:=∃n:Nat,Scr l (fun _=>3+n)/\(n=0\/13*(n:Int)<=2*(k.l.length - k.pos)+26)
theorem ScW.fin {k:E6} {p:Int} (h:ScW k l p):ScE k l:=by
 obtain⟨n,h1,h2⟩:=h
 exact⟨n,h1,by omega⟩
end
section
variable (m:Ea) (h1:m.tok.length<=10000) (h2:m.args.length<=10000) (h3:m.data.length<=10000)
include h1 h2 h3
theorem Sj:Ct 51 [m.g] (fun d:Bool=>.lb d) (fun d=>d=true->(Fb m h1 h2 h3).length<=200):=by
 refine Ex Tryz.func51 ?_
 have hv:=Ny m.kind
 have hq0:=Od m.kind
 generalize Ef m.kind=S at hv hq0
 refine Bq<|.seq ?_
 refine Bq ?_
 refine Br ?_ ?_<;>intro h14
 ·refine Bq ?_
  refine Bz (Fj ?_);simp[go_sem]
  exact⟨false,by rfl,(by exact fun h=>Bool.noConfusion h)⟩
 refine Bp<|.L Dz (hv) ?_
 refine Bq<|.seq<|.block ?_
 refine Dp (fun s=>∃(w24:Bool),s=⟨[(1,.ptr 0 0),(3,.ptr 1 0),(4,.li (IntKind.i64.wrap (m.args.length - S.fix))),(24,.lb w24)],[.box 56 (m.a false),.box 177 [.li S.fix,.li S.grp,.li S.lea,.li S.mos,.li S.dat]]⟩) ?_ ?_
 ·refine B8 Dz (Ka m.kind) ?_
  refine Br ?_ ?_<;>intro h24
  ·refine Bp ?_
   refine⟨[0,1],_,Es (by decide) ?_ ?_,by simp,((Ig m.kind)&&((m.tok.length:Int) != 10)),rfl⟩
   all_goals simp[go_sem]
  refine Dj Dz (Ka m.kind) ?_
  refine⟨[0,1],_,Es (by decide) ?_ ?_,by simp,(!(Ig m.kind)&&((m.tok.length:Int) != 0)),rfl⟩
  all_goals simp[go_sem]
 rintro _ ⟨w24,rfl⟩
 refine Br ?_ ?_<;>intro h24
 ·refine Bq ?_
  refine Bz (Fj ?_);simp[go_sem]
  exact⟨false,by rfl,(by exact fun h=>Bool.noConfusion h)⟩
 refine Dp (fun s=>∃(w44:Bool),s=⟨[(1,.ptr 0 0),(3,.ptr 1 0),(44,.lb w44)],[.box 56 (m.a false),.box 177 [.li S.fix,.li S.grp,.li S.lea,.li S.mos,.li S.dat]]⟩) ?_ ?_
 ·refine Bq ?_
  refine Br ?_ ?_<;>intro h44
  ·refine Bp ?_
   refine⟨[0,1],_,Es (by decide) ?_ ?_,by simp,(((S.grp:Int) == 0)&&(((IntKind.i64.wrap (m.args.length - S.fix)):Int) != 0)),rfl⟩
   all_goals simp[go_sem]
  refine B0 Dz ?_
  refine⟨[0,1],_,Es (by decide) ?_ ?_,by simp,(decide ((0:Int)<S.grp)&&((decide (((IntKind.i64.wrap (m.args.length - S.fix)):Int)<(IntKind.i64.wrap (S.grp*S.lea)))||decide (((IntKind.i64.wrap (S.grp*S.mos)):Int)<(IntKind.i64.wrap (m.args.length - S.fix))))||(((Int.tmod (IntKind.i64.wrap (m.args.length - S.fix)) S.grp):Int) != 0))),rfl⟩
  all_goals simp[go_sem]
 rintro _ ⟨w44,rfl⟩
 refine Br ?_ ?_<;>intro h44
 ·refine Bq ?_
  refine Bz (Fj ?_);simp[go_sem]
  exact⟨false,by rfl,(by exact fun h=>Bool.noConfusion h)⟩
 refine Dp (fun s=>∃(w80:Bool),s=⟨[(1,.ptr 0 0),(80,.lb w80)],[.box 56 (m.a false),.box 177 [.li S.fix,.li S.grp,.li S.lea,.li S.mos,.li S.dat]]⟩) ?_ ?_
 ·refine Bq ?_
  refine Br ?_ ?_<;>intro h80
  ·refine Bp ?_
   refine⟨[0,1],_,Es (by decide) ?_ ?_,by simp,(decide ((0:Int)<=S.dat)&&((m.data.length:Int) != S.dat)),rfl⟩
   all_goals simp[go_sem]
  refine Ci ?_
  refine⟨[0,1],_,Es (by decide) ?_ ?_,by simp,decide ((200:Int)<m.data.length),rfl⟩
  all_goals simp[go_sem]
 rintro _ ⟨w80,rfl⟩
 refine Br ?_ ?_<;>intro h80
 ·refine Bq ?_
  refine Bz (Fj ?_);simp[go_sem]
  exact⟨false,by rfl,(by exact fun h=>Bool.noConfusion h)⟩
 refine Bp<|.seq<|.R<|.block ?_
 refine Bs m.args.length (fun i1 (y1:Unit)=>⟨[(1,.ptr 0 0),(97,.mI m.args),(98,.li m.args.length),(99,.li i1)],[.box 56 (m.a false)]⟩) (fun i1 y1=>True) () (wQ [0] ?_ ?_) (trivial) fun i1 y1 hi1 hy1=>?_
 ·simp[go_sem]
 ·simp[go_sem]
 refine Bq<|.seq ?_
 refine Br ?_ ?_<;>intro h100
 ·refine Bp<|.seq<|.block ?_
  obtain⟨e1,H1⟩:=gx m.args i1
  refine Bt H1 ?_
  refine Bt H1 ?_
  refine Br ?_ ?_<;>intro h108
  ·refine Bt H1 ?_
   refine Bz (Fj ?_);simp[go_sem,H1]
   exact⟨false,by rfl,(by exact fun h=>Bool.noConfusion h)⟩
  refine Bp<|.H1 H1 ?_
  refine⟨by omega,(),?_,wQ [0] ?_ ?_⟩
  ·trivial
  all_goals simp[go_sem,Dx ((i1:Int)+1),H1]
 refine Bu<|.L Dz (K6 m h1 h2 h3) ?_
 refine Bz (Fj ?_);simp[go_sem]
 exact⟨decide ((((Fb m h1 h2 h3).length):Int)<=200),by rfl,(by first | exact fun h=>Bool.noConfusion h | exact fun h=>by (have:=of_decide_eq_true h;omega))⟩
theorem Rm:Ct 67 [m.g] (fun d:List Int×Int=>.tup [.mY d.1,.li d.2]) (fun d=>d.1.length<=200/\(By m.tok->By m.data->By d.1)/\(d.2=0->d.1=Fb m h1 h2 h3)):=by
 refine Ex Tryz.func67 ?_
 refine Bq<|.seq ?_
 obtain⟨Y1,cY1,qY1⟩:=Ep (Sj m h1 h2 h3)
 refine B8 Dz cY1 ?_
 refine Br ?_ ?_<;>intro h6
 ·refine Bq ?_
  exact .ret (fin Dz ([],6) (by exact⟨Ae _,fun _ _=>Qz,fun h=>absurd h (by decide)⟩))
 refine Bp<|.L Dz (K6 m h1 h2 h3) ?_
 exact .ret (fin Dz ((Fb m h1 h2 h3),0) (by first | exact⟨Ae _,fun _ _=>Qz⟩ | exact⟨qY1 (by simpa using h6),(K8 m h1 h2 h3).1,fun _=>rfl⟩))
end
theorem Axd {k:Int} {s:F5} (h:Ta k=some s):13<=k/\k<=20/\s.tok=0/\0<=s.fix/\s.fix<=4/\0<=s.grp/\s.grp<=3/\s.lea=0/\0<=s.mos/\s.mos<=16 /\ -1<=s.dat:=by
 unfold Ta at h
 repeat' split at h
 all_goals first | (cases h;done) | (cases h;refine⟨by omega,by omega,rfl,?_⟩;decide)
structure A7r (m:Ea) (s:F5):Prop where
  tok:m.tok.length=0
  dat:s.dat = -1\/(m.data.length:Int)=s.dat
  dl:m.data.length<=200
  g0:s.grp=0->(m.args.length:Int)=s.fix
  g1:0<s.grp->0<=(m.args.length:Int) - s.fix/\(m.args.length:Int) - s.fix<=s.grp*s.mos/\((m.args.length:Int) - s.fix).tmod s.grp=0
  rng:viR m.args
  gm:0<=s.grp*s.mos/\s.grp*s.mos<=48
  len:m.tok.length+Np m.args+(if 0<s.grp then 1 else 0)+m.data.length<=200
theorem A66 {m:Ea} {s:F5} (hs:Ta m.kind=some s) (ho:Ol m):A7r m s:=by
 have hb:=Axd hs
 have hsh:=(Gm m.kind).1.2 s hs
 obtain⟨h1,h2,h3,h4,h5,h6,h7⟩:=ho
 rw[hsh] at h2 h3 h4 h7
 dsimp only at h2 h3 h4 h7
 have hgm:0<=s.grp*s.mos/\s.grp*s.mos<=48:=⟨Int.mul_nonneg (by omega) (by omega),by show s.grp*s.mos<=3*16;exact Int.mul_le_mul (by omega) (by omega) (by omega) (by decide)⟩
 have hal:(msArgs s m.args).length=Np m.args+(if 0<s.grp then 1 else 0)/\(0<s.grp->0<=(m.args.length:Int) - s.fix/\(m.args.length:Int) - s.fix<=s.grp*s.mos/\((m.args.length:Int) - s.fix).tmod s.grp=0):=by
  by_cases hg:0<s.grp
  ·unfold msArgs
   unfold Ko at h4 ⊢
   rw[if_neg (by omega)] at h4
   rw[if_pos hg,if_pos hg,if_neg (by omega)]
   split at h4
   ·cases h4
   rename_i hn
   rw[if_neg hn]
   have h4:s.lea<=((m.args.length:Int) - s.fix).tdiv s.grp/\((m.args.length:Int) - s.fix).tdiv s.grp<=s.mos:=by simpa using h4
   have hmod:((m.args.length:Int) - s.fix).tmod s.grp=0:=by
    by_cases hz:((m.args.length:Int) - s.fix).tmod s.grp=0
    ·exact hz
    exact absurd (.inr hz) hn
   have hdv:=Int.mul_tdiv_add_tmod ((m.args.length:Int) - s.fix) s.grp
   rw[hmod,Int.add_zero] at hdv
   have hnn:0<=((m.args.length:Int) - s.fix).tdiv s.grp:=Int.tdiv_nonneg (by omega) (by omega)
   have hle:=Int.mul_le_mul_of_nonneg_left h4.2 (show 0<=s.grp by omega)
   refine⟨?_,fun _=>⟨by omega,by omega,hmod⟩⟩
   have hv:(Fl (((m.args.length:Int) - s.fix).tdiv s.grp)).2=0:=by unfold Fl;rw[if_neg (by omega)]
   have hl:=(Vl hv).1
   rw[show vnl (((m.args.length:Int) - s.fix).tdiv s.grp)=1 by unfold vnl;rw[if_pos (by omega)]] at hl
   simp only[Bo,hl,Lm (Vm h6 _),Lm (O8 h6 _)]
   have:Np (m.args.take s.fix.toNat)+Np (m.args.drop s.fix.toNat)=Np m.args:=by
    unfold Np
    rw[<- List.sum_append,<- List.map_append,List.take_append_drop]
   omega
  unfold msArgs
  rw[if_neg hg,if_neg hg,Lm h6]
  exact⟨rfl,fun h=>absurd h hg⟩
 refine⟨by omega,h3,h5,fun hg=>?_,hal.2,fun a ha=>(Vl (h6 a ha)).2,hgm,?_⟩
 ·unfold Ko at h4
  rw[if_pos hg] at h4
  simpa using h4
 simp only[Bo,hal.1] at h7
 omega
section
structure Y7 (m:Ea):Prop where
  sh:∃s,Ta m.kind=some s
  ok:Ol m
  h1:m.tok.length<=10000
  h2:m.args.length<=10000
  h3:m.data.length<=10000
variable {m:Ea}
theorem Y7.rng (h:Y7 m):13<=m.kind/\m.kind<=20:=by
 obtain⟨s,hs⟩:=h.sh
 have:=Axd hs
 omega
theorem Apb (h:Y7 m):Q9 m=Gn m.kind (Lk m).1:=by
 have hr:=h.rng
 have hq:=(M4 m h.h1 h.h2 h.h3).2.2.1 h.ok
 have hl:=Yp m
 have he:Q1 m.kind (Lk m).1=(Gn m.kind (Lk m).1,0):=by
  unfold Q1
  rw[if_neg (by omega),if_neg (by omega)]
 rw[he] at hq
 rw[Afu h.h1 h.h2 h.h3 (by rw[hq]),hq]
def itM (m:Ea):E8:=⟨0,m.kind,(Lk m).1⟩
theorem At7 {L:List Ea} (h:∀m∈L,Y7 m):Kv (L.map Q9).flatten=L.map fun m=>(itM m,((Lk m).1.length:Int)+10):=by
 have e:L.map Q9=(L.map fun m=>(m.kind,(Lk m).1)).map fun x=>Gn x.1 x.2:=by
  rw[List.map_map]
  exact List.map_congr_left fun m hm=>Apb (h m hm)
 rw[e,Aj3 (fun x hx=>by
  obtain⟨m,hm,rfl⟩:=A4.1 hx
  have:=(h m hm).rng
  exact⟨⟨by dsimp only;omega,by dsimp only;omega⟩,Yp m⟩),List.map_map]
 rfl
theorem A0m (h:Y7 m) (hp:(Lk m).1.length<=1000000):Fd m.kind (Lk m).1 hp=(m,0):=by
 refine (Pm m.kind (Lk m).1 hp).2 m rfl h.ok ?_
 rw[<- List.append_assoc]
 exact congrArg Prod.fst (if_pos h.ok)
end
theorem Aeu (l:List Ea) (fid:FuncId) (caps:List AV) (p:Ea->Bool) (hl:l.length<=1000000) (hc:Abz caps) (hp:∀t,t∈l->PP fid [] (t.g::caps) [] (.lb (p t))):PP 158 [] [.mMsg l,.fn fid caps] [] (.li (Il p l)):=by
 refine Em Tryz.func158 ?_
 refine Bw<|.seq ?_
 refine Bw<|.block ?_
 refine De l.length (fun i1=>⟨[(0,.mMsg l),(1,.fn fid caps),(7,.li l.length),(8,.li i1)],[]⟩) (fun i1=>Il p l=Gz p (l.drop i1) i1) (wQ [] ?_ ?_) rfl fun i1 hi1 hI=>?_
 ·simp[go_sem,hc.ren]
 ·simp[go_sem,hc.ren]
 refine Bw<|.seq ?_
 refine B6 ?_ ?_<;>intro h9
 ·have hx:l[i1]? = some l[i1]:=Aa h9
  generalize l[i1]=t at hx
  rw[Ly p hx] at hI
  refine Bv<|.seq<|.block<|.R ?_
  refine Ce (fun K kk=>by simp[go_sem,hx,hc.pass,hc.passC,hc.bor,hc.low];(repeat refine aK ?_);refine .lo (hp t (Ac hx)) (by simp[go_sem,hc.low]) (by simp) ?_;simp[go_sem,hx,hc.pass,hc.passC,hc.bor,hc.low];exact kk) ?_
  refine B6 ?_ ?_<;>intro h16
  ·rw[if_pos h16] at hI
   refine Bw ?_
   exact .ret (rL hI)
  rw[h16] at hI
  simp only[Bl,if_false] at hI
  refine Bv<|.R1 ?_
  refine⟨by omega,hI,wQ [] ?_ ?_⟩
  ·simp[go_sem,Dx ((i1:Int)+1),hc.ren,h9,h16]
  simp[go_sem]
 have he:i1=l.length:=by omega
 subst he
 rw[Nn] at hI
 refine B4<|.R ?_
 exact .ret (rL hI)
section
theorem Zo {α:Type} (p:α->Bool):∀(l:List α) (i:Nat),(Gz p l i = -1/\∀t∈l,p t=false)\/∃(k:Nat) (t:α),Gz p l i=(i+k:Nat)/\l[k]? = some t/\p t=true/\∀u∈l.take k,p u=false
 | [],i=>.inl ⟨rfl,fun t h=>by cases h⟩
 | a::l,i=>by
  by_cases ha:p a=true
  ·exact .inr ⟨0,a,by simp[Gz,ha],rfl,ha,fun u h=>by cases h⟩
  have ha:p a=false:=by simpa using ha
  rcases Zo p l (i+1) with⟨h1,h2⟩ | ⟨k,t,h1,h2,h3,h4⟩
  ·refine .inl ⟨by simp[Gz,ha,h1],fun t h=>?_⟩
   rcases List.mem_cons.1 h with rfl | h
   ·exact ha
   exact h2 t h
  refine .inr ⟨k+1,t,by simp[Gz,ha,h1];omega,h2,h3,fun u h=>?_⟩
  rw[List.take_succ_cons] at h
  rcases List.mem_cons.1 h with rfl | h
  ·exact ha
  exact h4 u h
variable {α:Type}
theorem Ad4 {p:α->Bool} {l:List α} (h:∀t∈l,p t=false):l.filter (fun t=>!p t)=l:=List.filter_eq_self.2 fun t ht=>by simp[h t ht]
theorem Ac5 {p:α->Bool} {l:List α} {j:Nat} {t:α} (h:l[j]? = some t):(l.take (j+1)).filter (fun t=>!p t)=(l.take j).filter (fun t=>!p t)++if p t then [] else [t]:=by
 rw[List.take_add_one,h,List.filter_append]
 cases hp:p t<;>simp[hp]
end
section
variable {es:List (List T)}
theorem A4s (h:∀e∈es,e.length=4) {i:Nat} (hi:i<es.length):∃a b c d,es[i]? = some [a,b,c,d]:=by
 have h1:=Aa hi
 have h2:=h _ (Ac h1)
 match hx:es[i],h2 with
 | [a,b,c,d],_=>exact⟨a,b,c,d,by rw[h1,hx]⟩
variable {l:List Ea} {t:Ea}
theorem Auw {j:Nat} (h:es.drop j=T3 (l.drop j)) (ht:l[j]? = some t):es[j]? = some t.t:=by
 have h1:(es.drop j)[0]? = some t.t:=by
  rw[h,Ap,Bd]
  simp[ht]
 rw[Bd] at h1
 simpa using h1
theorem Atw {α:Type} (es vs:List α) (i:Nat):(K4 es i vs).take i=es.take i:=by
 refine List.ext_getElem? fun j=>?_
 by_cases h:j<i
 ·rw[Ag h,Ag h,Jy,if_neg (by omega)]
 rw[List.getElem?_take_eq_none (by omega),List.getElem?_take_eq_none (by omega)]
structure Apx (p:Ea->Bool) (l:List Ea) (es:List (List T)) (i j:Nat):Prop where
  len:es.length=l.length
  ij:i<j
  jl:j<=l.length
  four:∀e∈es,e.length=4
  kept:es.take i=T3 ((l.take j).filter fun t=>!p t)
  rest:es.drop j=T3 (l.drop j)
variable {p:Ea->Bool} {i j:Nat}
theorem Apx.skip (h:Apx p l es i j) (ht:l[j]? = some t) (hp:p t=true):Apx p l es i (j+1):=by
 have hj:=(Ab.1 ht).1
 refine⟨h.len,by have:=h.ij;omega,hj,h.four,by rw[Ac5 ht,if_pos hp,List.append_nil];exact h.kept,?_⟩
 have:=congrArg (List.drop 1) h.rest
 rw[List.drop_drop,<- List.map_drop,List.drop_drop] at this
 simpa[Ba] using this
theorem Apx.keep (h:Apx p l es i j) (ht:l[j]? = some t) (hp:p t=false):Apx p l (es.set i t.t) (i+1) (j+1):=by
 have hj:=(Ab.1 ht).1
 have hij:=h.ij
 have hl:=h.len
 refine⟨by rw[List.length_set];exact h.len,by omega,hj,fun e he=>?_,?_,?_⟩
 ·rcases Bi he with h1 | h1
  ·exact h.four e h1
  rw[h1];rfl
 ·rw[Ac5 ht,hp]
  simp only[Bl,if_false,List.map_append,List.map_cons,List.map_nil]
  rw[show List.map Ea.t (List.filter (fun t=>!p t) (List.take j l))=es.take i from h.kept.symm,List.take_add_one,List.take_set_of_le (Aj _),Bg (by omega)]
  rfl
 rw[List.drop_set_of_lt (by omega)]
 have:=congrArg (List.drop 1) h.rest
 rw[List.drop_drop,<- List.map_drop,List.drop_drop] at this
 simpa[Ba] using this
theorem Xd (l:List Ea) (fid:FuncId) (caps:List AV) (p:Ea->Bool) (hl:l.length<=1000000) (hc:Abz caps) (hp:∀t,t∈l->PP fid [] (t.g::caps) [] (.lb (p t))) :
 ∃R:List (List T),PP 132 [.row 56 4 false false (T3 l)] [.own 0 l.length,.fn fid caps] [.row 56 4 false true R] (.mMsg (l.filter fun t=>!p t))/\True:=by
 refine Aft (D:=List (List T)) (F:=fun d=>.mMsg (l.filter fun t=>!p t)) (S:=fun d=>[.row 56 4 false true d]) (Q:=fun d=>True) Tryz.func132 rfl rfl rfl (by simp[Tryz.ntmps132]) ?_
 refine Bq ?_
 refine B3 (fun K kk=>by simp[go_sem,hc.pass,hc.passC,hc.bor,hc.low];refine .lo (Aeu l fid caps p hl hc hp) (by simp[go_sem,hc.low]) (by simp[AV.cln,Fu]) ?_;simp[go_sem,hc.pass,hc.passC,hc.bor,hc.low];exact kk)<|.seq ?_
 refine Bq ?_
 rcases Zo p l 0 with⟨h1,h2⟩ | ⟨k,t0,h1,h2,h3,h4⟩
 ·have hi:Il p l = -1:=h1
  have hf:=Ad4 h2
  simp only[hi]
  refine Cs ?_ ?_<;>intro h12<;>simp[go_sem] at h12
  refine Bq ?_
  refine B2 Dz 0 ?_
  refine Bz ⟨T3 l,Acv [0] (by simp[go_sem]) (by decide) (by simp) (by simp[go_sem,hf]) ?_,trivial⟩
  repeat' (first | exact .nil | refine .cons (by simp[go_sem]) ?_)
 have hi:Il p l=(k:Int):=by unfold Il;rw[h1];simp
 have hkl:=(Ab.1 h2).1
 simp only[hi]
 refine Cs ?_ ?_<;>intro h12<;>simp[go_sem] at h12
 refine Bp ?_
 have hw:=Dx ((k:Int)+1)
 refine Ca<|.H hw<|.block ?_
 have hI0:Apx p l (T3 l) k (k+1):=⟨by simp,by omega,by omega,fun e he=>by obtain⟨m,_,rfl⟩:=A4.1 he;rfl,by rw[Ac5 h2,if_pos h3,List.append_nil,Ad4 h4];exact List.map_take.symm,List.map_drop.symm⟩
 refine Cj (fun (y:List (List T)×Nat×Nat)=>⟨[(0,.own 0 y.1.length),(1,.fn fid caps),(5,.li (y.2.1:Int)),(6,.li (y.2.2:Int))],[.row 56 4 false false y.1]⟩) (fun y=>Apx p l y.1 y.2.1 y.2.2) (fun y=>l.length - y.2.2) (T3 l,k,k+1) (wQ [0] ?_ ?_) hI0 fun y hy=>?_
 ·simp[go_sem,hc.ren]
 ·simp[go_sem]
 have hy1:=hy.len
 have hy2:=hy.ij
 have hy3:=hy.jl
 refine Ca<|.R ?_
 refine Br ?_ ?_<;>intro h19
 ·refine Bp<|.seq<|.block ?_
  obtain⟨t,ht⟩:∃t,l[y.2.2]? = some t:=⟨_,Aa (by omega)⟩
  have hxj:=Auw hy.rest ht
  obtain⟨a,b,c,d,hxi⟩:=A4s hy.four (i:=y.2.1) (by omega)
  refine Bt hxj ?_
  refine B3 (fun K kk=>by simp[go_sem,hc.pass,hc.passC,hc.bor,hc.low];refine .lo (hp t (Ac ht)) (by simp[go_sem,hc.low]) (by simp) ?_;simp[go_sem,hc.pass,hc.passC,hc.bor,hc.low];exact kk) ?_
  have hwj:=Dx ((y.2.2:Int)+1)
  have hwi:=Dx ((y.2.1:Int)+1)
  refine Br ?_ ?_<;>intro h29
  ·refine B3 (fun K kk=>by simp[go_sem,hxi,K4];repeat first | exact kk | refine aK ?_) ?_
   refine B0 hwi ?_
   refine B0 hwj ?_
   refine⟨(y.1.set y.2.1 t.t,y.2.1+1,y.2.2+1),by dsimp only;omega,hy.keep ht h29,wQ [0] ?_ ?_⟩
   ·simp[go_sem,hc.ren]
   simp[go_sem]
  refine Bp<|.H1 hwj ?_
  refine⟨(y.1,y.2.1,y.2.2+1),by dsimp only;omega,hy.skip ht h29,wQ [0] ?_ ?_⟩
  ·simp[go_sem,hc.ren]
  simp[go_sem]
 refine Bu ?_
 have hj:y.2.2=l.length:=by omega
 have hk:=hy.kept
 rw[hj,List.take_length] at hk
 refine B3 (fun K kk=>by simp[go_sem,Fr];repeat first | exact kk | refine aK ?_) ?_
 refine B3 (fun K kk=>by simp[go_sem,Fr];repeat first | exact kk | refine aK ?_) ?_
 refine Do 0 ?_
 simp[go_sem,-Prod.exists,Fr]
 refine Bz ⟨K4 y.1 y.2.1 (List.replicate (y.1.length - y.2.1) [.li 0,.sl 1 [],.sl 1 [],.sl 1 []]),Acv [0] (by simp[go_sem]) (by decide) (by simp) (by simp[go_sem,hk,Fr,Atw]) ?_,trivial⟩
 repeat' (first | exact .nil | refine .cons (by simp[go_sem,Fr]) ?_)
end
def Atf (r d:Jg):Prop:=d.num=r.num/\d.ag=r.ag
section
variable (r:Jg) (n:Int) (hb:Uc r)
include n hb
theorem Qc:Ct 147 [r.g,.li n] (fun d:Jg=>d.g) (fun d=>Uc d/\Atf r d/\d.toks=J0 r.toks n hb.toks hb.tsec/\d.vehs=r.vehs/\d.bk=N9 r.bk):=by
 refine Ex Tryz.func147 ?_
 have hq:=Ag1 r.toks n hb.toks hb.tsec
 refine Bq ?_
 refine B8 Dz (Pb r hb) ?_
 refine B8 Dz (Aga r.toks n hb.toks hb.tsec) ?_
 refine B8 Dz (Anp r.bk) ?_
 refine Bq ?_
 exact .ret (fin Dz ⟨r.num,r.ag,(J0 r.toks n hb.toks hb.tsec),r.vehs,(N9 r.bk)⟩ ⟨⟨hb.sec,hb.lims,by dsimp only;rw[hq.1];exact hb.toks,hq.2,hb.vehs⟩,⟨rfl,rfl⟩,rfl,rfl,rfl⟩)
def G8:Jg:=(Ep (Qc r n hb)).choose
theorem Aen:PP 147 [] [r.g,.li n] [] (.agg ((G8 r n hb).a false)):=(Ep (Qc r n hb)).choose_spec.1
theorem Ku:Uc (G8 r n hb)/\Atf r (G8 r n hb)/\(G8 r n hb).toks=J0 r.toks n hb.toks hb.tsec/\(G8 r n hb).vehs=r.vehs/\(G8 r n hb).bk=N9 r.bk:=(Ep (Qc r n hb)).choose_spec.2
end
section
variable (x:Dy) (n:Int) (hb:L8 x)
include n hb
theorem Vh:Ct 124 [x.g,.li n] (fun d:Dy=>d.g) (fun d=>L8 d/\d.reg=G8 x.reg n hb.reg/\d.reqs=x.reqs.filter (fun r=>decide (n<=r.unt))/\d.draws=x.draws/\d.aud=x.aud):=by
 refine Ex Tryz.func124 ?_
 refine Bq ?_
 refine B8 Dz (Mu x hb) ?_
 refine B8 Dz (Aen x.reg n hb.reg) ?_
 refine B8 Dz (Acn x.reqs n hb.reqs hb.legs) ?_
 refine Bq ?_
 exact .ret (fin Dz ⟨(G8 x.reg n hb.reg),(List.filter (fun r:Ew=>decide (n<=r.unt)) x.reqs),x.draws,x.aud⟩ ⟨⟨(Ku x.reg n hb.reg).1,Ak (Az _ _) hb.reqs,fun r h=>hb.legs r (Bn.1 h).1,hb.draws,hb.draw,hb.aud⟩,rfl,rfl,rfl,rfl⟩)
def Et:Dy:=(Ep (Vh x n hb)).choose
theorem Alf:PP 124 [] [x.g,.li n] [] (.agg ((Et x n hb).a false)):=(Ep (Vh x n hb)).choose_spec.1
theorem Oe:L8 (Et x n hb)/\(Et x n hb).reg=G8 x.reg n hb.reg/\(Et x n hb).reqs=x.reqs.filter (fun r=>decide (n<=r.unt))/\(Et x n hb).draws=x.draws/\(Et x n hb).aud=x.aud:=(Ep (Vh x n hb)).choose_spec.2
end
section
variable (x:Dy) (l:List Gp) (now:Int) (hr:x.reqs.length<=1000000) (hq4:x.reg.ag.rq<=3) (hl:l.length<=4) (hv:∀v∈l,v.col.length<=8/\v.cnt.length<=8)
include now hr hq4 hl hv
theorem Tp:Ct 131 [x.g,.mView l,.li now] (fun d:Ea=>d.g) (fun d=>d.kind=17/\d.args=[now]/\d.tok=[]/\d.data.length=vwl l+(x.reg.ag.rq*3).toNat/\By d.data):=by
 refine Ex Tryz.func131 ?_
 have hlM:l.length<=1000000:=by omega
 have hv8:∀v∈l,v.col.length<=8:=fun v h=>(hv v h).1
 obtain⟨Y1,cY1,qY1⟩:=Ep (Af1 x.reqs x.reg.ag.rq l now hr hlM hv8 hq4)
 have hc:=qY1
 have hcM:Y1.length<=1000:=by omega
 refine Bq ?_
 refine B8 Dz cY1 ?_
 obtain⟨Y2,cY2,qY2⟩:=Ep (Ab4 now l Y1 hl hv hcM)
 refine B8 Dz cY2 ?_
 exact .ret (fin Dz Y2 (by have hm:=qY2;have hB:=U1 l hl hv;exact⟨hm.1,hm.2.1,hm.2.2.1,by rw[hm.2.2.2];simp only[Bo];omega,by rw[hm.2.2.2];exact (Acx l hl hv).app hc.2⟩))
def Fg:Ea:=(Ep (Tp x l now hr hq4 hl hv)).choose
theorem Aiv:PP 131 [] [x.g,.mView l,.li now] [] (.agg ((Fg x l now hr hq4 hl hv).a false)):=(Ep (Tp x l now hr hq4 hl hv)).choose_spec.1
theorem Qx:(Fg x l now hr hq4 hl hv).kind=17/\(Fg x l now hr hq4 hl hv).args=[now]/\(Fg x l now hr hq4 hl hv).tok=[]/\(Fg x l now hr hq4 hl hv).data.length=vwl l+(x.reg.ag.rq*3).toNat/\By (Fg x l now hr hq4 hl hv).data:=(Ep (Tp x l now hr hq4 hl hv)).choose_spec.2
theorem Ai1:(Fg x l now hr hq4 hl hv).kind=17/\(Fg x l now hr hq4 hl hv).args=[now]/\(Fg x l now hr hq4 hl hv).tok=[]/\(Fg x l now hr hq4 hl hv).data.length<=60:=by have h:=Qx x l now hr hq4 hl hv;have:=Acf hv;exact⟨h.1,h.2.1,h.2.2.1,by omega⟩
end
theorem Yt (r:Jg) (l:List Int) (slot:Int) (now:Int) (sec:List Int) (hb:Uc r) (hl:3<=l.length) (hs:sec.length<=1000):Cx 233 [.box 66 (r.a false)] [.ptr 0 0,.mI l,.li slot,.li now,.mY sec] (fun d:Ea×Int×Jg=>[.box 66 (d.2.2.a false)]) (fun d=>.tup [d.1.g,.li d.2.1]) (fun d=>Uc d.2.2/\d.2.2.num=r.num/\d.2.2.ag=r.ag/\d.2.2.vehs=r.vehs/\d.2.2.bk=r.bk/\d.1.tok=[]/\d.1.args.length<=1/\d.1.data.length<=1002/\(d.2.1=0->d.1.kind=16/\(By sec->By d.1.data)/\∃v,d.1.args=[v]/\NB v/\d.1.data.length=10)/\0<=d.2.1/\d.2.1<=99):=by
 refine U3 Tryz.func233 ?_
 have hsM:sec.length<=1000000:=by omega
 refine Bq ?_
 refine Bt Dz<|.seq ?_
 refine B2 Dz 2 ?_
 obtain⟨e1,H1⟩:=gx l 0
 obtain⟨e2,H2⟩:=gx l 1
 obtain⟨e3,H3⟩:=gx l 2
 obtain⟨Y1,cY1,qY1⟩:=Ep (Ws r.toks slot e1 e2 e3 (List.replicate 8 0) now hb.toks hb.tsec (by simp))
 refine Db (Hq H1 H2 H3) cY1 ?_
 refine Bt (Hq H1 H2 H3) ?_
 refine Br ?_ ?_<;>intro h43
 ·refine Bt (Hq H1 H2 H3) ?_
  exact .ret ⟨(⟨0,[],[],[]⟩,Y1.2.2,r),rW (Hq H1 H2 H3) [0],⟨hb,rfl,rfl,rfl,rfl,rfl,by simp,by simp,fun h=>absurd h h43,qY1.2.2.1⟩⟩
 refine Bp<|.seq<|.H (Hq H1 H2 H3) ?_
 refine Br ?_ ?_<;>intro h48
 ·refine Bt (Hq H1 H2 H3) ?_
  exact .ret ⟨(⟨0,[],[],[]⟩,18,r),rW (Hq H1 H2 H3) [0],⟨hb,rfl,rfl,rfl,rfl,rfl,by simp,by simp,fun h=>absurd h (by simp),by simp⟩⟩
 refine Bp ?_
 obtain⟨Y2,cY2,qY2⟩:=Ep (Ws r.toks slot e1 e2 e3 sec now hb.toks hb.tsec hsM)
 have hqd:=qY2
 refine Db (Hq H1 H2 H3) cY2<|.seq ?_
 refine Bt (Hq H1 H2 H3) ?_
 refine Br ?_ ?_<;>intro h72
 ·refine Bt (Hq H1 H2 H3) ?_
  exact .ret ⟨(⟨0,[],[],[]⟩,Y2.2.2,r),rW (Hq H1 H2 H3) [0],⟨hb,rfl,rfl,rfl,rfl,rfl,by simp,by simp,fun h=>absurd h h72,qY2.2.2.1⟩⟩
 refine Bp<|.H (Hq H1 H2 H3) ?_
 obtain⟨Y3,cY3,qY3⟩:=Ep (Ah8 r.num Y2.2.1 sec hs)
 refine B8 (Hq H1 H2 H3) cY3 ?_
 refine Bt (Hq H1 H2 H3) ?_
 refine B2 Dz 3 ?_
 exact .ret ⟨(⟨16,[],[Y2.2.1],Y3⟩,0,⟨r.num,r.ag,Y2.1,r.vehs,r.bk⟩),rW (Hq H1 H2 H3) [0],⟨⟨hb.sec,hb.lims,Ak hqd.1 hb.toks,hqd.2.1,hb.vehs⟩,rfl,rfl,rfl,rfl,rfl,by simp,by dsimp only;rw[qY3.1];omega,fun _=>⟨rfl,qY3.2,_,rfl,⟨(hqd.2.2.2 h72).1,by have:=(hqd.2.2.2 h72).2.1;omega⟩,by have:=(hqd.2.2.2 h72).2.2;dsimp only;rw[qY3.1];omega⟩,by simp⟩⟩
section
theorem Ec.lit_eq {C:VC} {v u:Value} (h:Ec C (.lit v) u):u=v:=by
 cases h
 rfl
theorem Ec.nil_eq {C:VC} {k:Nat} {u:Value} (h:Ec C (.nil k) u):∃A,u=.slice A 0 0:=by
 cases h
 exact⟨_,rfl⟩
variable {P:Program}
theorem At6 {f:FuncId} (hc:Ah5 P f) (args:List AV) (ty k:Nat) (hk:0<k) (hraw:∀(C:VC) (us:Array Value) (w:World),us.size=args.length->(∀t,Ec C (E9 (Ic 0 args) t) (us.getD t undef))->Calls P f us w fun e w'=>∃v,e=.returned v/\(w'.ownsRow w.heap.size ty k v 0 []\/∃A,v=.slice A 0 0)/\Below w.heap.size w w'):E7 P f [] args [.row ty k true false []] (.own 0 0):=by
 refine⟨hc,fun E β us hn ho hβ r=>?_⟩
 have hsz:us.size=args.length:=by
  have:=r.sz
  rw[hn] at this
  exact this
 refine (hraw _ us E.w0 hsz r.sl).mono ?_
 rintro e w' ⟨v,rfl,hown,hb⟩
 have hkp:Kp (fun _=>False) E.w0 w':=⟨hb.os,hb.tape,hb.output,hb.size,fun b hb' _=>hb.block b hb'⟩
 have r1:=r.grow hkp
 have hgone:∀id,(St.mk (Ic 0 args) []).o id=.gone:=fun id=>by simp[St.o]
 have ho0:∀id,E.o0 id=.gone:=fun id=>by rw[ho];simp[St.o]
 have hct:∀C:VC,Apy E.w0.heap E.o0 E.β0 C:=fun C=>⟨fun id ty cs h=>(by rw[ho0] at h;cases h),fun id ty k fr fz es h=>(by rw[ho0] at h;cases h)⟩
 have hst:∀id,(St.mk [(0,AV.own 0 0)] [Ob.row ty k true false []]).o id=if id=0 then .row ty k true false [] else .gone:=fun id=>by
  cases id with
  | zero=>rfl
  | succ n=>simp[St.o]
 have hds:=r1.df
 have fin:∀β':Nat->Option Nat,(∀b,β' 0=some b->b<w'.heap.size/\E.w0.heap.size<=b)->Ec (({ E with n:=1 }:Gs).C β' ⟨[(0,.own 0 0)],[.row ty k true false []]⟩ w') (.own 0 0) v->Kx (({ E with n:=1 }:Gs).C β' ⟨[(0,.own 0 0)],[.row ty k true false []]⟩ w') 0 (.row ty k true false []) ->
  Eu { E with n:=1 } β' ⟨[(0,.own 0 0)],[.row ty k true false []]⟩ ⟨#[v],[]⟩ w':=fun β' h1 h2 h3=>by
  refine⟨rfl,fun t=>?_,hds,fun id=>?_,fun i j b hi hj _ _=>?_,fun i b hi hb'=>?_,r1.kp,hct _,r1.kb,r1.dk⟩
  ·cases t with
   | zero=>exact h2
   | succ t=>simp[E9];exact .any _
  ·rw[hst]
   by_cases e:id=0
   ·subst e;exact h3
   rw[if_neg e];trivial
  ·rw[hst] at hi hj
   have e1:i=0:=by
    by_cases e:i=0
    ·exact e
    rw[if_neg e] at hi;exact absurd rfl hi
   have e2:j=0:=by
    by_cases e:j=0
    ·exact e
    rw[if_neg e] at hj;exact absurd rfl hj
   rw[e1,e2]
  rw[hst] at hi
  have e1:i=0:=by
   by_cases e:i=0
   ·exact e
   rw[if_neg e] at hi;exact absurd rfl hi
  subst e1
  have:=h1 b hb'
  exact⟨this.1,.inl this.2⟩
 have h2:(∃A,v=.slice A 0 0)\/∃g cap cur,v=.slice (some ⟨g,0,none⟩) 0 cap/\E.w0.heap.size<=g/\w'.heap[g]? = some (.cells cur ty (0,0))/\cap<=maxLen/\cur.size=cap*k:=by
  rcases hown with⟨_,⟨rfl,_⟩ | ⟨g,cap,cur,h1,h2,h3,_,h5,h6,_⟩⟩ | hA
  ·exact .inl ⟨_,rfl⟩
  ·exact .inr ⟨g,cap,cur,h1,h2,h3,h5,h6⟩
  exact .inl hA
 rcases h2 with⟨A,rfl⟩ | ⟨g,cap,cur,rfl,hg,hh,hml,hcs⟩
 ·refine⟨_,fun _=>none,rfl,fin _ (fun b h=>by cases h) (.own _ _ _ ⟨rfl,ty,k,true,false,[],rfl,Aj _,fun _=>?_⟩) ⟨⟨hk,fun i e he=>by simp at he⟩,?_⟩⟩
  ·exact⟨A,rfl⟩
  show ([]:List (List T))=[]
  rfl
 refine⟨_,fun _=>some g,rfl,fin _ (fun b h=>?_) (.own _ _ _ ⟨rfl,ty,k,true,false,[],rfl,Aj _,fun _=>?_⟩) ⟨⟨hk,fun i e he=>by simp at he⟩,?_⟩⟩
 ·injection h with h
  subst h
  exact⟨(Aw.1 hh).1,hg⟩
 ·exact⟨cap,cur,hh,hcs,rfl⟩
 exact⟨cur,cap,hh,hcs,Ae _,hml,fun i e j x he=>by simp at he⟩
theorem Abd (A:Option Addr) (w:World) (t tn ty e:TypeId) (i:TypeInfo) (z:Value) (k kn:IntKind) (ht:P.underlying t=some (.slice e)) (htn:P.underlying tn=some (.int kn)) (hi:P.info? e=some i) (hz:i.zero=some z) (n:Nat) (h0:0<n) (hs:0<i.size) (h63:(n:Int)<=9223372036854775807) (h48:n*i.bytes<=281474976710656) :
  (Builtin.append_ #[t,tn] ty #[.slice A 0 0,.int k n]).run P w =
   .ok (.slice (some ⟨w.heap.size,0,none⟩) n (grownCap w n 0 e)) (w.drew.alloc (.cells (Builtin.zeroCells z.cells n++Builtin.zeroCells z.cells (grownCap w n 0 e - n)) e)):=by
 have hn:n≠0:=by omega
 have hw:IntKind.i64.wrap (n:Int)=n:=by rw[IntKind.wrap_i64];omega
 have h63':¬(9223372036854775807<(n:Int)):=by omega
 have h48':¬(281474976710656<Builtin.nextslicecap n 0*i.bytes):=by rw[nextslicecap_zero h0];omega
 have h48i:¬(281474976710656<(n:Int)*(i.bytes:Int)):=by
  rw[<- Int.natCast_mul]
  omega
 have hneg:¬((n:Int)<0):=by omega
 have hns:¬(n*i.size=0):=Nat.mul_ne_zero hn (by omega)
 have hf:∀w1:World,(Builtin.firstCells i.size 0 (.slice A 0 0)).run P w1=.ok #[] w1:=fun w1=>by
  cases A with
  | none=>exact run_firstCells_none ..
  | some a=>simp[Builtin.firstCells,loadCells,loadCellsFrom]
 simp[Builtin.append_,run_underlying ht,run_underlying htn,sizeOf,typeInfo,zeroValue,hi,hz,asInt,asIntOf,hw,hn,hneg,hns,h63',h48',h48i,Question.forced,hf,newRow,grownCap]
theorem A57:(Tryz.prog.info? 216).map (fun i=>(i.zero,i.size,i.bytes))=some (some (.agg #[.int .i64 0,.int .i64 0]),2,16):=by kernel_rfl
theorem Ago (z:Array Value) (n:Nat):(Builtin.zeroCells z n).size=n*z.size:=by simp[Builtin.zeroCells]
theorem Aus (A:Option Addr) (n:Nat) (hn:n<=100000) (w:World) :
 Calls Tryz.prog 278 #[.slice A 0 0,.int .i64 (n:Int)] w fun e w'=>∃v,e=.returned v/\(w'.ownsRow w.heap.size 216 2 v 0 []\/∃A,v=.slice A 0 0)/\Below w.heap.size w w':=by
 go_enter Tryz.func278,Tryz.ntmps278
 by_cases h0:n=0
 ·subst h0
  go_wp2_with fail
  go_ret
  exact⟨_,rfl,.inr ⟨A,rfl⟩,Below.refl _ _⟩
 have h1:(0:Int)<(n:Int):=by omega
 obtain⟨i,hi,hzz⟩:=Option.map_eq_some_iff.1 A57
 simp only[Prod.mk.injEq] at hzz
 obtain⟨hz,hs,hb⟩:=hzz
 have hrun:=Abd A (P:=Tryz.prog) w 62 3 62 216 i (.agg #[.int .i64 0,.int .i64 0]) .i64 .i64 Tryz.underlying62 Tryz.underlying3 hi hz n (by omega) (by omega) (by omega) (by rw[hb];omega)
 have hge:=grownCap_ge w n 0 216
 have hle:=grownCap_le_maxLen w n 0 216 (by unfold maxLen;omega)
 generalize grownCap w n 0 216=cap2 at hrun hge hle
 generalize hZ:(Builtin.zeroCells (Value.agg #[.int .i64 0,.int .i64 0]).cells n++Builtin.zeroCells (Value.agg #[.int .i64 0,.int .i64 0]).cells (cap2 - n))=Z at hrun
 have hZs:Hid (Z.size=cap2*2):=Lib.hid (by
  rw[<- hZ,Array.size_append,Ago,Ago]
  have:(Value.agg #[.int .i64 0,.int .i64 0]).cells.size=2:=rfl
  rw[this];omega)
 have hleH:=Lib.hid hle
 have hrunH:=Lib.hid hrun
 clear hZ hle hrun
 go_wp2_with (at_builtin;refine Lib.wpList_append_run _ rfl _ _ _ _ rfl _ _ rfl rfl _ _ hrunH.out ?_)
 go_ret
 exact⟨_,rfl,.inl ⟨rfl,.inr ⟨w.heap.size,cap2,Z,rfl,Aj _,heap_alloc_new _ _,Ae _,hleH.out,hZs.out,rfl⟩⟩,Apj ((Below.refl _ _).alloc (Aj _) _) 1⟩
theorem Agf (n:Nat) (hn:n<=100000):PP 278 [] [.nil 0,.li (n:Int)] [.row 216 2 true false []] (.own 0 0):=by
 refine At6 ⟨_,Tryz.func278,rfl,rfl⟩ [.nil 0,.li (n:Int)] 216 2 (by decide) fun C us w hsz hus=>?_
 obtain⟨A,h0⟩:=Ec.nil_eq (hus 0)
 have h1:=Ec.lit_eq (hus 1)
 have e:us = #[.slice A 0 0,.int .i64 (n:Int)]:=by
  obtain⟨l⟩:=us
  match l,hsz with
  | [a,b],_ =>
   simp at h0 h1
   rw[h0,h1]
 rw[e]
 exact Aus A n hn w
end
abbrev Ajn (l:List (List G6)):List (List T):=l.map fun x=>[.sl 2 (Aaa x)]
theorem Aqi (n:Int) (h0:0<=n) (hn:n<=100000):PP 278 [] [.nil 0,.li n] [.row 216 2 true false []] (.own 0 0):=by
 have:=Agf n.toNat (by omega)
 rwa[Int.toNat_of_nonneg h0] at this
section
variable (ls:List (List G6)) (hl:ls.length<=10) (hs:∀x∈ls,x.length<=1000)
include hl hs
theorem M7:∃d:List G6,PP 261 [] [.imm false 1 (Ajn ls)] [.row 216 2 false false (Aaa d)] (.own 0 d.length)/\(d.length=(ls.map List.length).sum):=by
 refine Oh (D:=List G6) (F:=fun d=>.own 0 d.length) (S:=fun d=>[.row 216 2 false false (Aaa d)]) (Q:=fun d=>d.length=(ls.map List.length).sum) Tryz.func261 rfl rfl rfl (by simp[Tryz.ntmps261]) ?_
 refine Bq ?_
 refine Bq<|.seq ?_
 refine Bq<|.block ?_
 refine Bs ls.length (fun i1 (y1:Int)=>⟨[(0,.imm false 1 (Ajn ls)),(3,.li y1),(9,.imm false 1 (Ajn ls)),(10,.li ls.length),(11,.li i1)],[]⟩) (fun i1 y1=>0<=y1/\y1<=1000*i1) (0) (wk Dz []) (by omega) fun i1 y1 hi1 hy1=>?_
 refine Bq<|.seq ?_
 refine Br ?_ ?_<;>intro h12
 ·refine Bp<|.seq<|.block ?_
  obtain⟨e1,H1⟩:=gx ls i1
  refine Bt H1 ?_
  have hb:=hs e1 (Ac H1)
  have hw2:=Dx (y1+e1.length:Int)
  refine Bt (Fa H1 hw2) ?_
  refine Bt (Fa H1 hw2) ?_
  refine Cs ?_ ?_<;>intro h20<;>simp[go_sem] at h20
  ·exfalso;omega
  refine Bp<|.H1 (Fa H1 hw2) ?_
  refine⟨by omega,((y1+e1.length)),?_,wk (Hq (Dx ((i1:Int)+1)) H1 hw2) []⟩
  omega
 refine Bu<|.S (fun K kk=>by simp[go_sem];refine .by (Aqi y1 hy1.1 (by omega)) (Rc.refl _) (by simp) ?_;simp[go_sem];exact kk)<|.seq ?_
 refine Bq<|.block ?_
 refine Bs ls.length (fun i2 (y2:(List G6))=>⟨[(6,.own 0 y2.length),(25,.imm false 1 (Ajn ls)),(26,.li ls.length),(27,.li i2)],[.row 216 2 false false (Aaa y2)]⟩) (fun i2 y2=>y2.length=((ls.take i2).map List.length).sum/\y2.length<=1000*i2) ([]) (wk Dz [0]) (by simp) fun i2 y2 hi2 hy2=>?_
 refine Bq<|.seq ?_
 refine Br ?_ ?_<;>intro h28
 ·refine Bp<|.seq<|.block ?_
  obtain⟨e3,H3⟩:=gx ls i2
  refine Bt H3 ?_
  have hb:=hs e3 (Ac H3)
  refine B0 H3 ?_
  refine B0 H3 ?_
  exact⟨by omega,(y2++e3),⟨by rw[List.take_add_one,H3];simp[hy2.1],by simp;omega⟩,wk (Fa (Dx ((i2:Int)+1)) H3) [0]⟩
 refine Bu<|.R ?_
 exact .ret ⟨y2,rW Dz [0],(by dsimp only;rw[hy2.1,Bf (by omega)])⟩
def I6:List G6:=(M7 ls hl hs).choose
theorem Z7:PP 261 [] [.imm false 1 (Ajn ls)] [.row 216 2 false false (Aaa (I6 ls hl hs))] (.own 0 (I6 ls hl hs).length):=(M7 ls hl hs).choose_spec.1
theorem Acy:(I6 ls hl hs).length=(ls.map List.length).sum:=(M7 ls hl hs).choose_spec.2
end
theorem E7.fresh {P:Program} {f:FuncId} {σa:List Ob} {args:List AV} {ty k:Nat} {fr fz:Bool} {es:List (List T)} {res:AV} (h:E7 P f σa args [.row ty k fr fz es] res) (hp:es.all (fun e=>e.all T.plain)=true):E7 P f σa args [.row ty k true fz es] res :=
 ⟨h.1,fun E β us hn ho hβ r=>(h.2 E β us hn ho hβ r).mono fun e w' ⟨v,β',he,r'⟩=>⟨v,β',he,(r'.flag (id:=0) rfl (fun _=>.inr hp) (fun h=>h)).1⟩⟩
theorem Z6 (ls:List (List G6)) (hl:ls.length<=10) (hs:∀x∈ls,x.length<=1000):PP 261 [] [.imm false 1 (Ajn ls)] [] (.imm true 2 (Aaa (I6 ls hl hs))):=by
 have h:=(Z7 ls hl hs).fresh (by simp[T.plain,G6.t])
 refine E7.froz (es:=Aaa (I6 ls hl hs)) (fz:=false) (ty:=216) ?_
 simpa using h
theorem Av1 {l:List G6} {p:Nat} (hl:l.length<=1000):∀x∈[l.take p,l.drop (p+1)],x.length<=1000:=by
 intro x hx
 simp only[List.mem_cons,A8,or_false] at hx
 rcases hx with rfl | rfl
 ·rw[A5];omega
 rw[Bc];omega
theorem Ab3 (l:List G6) (id:Int) (hl:l.length<=1000):Ct 237 [.mVeh l,.li id] (fun d:List G6×Int=>.tup [.mVeh d.1,.li d.2]) (fun d=>d.1.length<=l.length/\0<=d.2/\d.2<=99):=by
 refine Ex Tryz.func237 ?_
 have hlM:l.length<=1000000:=by omega
 have hq:=Ae4 l id hlM
 have hv12:=Aeg l id hlM
 obtain⟨p,hp⟩:∃p:Nat,Mx l id hlM=p:=⟨_,(Int.toNat_of_nonneg hq.1).symm⟩
 rw[hp] at hv12 hq
 refine Bq<|.seq ?_
 refine B3 (fun K kk=>by simp[go_sem];refine .l (Aeh l hlM) ?_;simp[go_sem];exact kk) ?_
 refine Br ?_ ?_<;>intro h9
 ·refine Bq ?_
  refine Bz (Fj ?_);simp[go_sem]
  exact⟨([],1),by rfl,Ae _,by decide,by decide⟩
 refine Bp<|.S (fun K kk=>by simp[go_sem];refine .l (hv12) ?_;simp[go_sem];exact kk)<|.seq ?_
 by_cases hc4:p<l.length
 ·obtain⟨e1,H1⟩:=gx l ((p:Int).toNat)
  refine B3 (fun K kk=>by simp[go_sem,hc4,H1];repeat first | exact kk | refine aK ?_) ?_
  refine Br ?_ ?_<;>intro h25
  ·refine B3 (fun K kk=>by simp[go_sem,hc4,H1];exact kk) ?_
   refine Bz (Fj ?_);simp[go_sem,hc4,H1]
   exact⟨([],12),by rfl,Ae _,by decide,by decide⟩
  refine Bp ?_
  have hw2:=Dx ((p:Int)+1:Int)
  refine Cy (fun K kk=>by simp[go_sem,hc4,H1,hw2];(repeat refine aK ?_);refine .lo (Z6 [l.take p,l.drop (p+1)] (by simp) (Av1 hl)) (by simp[AV.low,Kq,List.map_take,List.map_drop]) (by simp[AV.cln,Fu]) ?_;simp[go_sem,hc4,H1,hw2];exact kk) ?_
  refine Bz (Fj ?_);simp[go_sem,hc4,H1,hw2]
  exact⟨((I6 [l.take p,l.drop (p+1)] (by simp) (Av1 hl)),0),by rfl,by dsimp only;rw[Acy];simp only[List.map_cons,List.map_nil,List.sum_cons,List.sum_nil,A5,Bc];omega,by simp,by simp⟩
 have hpe:(p:Int)=(l.length:Int):=by omega
 refine B3 (fun K kk=>by simp[go_sem,hc4,hpe];repeat first | exact kk | refine aK ?_) ?_
 refine Cs ?_ ?_<;>intro h25<;>simp[go_sem] at h25
 refine B3 (fun K kk=>by simp[go_sem,hc4,hpe];exact kk) ?_
 refine Bz (Fj ?_);simp[go_sem,hc4,hpe]
 exact⟨([],12),by rfl,Ae _,by decide,by decide⟩
theorem Agk {l:List Fq} {s:Int} (h:Iy l s=true):0<=s/\s<l.length:=by
 unfold Iy at h
 simp only[Ah,decide_eq_true_eq] at h
 cases hl:l[s.toNat]? with
 | none=>rw[hl] at h;exact Bool.noConfusion h.2
 | some t=>have:=(Ab.1 hl).1;omega
theorem Aqt:Uc ⟨0,⟨[],0,0,[],0,0,0,0⟩,[],[],⟨0,0,0⟩⟩:=by constructor<;>simp
def Hi (m:Ea):Prop:=m.tok.length<=2000/\m.args.length<=2000/\m.data.length<=2000
theorem A2t {m:Ea} {h:1<=m.args.length} {h2:m.args.length<=1000000}:Hi (Gu m h h2):=by
 have:=Xu m h h2
 unfold Hi
 rw[this.2.1,this.2.2.1,this.2.2.2.1]
 simp
def A0y (q m:Ea):Prop:=(m.kind=14/\m.tok=[]/\m.data=[]/\∃v,q.args[0]? = some v/\m.args=[q.kind,v])\/(q.kind=2/\m.kind=16/\m.tok=[]/\∃v,m.args=[v]/\NB v/\m.data.length=10)
def A21 (a b:Jh) (sec:List Int) (q m:Ea):Prop:=b=a/\A0y q m/\(By sec->By m.data)
theorem A2u {a:Jh} {sec:List Int} {m:Ea} {h:1<=m.args.length} {h2:m.args.length<=1000000}:A21 a a sec m (Gu m h h2):=by
 have:=Xu m h h2
 exact⟨rfl,.inl ⟨this.1,this.2.1,this.2.2.1,this.2.2.2.2⟩,fun _=>by rw[this.2.2.1];exact .nil⟩
theorem Za (r:Jg) (m:Ea) (slot:Int) (now:Int) (sec:List Int) (hb:Uc r) (hv9:r.vehs.length<=8) (h1:m.tok.length<=2000) (h2:m.args.length<=2000) (h3:m.data.length<=2000) (a2:m.kind=2->3<=m.args.length) (a1:m.kind=3\/m.kind=4\/m.kind=5->1<=m.args.length) (a4:m.kind=4->2<=m.args.length) (hs:sec.length<=1000):Ct 210 [r.g,m.g,.li slot,.li now,.mY sec] (fun d:Jg×Ea×Bool×Int=>.tup [d.1.g,d.2.1.g,.lb d.2.2.1,.li d.2.2.2]) (fun d=>Uc d.1/\d.1.vehs.length<=8/\(d.2.2.2=0->d.1.num=r.num/\d.1.ag=r.ag/\A21 r.bk d.1.bk sec m d.2.1)/\Hi d.2.1/\0<=d.2.2.2/\d.2.2.2<=99):=by
 refine Ex Tryz.func210 ?_
 have h2M:m.args.length<=1000000:=by omega
 have hv:r.vehs.length<=1000:=by omega
 refine Bq<|.seq ?_
 refine B7 (by rfl) fun K1 hK1=>?_
 simp[go_sem]
 obtain⟨Y1,cY1,qY1⟩:=Ep (Acc r hb)
 refine .l cY1 ?_
 simp[go_sem]
 refine Pv ?_
 simp[go_sem]
 obtain⟨Y2,cY2,qY2⟩:=Ep (Ms m (by omega) (by omega) (by omega))
 refine .lo cY2 rfl (by simp[AV.cln,Fu]) ?_
 simp[go_sem]
 refine Pv ?_
 simp[go_sem]
 refine .lo (Aem r.toks slot) rfl (by simp[AV.cln,Fu]) ?_
 simp[go_sem]
 refine hK1 _ ?_;clear hK1
 refine Br ?_ ?_<;>intro h31
 ·refine Bq ?_
  exact .ret (fin Dz (⟨0,⟨[],0,0,[],0,0,0,0⟩,[],[],⟨0,0,0⟩⟩,⟨0,[],[],[]⟩,false,1) ⟨Aqt,Ae _,fun h=>absurd h (by decide),by simp[Hi],by decide⟩)
 have hu:=Agk (l:=r.toks) (s:=slot) (by exact h31.2)
 refine Bp<|.seq<|.R ?_
 refine Br ?_ ?_<;>intro h41
 ·refine Bq ?_
  exact .ret (fin Dz (⟨0,⟨[],0,0,[],0,0,0,0⟩,[],[],⟨0,0,0⟩⟩,⟨0,[],[],[]⟩,false,1) ⟨Aqt,Ae _,fun h=>absurd h (by decide),by simp[Hi],by decide⟩)
 refine Bp<|.L Dz (Pb r hb) ?_
 refine Bq ?_
 refine Bq<|.seq ?_
 refine Bq<|.block ?_
 refine Bq ?_
 refine Br ?_ ?_<;>intro h49
 ·obtain⟨Y3,cY3,qY3⟩:=Yt r m.args slot now sec hb (a2 h49) hs
  refine C8 Dz [4] cY3<|.seq ?_
  refine Bq ?_
  refine Br ?_ ?_<;>intro h104
  ·refine Bq ?_
   exact .ret (fin Dz (⟨0,⟨[],0,0,[],0,0,0,0⟩,[],[],⟨0,0,0⟩⟩,⟨0,[],[],[]⟩,false,Y3.2.1) ⟨Aqt,Ae _,fun h=>absurd h (by exact h104),by simp[Hi],qY3.2.2.2.2.2.2.2.2.2⟩)
  refine Bp<|.D ?_
  exact .ret (fin Dz (Y3.2.2,Y3.1,((m.kind:Int) == 2),0) ⟨qY3.1,by dsimp only;rw[qY3.2.2.2.1];exact hv9,fun _=>⟨qY3.2.1,qY3.2.2.1,qY3.2.2.2.2.1,(by have hr:=qY3.2.2.2.2.2.2.2.2.1 (by exact h104);exact .inr ⟨h49,hr.1,qY3.2.2.2.2.2.1,hr.2.2⟩),(qY3.2.2.2.2.2.2.2.2.1 (by exact h104)).2.1⟩,(by have hd:=qY3;refine⟨by dsimp only;rw[hd.2.2.2.2.2.1];exact Ae _,by dsimp only;omega,by dsimp only;omega⟩),by simp⟩)
 refine Bq ?_
 refine Br ?_ ?_<;>intro h60
 ·have ha:=a1 (.inl h60)
  obtain⟨e1,H1⟩:=gx m.args 0
  obtain⟨Y4,cY4,qY4⟩:=Ep (Af0 r.toks e1 hb.toks hb.tsec)
  refine Db H1 cY4 ?_
  refine Dj H1 (Rx m ha h2M)<|.seq ?_
  refine Bt H1 ?_
  refine Br ?_ ?_<;>intro h104
  ·refine Bt H1 ?_
   exact .ret (fin H1 (⟨0,⟨[],0,0,[],0,0,0,0⟩,[],[],⟨0,0,0⟩⟩,⟨0,[],[],[]⟩,false,Y4.2) ⟨Aqt,Ae _,fun h=>absurd h (by exact h104),by simp[Hi],qY4.2.2⟩)
  refine Bp<|.G H1 ?_
  exact .ret (fin H1 (⟨r.num,r.ag,Y4.1,r.vehs,r.bk⟩,(Gu m ha h2M),((m.kind:Int) == 2),0) ⟨⟨hb.sec,hb.lims,Ak qY4.1 hb.toks,qY4.2.1,hb.vehs⟩,hv9,fun _=>⟨rfl,rfl,A2u (h:=ha) (h2:=h2M)⟩,A2t (h:=ha) (h2:=h2M),by simp⟩)
 refine Bq ?_
 refine Br ?_ ?_<;>intro h75
 ·have ha:=a1 (.inr (.inl h75))
  obtain⟨Y5,cY5,qY5⟩:=Ep (Ys r m.args slot hb (a4 h75) h2M hu.1 hu.2)
  refine B8 Dz cY5 ?_
  refine Dj Dz (Rx m ha h2M)<|.seq ?_
  refine Bq ?_
  refine Br ?_ ?_<;>intro h104
  ·refine Bq ?_
   exact .ret (fin Dz (⟨0,⟨[],0,0,[],0,0,0,0⟩,[],[],⟨0,0,0⟩⟩,⟨0,[],[],[]⟩,false,Y5.2) ⟨Aqt,Ae _,fun h=>absurd h (by exact h104),by simp[Hi],qY5.2⟩)
  refine Bp<|.D ?_
  exact .ret (fin Dz (⟨r.num,r.ag,r.toks,Y5.1,r.bk⟩,(Gu m ha h2M),((m.kind:Int) == 2),0) ⟨⟨hb.sec,hb.lims,hb.toks,hb.tsec,by have:=qY5;dsimp only;omega⟩,qY5.1,fun _=>⟨rfl,rfl,A2u (h:=ha) (h2:=h2M)⟩,A2t (h:=ha) (h2:=h2M),by simp⟩)
 refine Bq ?_
 refine Br ?_ ?_<;>intro h88
 ·have ha:=a1 (.inr (.inr h88))
  obtain⟨e2,H2⟩:=gx m.args 0
  obtain⟨Y6,cY6,qY6⟩:=Ep (Ab3 r.vehs e2 hv)
  refine Db H2 cY6 ?_
  refine Dj H2 (Rx m ha h2M)<|.seq ?_
  refine Bt H2 ?_
  refine Br ?_ ?_<;>intro h104
  ·refine Bt H2 ?_
   exact .ret (fin H2 (⟨0,⟨[],0,0,[],0,0,0,0⟩,[],[],⟨0,0,0⟩⟩,⟨0,[],[],[]⟩,false,Y6.2) ⟨Aqt,Ae _,fun h=>absurd h (by exact h104),by simp[Hi],qY6.2⟩)
  refine Bp<|.G H2 ?_
  exact .ret (fin H2 (⟨r.num,r.ag,r.toks,Y6.1,r.bk⟩,(Gu m ha h2M),((m.kind:Int) == 2),0) ⟨⟨hb.sec,hb.lims,hb.toks,hb.tsec,by have:=qY6;dsimp only;omega⟩,Ak qY6.1 hv9,fun _=>⟨rfl,rfl,A2u (h:=ha) (h2:=h2M)⟩,A2t (h:=ha) (h2:=h2M),by simp⟩)
 refine Bp<|.seq<|.R ?_
 refine Cs ?_ ?_<;>intro h104<;>simp[go_sem] at h104
 refine Bq ?_
 exact .ret (fin Dz (⟨0,⟨[],0,0,[],0,0,0,0⟩,[],[],⟨0,0,0⟩⟩,⟨0,[],[],[]⟩,false,1) ⟨Aqt,Ae _,fun h=>absurd h (by first | exact h104 | decide),by simp[Hi],by decide⟩)
theorem Hi.v {m:Ea} (h:Hi m):m.tok.length<=10000/\m.args.length<=10000/\m.data.length<=10000:=⟨Ak h.1 (by decide),Ak h.2.1 (by decide),Ak h.2.2 (by decide)⟩
open Classical in
noncomputable def Ov (m:Ea):Bool:=if h:Hi m then !My m h.v.1 h.v.2.1 h.v.2.2 else true
theorem Aeq (m:Ea) (h:Hi m):PP 133 [] [m.g] [] (.lb (Ov m)):=by
 have hb:Ov m = !My m h.v.1 h.v.2.1 h.v.2.2:=by unfold Ov;rw[dif_pos h]
 rw[hb]
 refine Em Tryz.func133 ?_
 refine Bw ?_
 refine Di Dz (Aer m h.v.1 h.v.2.1 h.v.2.2) ?_
 exact .ret (rL Dz)
theorem Tm (l:List Ea) (hl:l.length<=1000000) (hm:∀t∈l,Hi t) :
 ∃R:List (List T),PP 100 [.row 56 4 false false (T3 l)] [.own 0 l.length] [.row 56 4 false true R] (.mMsg (l.filter fun t=>!Ov t))/\True:=by
 obtain⟨R,hR,_⟩:=Xd l 133 [] Ov hl ⟨fun _=>rfl,fun _=>rfl,fun _=>trivial,rfl,rfl⟩ fun t ht=>Aeq t (hm t ht)
 refine Aft (D:=List (List T)) (F:=fun d=>.mMsg (l.filter fun t=>!Ov t)) (S:=fun d=>[.row 56 4 false true d]) (Q:=fun d=>True) Tryz.func100 rfl rfl rfl (by simp[Tryz.ntmps100]) ?_
 refine Bq ?_
 refine Dc Dz [0] hR ?_
 exact .ret ⟨R,rW Dz [0],trivial⟩
section
def Ao1 (φ:AV->AV):Ob->Ob
 | .box ty cs=>.box ty (cs.map φ)
 | x=>x
def Auc (φ:AV->AV):List (Nat×AV)->List (Nat×AV)
 | []=>[]
 | p::l=>(p.1,φ p.2)::Auc φ l
theorem Akb {φ:AV->AV} (h:φ .any=.any):∀(l:List (Nat×AV)) (t:Nat),E9 (Auc φ l) t=φ (E9 l t)
 | [],t=>h.symm
 | p::l,t=>by
  simp only[Auc,E9]
  cases p.1 == t
  ·exact Akb h l t
  rfl
def Ad3 (φ:AV->AV):List Ob->List Ob
 | []=>[]
 | x::l=>Ao1 φ x::Ad3 φ l
theorem Aj8 (φ:AV->AV):∀(l:List Ob) (i:Nat),(Ad3 φ l).getD i .gone=Ao1 φ (l.getD i .gone)
 | [],i=>by simp[Ad3,Ao1]
 | x::l,0=>by simp[Ad3]
 | x::l,i+1=>by have:=Aj8 φ l i;simp[Ad3] at this ⊢;exact this
def St.remap (st:St) (φ:AV->AV) (id:Nat) (x:Ob):St:=⟨Auc φ st.sl,P3 (Ad3 φ st.ob) id x⟩
theorem S6 (st:St) (φ:AV->AV) (id:Nat) (x:Ob) (i:Nat):(st.remap φ id x).o i=if i=id then x else Ao1 φ (st.o i):=by
 show (P3 (Ad3 φ st.ob) id x).getD i .gone=_
 rw[Xn,Aj8]
 rfl
theorem Ac3 {φ:AV->AV} {o:Ob}:(Ao1 φ o).live<->o.live:=by cases o<;>exact Iff.rfl
variable {E:Gs} {β:Nat->Option Nat} {st:St} {a:Act} {w:World} {id:Nat}
theorem Eu.remap (r:Eu E β st a w) {φ:AV->AV} (hany:φ .any=.any) {x:Ob} (hng:st.o id≠.gone) (hlv:x.live->(st.o id).live) (hE:E.o0 id=.gone) (hV:∀(c:AV) (u:Value),Ec (E.C β st w) c u->Ec (E.C β (st.remap φ id x) w) (φ c) u) (hO:Kx (E.C β (st.remap φ id x) w) id x):Eu E β (st.remap φ id x) a w:=by
 have hS:∀fr b,(E.C β st w).S fr b->(E.C β (st.remap φ id x) w).S fr b:=fun fr b ⟨h1,h2,h3⟩=>⟨h1,fun⟨i,g1,g2⟩=>h2 ⟨i,g1,by
  have g2:((st.remap φ id x).o i).live:=g2
  rw[S6] at g2
  show (st.o i).live
  by_cases e:i=id
  ·rw[if_pos e] at g2;rw[e];exact hlv g2
  rw[if_neg e] at g2;exact Ac3.1 g2⟩,h3⟩
 have hT:∀fr t u,Gq w.heap ((E.C β st w).S fr) t u->Gq w.heap ((E.C β (st.remap φ id x) w).S fr) t u:=fun fr t u h=>h.keep (fun _ _=>rfl) (hS fr)
 have hg:∀i,(st.remap φ id x).o i≠.gone->st.o i≠.gone:=fun i h e=>by
  rw[S6] at h
  by_cases e':i=id
  ·subst e';exact hng e
  rw[if_neg e',e] at h;exact h rfl
 refine⟨r.sz,fun t=>?_,r.df,fun i=>?_,fun i j b hi hj=>r.inj i j b (hg i hi) (hg j hj),fun i b hi=>r.rng i b (hg i hi),r.kp,⟨fun i ty' cs' h=>?_,fun i ty' k fr fz es h=>?_⟩,r.kb,r.dk⟩
 ·show Ec _ (E9 (Auc φ st.sl) t) _
  rw[Akb hany]
  exact hV _ _ (r.sl t)
 ·by_cases e:i=id
  ·rw[S6,if_pos e,e];exact hO
  rw[S6,if_neg e]
  have:=r.ob i
  cases hq:st.o i with
  | gone=>trivial
  | row ty' k fr fz es =>
   rw[hq] at this
   obtain⟨h1,h2⟩:=this
   refine⟨h1,?_⟩
   cases hb:(E.C β (st.remap φ id x) w).β i with
   | none =>
    have hb:β i=none:=hb
    have h2:(match β i with | none=>es=[] | some b=>_):=h2
    rw[hb] at h2;exact h2
   | some b =>
    have hb:β i=some b:=hb
    have h2:(match β i with | none=>es=[] | some b=>_):=h2
    rw[hb] at h2
    obtain⟨cur,c,g1,g2,g3,g4,g5⟩:=h2
    exact⟨cur,c,g1,g2,g3,g4,fun i e j x he hx=>let ⟨u,p1,p2⟩:=g5 i e j x he hx;⟨u,p1,hT _ _ _ p2⟩⟩
  | box ty' cs' =>
   rw[hq] at this
   obtain⟨b,cur,g1,g2,g3,g4⟩:=this
   refine⟨b,cur,g1,g2,by rw[A2];exact g3,fun j c u hc hu=>?_⟩
   rw[Ap] at hc
   cases hx:cs'[j]? with
   | none=>rw[hx] at hc;cases hc
   | some x =>
    rw[hx] at hc
    simp only[Ai,Option.some.injEq] at hc
    subst hc
    exact⟨hV _ _ (g4 j x u hx hu).1,(g4 j x u hx hu).2⟩
 ·obtain⟨⟨cs2,h1⟩,h2⟩:=r.ct.box i ty' cs' h
  have e:i≠id:=fun e=>by subst e;rw[hE] at h;cases h
  have h1:st.o i=_:=h1
  exact⟨⟨_,by show (st.remap φ id x).o i=_;rw[S6,if_neg e,h1];rfl⟩,h2⟩
 obtain⟨fr',fz',es',h1,h2⟩:=r.ct.row i ty' k fr fz es h
 have e:i≠id:=fun e=>by subst e;rw[hE] at h;cases h
 have h1:st.o i=_:=h1
 exact⟨fr',fz',es',by show (st.remap φ id x).o i=_;rw[S6,if_neg e,h1];rfl,h2⟩
def P8 (fr:Bool):List (List T)->List AV
 | []=>[]
 | e::es=>e.map (T.av fr)++P8 fr es
theorem Abs {fr:Bool} {k:Nat}:∀{es:List (List T)},(∀(i:Nat) (e:List T),es[i]? = some e->e.length=k)->(P8 fr es).length=es.length*k
 | [],_=>by simp[P8]
 | e::es,h=>by
  have h0:=h 0 e rfl
  have:=Abs (fr:=fr) (es:=es) fun i e' he=>h (i+1) e' he
  simp[P8,h0,this,Be];omega
theorem Aki {fr:Bool} {k:Nat}:∀{es:List (List T)},(∀(i:Nat) (e:List T),es[i]? = some e->e.length=k)->∀{p:Nat} {c:AV},(P8 fr es)[p]? = some c->∃(i:Nat) (e:List T) (j:Nat) (x:T),es[i]? = some e/\e[j]? = some x/\p=i*k+j/\c=T.av fr x
 | [],_,p,c,h=>by simp[P8] at h
 | e::es,h0,p,c,h=>by
  have hl:(e.map (T.av fr)).length=k:=by rw[A2];exact h0 0 e rfl
  by_cases hp:p<k
  ·simp only[P8] at h
   rw[Au (by omega),Ap] at h
   cases hx:e[p]? with
   | none=>rw[hx] at h;cases h
   | some x =>
    rw[hx] at h
    simp only[Ai,Option.some.injEq] at h
    exact⟨0,e,p,x,rfl,hx,by omega,h.symm⟩
  simp only[P8] at h
  rw[Ao (by omega),hl] at h
  obtain⟨i,e',j,x,h1,h2,h3,h4⟩:=Aki (es:=es) (fun i e' he=>h0 (i+1) e' he) h
  exact⟨i+1,e',j,x,h1,h2,by rw[Be];omega,h4⟩
mutual
def AV.tb (id n0:Nat):AV->AV
 | .own i n=>bif i == id then (bif n == n0 then .bsl i n else .any) else .own i n
 | .sub i n lo m=>bif i == id then .any else .sub i n lo m
 | .rptr i n j off=>bif i == id then .any else .rptr i n j off
 | .agg cs=>.agg (tbL id n0 cs)
 | .tup cs=>.tup (tbL id n0 cs)
 | .fn f cs=>.fn f (tbL id n0 cs)
 | .gd t v=>.gd t (v.tb id n0)
 | .any=>.any
 | .lit v=>.lit v
 | .nil k=>.nil k
 | .imm fr k es=>.imm fr k es
 | .ptr i off=>.ptr i off
 | .bsl i n=>.bsl i n
 | .iptr fr cs off=>.iptr fr cs off
def tbL (id n0:Nat):List AV->List AV
 | []=>[]
 | c::cs=>c.tb id n0::tbL id n0 cs
end
theorem Alm (id n0:Nat):∀(cs:List AV),tbL id n0 cs=cs.map (AV.tb id n0)
 | []=>rfl
 | c::cs=>by simp[tbL,Alm id n0 cs]
def St.toBox (st:St) (id:Nat):St:=st.remap (AV.tb id (Lu (st.o id)).length) id (.box (Abf (st.o id)) (P8 (At2 (st.o id)) (Lu (st.o id))))
theorem Ri {α β:Type} {φ:α->β} {l:List α} {i:Nat} {c:β} (h:(l.map φ)[i]? = some c):∃x,l[i]? = some x/\c=φ x:=by
 rw[Ap] at h
 cases hx:l[i]? with
 | none=>rw[hx] at h;cases h
 | some x =>
  rw[hx] at h
  simp only[Ai,Option.some.injEq] at h
  exact⟨x,rfl,h.symm⟩
variable {fr:Bool} {es:List (List T)}
theorem Eu.toBox (r:Eu E β st a w) {ty k:Nat} (ho:st.o id=.row ty k fr false es) (hne:es≠[]) (hE:E.o0 id=.gone):Eu E β (st.toBox id) a w:=by
 have hdef:st.toBox id=st.remap (AV.tb id es.length) id (.box ty (P8 fr es)):=by unfold St.toBox;rw[ho];rfl
 rw[hdef]
 generalize hst':st.remap (AV.tb id es.length) id (.box ty (P8 fr es))=st'
 have hob:∀i,st'.o i=if i=id then .box ty (P8 fr es) else Ao1 (AV.tb id es.length) (st.o i):=fun i=>by rw[<- hst',S6]
 have hS:∀f b,(E.C β st w).S f b->(E.C β st' w).S f b:=fun f b ⟨h1,h2,h3⟩=>⟨h1,fun⟨i,g1,g2⟩=>h2 ⟨i,g1,by
  have g2:(st'.o i).live:=g2
  rw[hob] at g2
  show (st.o i).live
  by_cases e:i=id
  ·rw[e,ho];rfl
  rw[if_neg e] at g2;exact Ac3.1 g2⟩,h3⟩
 have hT:∀f t u,Gq w.heap ((E.C β st w).S f) t u->Gq w.heap ((E.C β st' w).S f) t u:=fun f t u h=>h.keep (fun _ _=>rfl) (hS f)
 obtain⟨hk,hel,hcell⟩:=r.row_cells ho
 obtain⟨b,cur,c0,q1,q2,q3,q4,q5,q6⟩:∃b cur c,β id=some b/\w.heap[b]? = some (.cells cur ty (0,0))/\cur.size=c*k/\es.length<=c/\c<=maxLen/\∀(i:Nat) (e:List T) (j:Nat) (x:T),es[i]? = some e->e[j]? = some x->∃u,cur[i*k+j]? = some u/\Gq w.heap ((E.C β st w).S fr) x u:=by
  rcases hcell with⟨_,h⟩ | ⟨b,cur,c,h⟩
  ·exact absurd h hne
  exact⟨b,cur,c,h⟩
 have hrow:∀i ty' k fr fz es',i≠id->st.o i=.row ty' k fr fz es'->st'.o i=.row ty' k fr fz es':=fun i ty' k fr fz es' e h=>by
  rw[hob,if_neg e,h];rfl
 have hbox:∀i ty' cs,st.o i=.box ty' cs->st'.o i=.box ty' (cs.map (AV.tb id es.length)):=fun i ty' cs h=>by
  rw[hob,if_neg (fun e=>by subst e;rw[ho] at h;cases h),h];rfl
 have hL:∀(cs:List AV) (us:Array Value),(∀(i:Nat) (c:AV) (u:Value),cs[i]? = some c->us[i]? = some u->Ec (E.C β st' w) (c.tb id es.length) u)->∀(i:Nat) (c:AV) (u:Value),(tbL id es.length cs)[i]? = some c->us[i]? = some u->Ec (E.C β st' w) c u:=fun cs us ih i c u hc hu=>by
  rw[Alm] at hc
  obtain⟨x,hx,rfl⟩:=Ri hc
  exact ih i x u hx hu
 have hLl:∀cs:List AV,(tbL id es.length cs).length=cs.length:=fun cs=>by rw[Alm,A2]
 have hV:∀(c:AV) (u:Value),Ec (E.C β st w) c u->Ec (E.C β st' w) (c.tb id es.length) u:=by
  intro c u h
  induction h with
  | any u=>exact .any u
  | lit v=>exact .lit v
  | nil k A=>exact .nil k A
  | imm fr k es u h=>exact .imm _ _ _ _ (hT fr _ _ h)
  | own i n u h =>
   by_cases e:i=id
   ·subst e
    by_cases en:n=es.length
    ·simp only[AV.tb,beq_self_eq_true,cond_true,show (n == es.length)=true by simpa using en]
     rcases r.own_val ho h en with⟨_,he,_⟩ | ⟨b',cur',c,hb,_,_,g3,_,rfl,_⟩
     ·exact absurd he hne
     exact .bsl _ _ _ ⟨ty,_,b',c,by show st'.o i=_;rw[hob,if_pos rfl],hb,by rw[en],by omega⟩
    simp only[AV.tb,beq_self_eq_true,cond_true,show (n == es.length)=false by simpa using en,cond_false]
    exact .any _
   simp only[AV.tb,show (i == id)=false by simpa using e,cond_false]
   obtain⟨h1,ty',k,fr,fz,es,h2,h3⟩:=h
   exact .own i n u ⟨h1,ty',k,fr,fz,es,hrow _ _ _ _ _ _ e h2,h3⟩
  | sub i n lo m u h =>
   by_cases e:i=id
   ·simp only[AV.tb,show (i == id)=true by simpa using e,cond_true];exact .any _
   simp only[AV.tb,show (i == id)=false by simpa using e,cond_false]
   obtain⟨h1,ty',k,fr,fz,es,h2,h3⟩:=h
   exact .sub i n lo m u ⟨h1,ty',k,fr,fz,es,hrow _ _ _ _ _ _ e h2,h3⟩
  | rptr i n j off u h =>
   by_cases e:i=id
   ·simp only[AV.tb,show (i == id)=true by simpa using e,cond_true];exact .any _
   simp only[AV.tb,show (i == id)=false by simpa using e,cond_false]
   obtain⟨h1,ty',k,fr,fz,es,h2,h3⟩:=h
   exact .rptr i n j off u ⟨h1,ty',k,fr,fz,es,hrow _ _ _ _ _ _ e h2,h3⟩
  | ptr i off u h =>
   obtain⟨ty',cs',b',h1,h2,h3⟩:=h
   exact .ptr i off _ ⟨ty',_,b',hbox _ _ _ h1,h2,h3⟩
  | bsl i n u h =>
   obtain⟨ty',cs',b',c',h1,h2,h3⟩:=h
   exact .bsl i n _ ⟨ty',_,b',c',hbox _ _ _ h1,h2,h3⟩
  | iptr fr cs off b o cur ty fz us h1 h2 h3=>exact .iptr fr cs off b o cur ty fz us h1 (hS fr b h2) fun j x hx=>⟨(h3 j x hx).1,hT fr _ _ (h3 j x hx).2⟩
  | agg cs us h1 h2 ih=>exact .agg _ _ (by rw[hLl];exact h1) (hL cs us ih)
  | tup cs us h1 h2 ih=>exact .tup _ _ (by rw[hLl];exact h1) (hL cs us ih)
  | fn f cs us h1 h2 ih=>exact .fn f _ _ (by rw[hLl];exact h1) (hL cs us ih)
  | gd t v u h1 h2 ih=>exact .gd t _ u (fun e=>ih e) h2
 have hO:Kx (E.C β st' w) id (.box ty (P8 fr es)):=by
  refine⟨b,cur,q1,q2,?_,fun p c u hc hu=>?_⟩
  ·rw[Abs hel,q3];exact A1 k q4
  obtain⟨i,e,j,x,h1,h2,rfl,rfl⟩:=Aki hel hc
  obtain⟨u',h3,h4⟩:=q6 i e j x h1 h2
  rw[hu] at h3
  injection h3 with h3
  subst h3
  exact⟨T.rel (hT _ _ _ h4),h4.one⟩
 subst hst'
 exact r.remap rfl (by rw[ho];simp) (fun _=>by rw[ho];rfl) hE hV hO
section
variable {P:Program} {n m:Nat} {st:St} {K:Exit->St->Prop} {c:Code}
theorem VW.toBox (id:Nat) {ty k:Nat} (ho:st.o id=.row ty k fr false es) (hne:es≠[]) (hm:m<=id) (hv:VW P n m c (st.toBox id) K):VW P n m c st K:=fun E F hE hF β a w r =>
 hv E F hE hF β a w (r.toBox ho hne (hE.2 id hm))
theorem VX.toBox (id:Nat) {ty k:Nat} (ho:st.o id=.row ty k fr false es) (hne:es≠[]) (hm:m<=id) (hv:VX P n m c (st.toBox id) K):VX P n m c st K:=by
 obtain⟨e,s,h1,h2⟩:=hv
 exact⟨e,s,.toBox id ho hne hm h1,h2⟩
end
mutual
def AV.sb' (id k:Nat) (es:List (List T)):AV->AV
 | .bsl i n=>bif i == id then (bif n == es.length then .imm false k es else .any) else .bsl i n
 | .ptr i off=>bif i == id then .any else .ptr i off
 | .agg cs=>.agg (sbL id k es cs)
 | .tup cs=>.tup (sbL id k es cs)
 | .fn f cs=>.fn f (sbL id k es cs)
 | .gd t v=>.gd t (v.sb' id k es)
 | .any=>.any
 | .lit v=>.lit v
 | .nil k=>.nil k
 | .imm fr k es=>.imm fr k es
 | .own i n=>.own i n
 | .sub i n lo m=>.sub i n lo m
 | .rptr i n j off=>.rptr i n j off
 | .iptr fr cs off=>.iptr fr cs off
def sbL (id k:Nat) (es:List (List T)):List AV->List AV
 | []=>[]
 | c::cs=>c.sb' id k es::sbL id k es cs
end
theorem Als (id k:Nat) (es:List (List T)):∀(cs:List AV),sbL id k es cs=cs.map (AV.sb' id k es)
 | []=>rfl
 | c::cs=>by simp[sbL,Als id k es cs]
def St.sealB (st:St) (id k:Nat) (es:List (List T)):St:=st.remap (AV.sb' id k es) id .gone
theorem X7 {k:Nat}:∀{es:List (List T)},(∀e∈es,e.length=k)->∀{i j:Nat} {e:List T} {x:T},es[i]? = some e->e[j]? = some x->es.flatten[i*k+j]? = some x
 | [],_,i,j,e,x,h,_=>by simp at h
 | e0::es,h0,0,j,e,x,h,hx=>by
  simp at h
  subst h
  have hj:=(Ab.1 hx).1
  rw[List.flatten_cons,Nat.zero_mul,Bm,Au hj,hx]
 | e0::es,h0,i+1,j,e,x,h,hx=>by
  have hl:e0.length=k:=h0 e0 (by simp)
  have h:es[i]? = some e:=by simpa using h
  have:=X7 (es:=es) (fun e' he=>h0 e' (by simp[he])) h hx
  rw[List.flatten_cons,Ao (by rw[hl,Be];omega),hl,show (i+1)*k+j - k=i*k+j by rw[Be];omega]
  exact this
variable {ty:TypeId} {cs:List AV}
theorem Eu.sealB (r:Eu E β st a w) {k:Nat} (ho:st.o id=.box ty cs) (ht:ttL cs=some es.flatten) (hk:∀e∈es,e.length=k) (hE:E.o0 id=.gone):Eu E β (st.sealB id k es) a w:=by
 unfold St.sealB
 generalize hst':st.remap (AV.sb' id k es) id .gone=st'
 have hob:∀i,st'.o i=if i=id then .gone else Ao1 (AV.sb' id k es) (st.o i):=fun i=>by rw[<- hst',S6]
 have hS:∀f b,(E.C β st w).S f b->(E.C β st' w).S f b:=fun f b ⟨h1,h2,h3⟩=>⟨h1,fun⟨i,g1,g2⟩=>h2 ⟨i,g1,by
  have g2:(st'.o i).live:=g2
  rw[hob] at g2
  show (st.o i).live
  by_cases e:i=id
  ·rw[if_pos e] at g2;exact g2.elim
  rw[if_neg e] at g2;exact Ac3.1 g2⟩,h3⟩
 have hT:∀f t u,Gq w.heap ((E.C β st w).S f) t u->Gq w.heap ((E.C β st' w).S f) t u:=fun f t u h=>h.keep (fun _ _=>rfl) (hS f)
 obtain⟨b,cur,q1,q2,q3,q4⟩:Kx (E.C β st w) id (.box ty cs):=by have:=r.ob id;rwa[ho] at this
 have q1:β id=some b:=q1
 have hSb:(E.C β st' w).S false b:=by
  obtain⟨g1,g2⟩:=r.rng id b (by rw[ho];simp) q1
  refine⟨g1,?_,g2.elim .inl fun h=>.inr (.inl h)⟩
  rintro⟨i,h1,h2⟩
  have h1:β i=some b:=h1
  have h2:(st'.o i).live:=h2
  rw[hob] at h2
  by_cases e:i=id
  ·rw[if_pos e] at h2;exact h2
  rw[if_neg e] at h2
  refine e (r.inj i id b (fun hg=>?_) (by rw[ho];simp) h1 q1)
  rw[hg] at h2
  exact h2
 have hrow:∀i ty' k' fr fz es',st.o i=.row ty' k' fr fz es'->st'.o i=.row ty' k' fr fz es':=fun i ty' k' fr fz es' h=>by
  rw[hob,if_neg (fun e=>by subst e;rw[ho] at h;cases h),h];rfl
 have hcell:∀(j:Nat) (x:T),es.flatten[j]? = some x->cur[j]? = some ((cur[j]?).getD undef)/\Gq w.heap ((E.C β st' w).S false) x ((cur[j]?).getD undef):=fun j x hx=>by
  obtain⟨c,g1,g2⟩:=Afh ht j x hx
  have hj:j<cur.size:=Nat.lt_of_lt_of_le (Ab.1 g1).1 q3
  have g3:cur[j]? = some cur[j]:=Al hj
  obtain⟨g4,g5⟩:=q4 j c _ g1 g3
  rw[g3]
  refine⟨rfl,?_⟩
  simp only[Bh]
  generalize cur[j]=u at g4 g5
  cases g4 with
  | lit v=>simp only[Z8,Option.some.injEq] at g2;subst g2;exact .lit _ g5
  | nil k A=>simp only[Z8,Option.some.injEq] at g2;subst g2;exact .nil _ _ _
  | imm fr k es u h=>simp only[Z8,Option.some.injEq] at g2;subst g2;exact VC.T_weak (C:=E.C β st' w) (g:=false) (hT fr _ _ h) fun e=>by cases e
  | fn f cs us k1 k2 =>
   obtain⟨fr,ts',off',rfl,rfl⟩:=Alj g2
   exact VC.T_weak (C:=E.C β st' w) (g:=false) (hT fr _ _ (Ec.fn1 (.fn f _ us k1 k2))) fun e=>by cases e
  | _=>cases g2
 have hL:∀(cs:List AV) (us:Array Value),(∀(i:Nat) (c:AV) (u:Value),cs[i]? = some c->us[i]? = some u->Ec (E.C β st' w) (c.sb' id k es) u)->∀(i:Nat) (c:AV) (u:Value),(sbL id k es cs)[i]? = some c->us[i]? = some u->Ec (E.C β st' w) c u:=fun cs us ih i c u hc hu=>by
  rw[Als] at hc
  obtain⟨x,hx,rfl⟩:=Ri hc
  exact ih i x u hx hu
 have hLl:∀cs:List AV,(sbL id k es cs).length=cs.length:=fun cs=>by rw[Als,A2]
 have hV:∀(c:AV) (u:Value),Ec (E.C β st w) c u->Ec (E.C β st' w) (c.sb' id k es) u:=by
  intro c u h
  induction h with
  | any u=>exact .any u
  | lit v=>exact .lit v
  | nil k A=>exact .nil k A
  | imm fr k es u h=>exact .imm _ _ _ _ (hT fr _ _ h)
  | own i n u h =>
   obtain⟨h1,ty',k,fr,fz,es,h2,h3⟩:=h
   exact .own i n u ⟨h1,ty',k,fr,fz,es,hrow _ _ _ _ _ _ h2,h3⟩
  | sub i n lo m u h =>
   obtain⟨h1,ty',k,fr,fz,es,h2,h3⟩:=h
   exact .sub i n lo m u ⟨h1,ty',k,fr,fz,es,hrow _ _ _ _ _ _ h2,h3⟩
  | rptr i n j off u h =>
   obtain⟨h1,ty',k,fr,fz,es,h2,h3⟩:=h
   exact .rptr i n j off u ⟨h1,ty',k,fr,fz,es,hrow _ _ _ _ _ _ h2,h3⟩
  | ptr i off u h =>
   by_cases e:i=id
   ·simp only[AV.sb',show (i == id)=true by simpa using e,cond_true];exact .any _
   simp only[AV.sb',show (i == id)=false by simpa using e,cond_false]
   obtain⟨ty',cs',b',h1,h2,h3⟩:=h
   have h1:st.o i=_:=h1
   exact .ptr i off _ ⟨ty',_,b',by show st'.o i=_;rw[hob,if_neg e,h1];rfl,h2,h3⟩
  | bsl i n u h =>
   obtain⟨ty',cs',b',c',h1,h2,h3,h4⟩:=h
   have h1:st.o i=_:=h1
   have h2:β i=some b':=h2
   by_cases e:i=id
   ·subst e
    simp only[AV.sb',beq_self_eq_true,cond_true]
    rw[q1] at h2
    injection h2 with h2
    subst h2
    subst h3
    by_cases en:n=es.length
    ·subst en
     simp only[beq_self_eq_true,cond_true]
     refine .imm _ _ _ _ (.sl k es b 0 c' cur ty (0,0) (fun i j=>(cur[i*k+j]?).getD undef) q2 hSb h4 (fun i e he=>hk e (Ac he)) (fun i e j x he hx=>?_) fun i e j x he hx=>?_)
     ·rw[Bm];exact (hcell _ x (X7 hk he hx)).1
     exact (hcell _ x (X7 hk he hx)).2
    simp only[show (n == es.length)=false by simpa using en,cond_false]
    exact .any _
   simp only[AV.sb',show (i == id)=false by simpa using e,cond_false]
   exact .bsl i n _ ⟨ty',_,b',c',by show st'.o i=_;rw[hob,if_neg e,h1];rfl,h2,h3,h4⟩
  | iptr fr cs off b o cur ty fz us h1 h2 h3=>exact .iptr fr cs off b o cur ty fz us h1 (hS fr b h2) fun j x hx=>⟨(h3 j x hx).1,hT fr _ _ (h3 j x hx).2⟩
  | agg cs us h1 h2 ih=>exact .agg _ _ (by rw[hLl];exact h1) (hL cs us ih)
  | tup cs us h1 h2 ih=>exact .tup _ _ (by rw[hLl];exact h1) (hL cs us ih)
  | fn f cs us h1 h2 ih=>exact .fn f _ _ (by rw[hLl];exact h1) (hL cs us ih)
  | gd t v u h1 h2 ih=>exact .gd t _ u (fun e=>ih e) h2
 subst hst'
 exact r.remap rfl (by rw[ho];simp) (fun h=>h.elim) hE hV trivial
section
variable {P:Program} {n m:Nat} {st:St} {K:Exit->St->Prop} {c:Code}
theorem VW.sealB (id:Nat) (k:Nat) (es:List (List T)) (ho:st.o id=.box ty cs) (ht:ttL cs=some es.flatten) (hk:∀e∈es,e.length=k) (hm:m<=id) (hv:VW P n m c (st.sealB id k es) K):VW P n m c st K:=fun E F hE hF β a w r =>
 hv E F hE hF β a w (r.sealB ho ht hk (hE.2 id hm))
theorem VX.sealB (id:Nat) (k:Nat) (es:List (List T)) (ho:st.o id=.box ty cs) (ht:ttL cs=some es.flatten) (hk:∀e∈es,e.length=k) (hm:m<=id) (hv:VX P n m c (st.sealB id k es) K):VX P n m c st K:=by
 obtain⟨e,s,h1,h2⟩:=hv
 exact⟨e,s,.sealB id k es ho ht hk hm h1,h2⟩
abbrev C9:=@VX.sealB
end
attribute [go_sem] St.toBox St.sealB St.remap Auc Ad3 Ao1 AV.tb tbL AV.sb' sbL
end
section
variable {P:Program}
def Gs.base (E:Gs) (β:Nat->Option Nat) (st:St) (w:World):Gs:={ E with w0:=w,o0:=st.o,β0:=β,im:=(E.C β st w).S false,fr:=(E.C β st w).S true }
variable {E:Gs} {a:Act}
theorem Eu.base_in {β:Nat->Option Nat} {st:St} {w:World} (r:Eu E β st a w) (hds:E.ds=[]):Eu (E.base β st w) β st a w:=by
 have hS:∀fr b,(E.C β st w).S fr b->((E.base β st w).C β st w).S fr b:=fun fr b h=>⟨h.1,h.2.1,.inr (.inr ⟨VC.S_weak h,fun e=>by rw[e] at h;exact h⟩)⟩
 refine⟨r.sz,fun t=>Ec.same (C:=E.C β st w) (C':=(E.base β st w).C β st w) rfl rfl rfl hS (r.sl t),r.df,fun id=>Kx.same (C:=E.C β st w) (C':=(E.base β st w).C β st w) rfl rfl rfl hS (r.ob id),r.inj,fun i b hi hb=>⟨(r.rng i b hi hb).1,.inr ⟨i,hi,hb⟩⟩,Kp.refl _ _,⟨fun id ty cs h=>⟨⟨cs,h⟩,rfl⟩,fun id ty k fr fz es h=>⟨fr,fz,es,h,Aj _,fun _=>⟨rfl,fun b cur _ hc=>⟨cur,hc,rfl⟩⟩⟩⟩,r.kb,?_⟩
 show E.ds.Nodup/\∀D∈E.ds,_
 rw[hds]
 exact⟨List.nodup_nil,fun D h=>by cases h⟩
variable {β β':Nat->Option Nat} {st s:St} {w w':World}
theorem Eu.base_out {a a':Act} (r:Eu E β st a w) (hds:E.ds=[]) (r1:Eu (E.base β st w) β' s a' w'):Eu E β' s a' w':=by
 have hM:∀b,(E.base β st w).M b->E.w0.heap.size<=b\/E.M b:=fun b ⟨id,h1,h2⟩=>(r.rng id b h1 h2).2
 have hS:∀fr b,((E.base β st w).C β' s w').S fr b->(E.C β' s w').S fr b:=fun fr b ⟨h1,h2,h3⟩=>⟨h1,h2,by
  rcases h3 with h3 | h3 | ⟨h3,h4⟩
  ·exact .inl (Ak r.kp.size h3)
  ·exact (hM b h3).elim .inl fun h=>.inr (.inl h)
  cases fr with
  | true =>
   have h5:(E.C β st w).S true b:=h4 rfl
   exact h5.2.2
  | false =>
   have h5:(E.C β st w).S false b:=h3
   rcases h5.2.2 with h | h | ⟨h,_⟩
   ·exact .inl h
   ·exact .inr (.inl h)
   exact .inr (.inr ⟨h,fun e=>by cases e⟩)⟩
 refine⟨r1.sz,fun t=>Ec.same (C:=(E.base β st w).C β' s w') (C':=E.C β' s w') rfl rfl rfl hS (r1.sl t),r1.df,fun id=>Kx.same (C:=(E.base β st w).C β' s w') (C':=E.C β' s w') rfl rfl rfl hS (r1.ob id),r1.inj,fun i b hi hb=>⟨(r1.rng i b hi hb).1,(r1.rng i b hi hb).2.elim (fun h=>.inl (Ak r.kp.size h)) (hM b)⟩,?_,?_,r1.kb,?_⟩
 ·refine⟨r1.kp.os.trans r.kp.os,r1.kp.tape.trans r.kp.tape,r1.kp.output.trans r.kp.output,Ak r.kp.size r1.kp.size,fun b hb hm=>?_⟩
  have hbw:b<w.heap.size:=Nat.lt_of_lt_of_le hb r.kp.size
  refine (r1.kp.block b hbw fun h=>?_).trans (r.kp.block b hb hm)
  rcases hM b h with h | h
  ·omega
  exact hm h
 ·have c1:=r1.ct
  have c0:=r.ct
  refine⟨fun id ty cs h=>?_,fun id ty k fr fz es h=>?_⟩
  ·obtain⟨⟨cs',h1⟩,h2⟩:=c0.box id ty cs h
   obtain⟨h3,h4⟩:=c1.box id ty cs' h1
   exact⟨h3,h4.trans h2⟩
  obtain⟨fr',fz',es',h1,h2,h3⟩:=c0.row id ty k fr fz es h
  obtain⟨fr2,fz2,es2,h4,h5,h6⟩:=c1.row id ty k fr' fz' es' h1
  refine⟨fr2,fz2,es2,h4,by omega,fun e=>?_⟩
  obtain⟨h7,h8⟩:=h3 (by omega)
  obtain⟨h9,h10⟩:=h6 (by omega)
  refine⟨h9.trans h7,fun b cur hb hc=>?_⟩
  obtain⟨cur',q1,q2⟩:=h8 b cur hb hc
  obtain⟨cur2,q3,q4⟩:=h10 b cur' (h7.trans hb) q1
  exact⟨cur2,q3,q4.trans q2⟩
 show E.ds.Nodup/\∀D∈E.ds,_
 rw[hds]
 exact⟨List.nodup_nil,fun D h=>by cases h⟩
def A1n (C C':VC):Prop:=∀id ty k fr fz es fr' fz' es' n u,C.ob id=.row ty k fr fz es->C'.ob id=.row ty k fr' fz' es'->es'.length=es.length->Ah2 C id n u->Ah2 C' id n u
theorem A0c {a':Act} (r1:Eu (E.base β st w) β' s a' w'):A1n (E.C β st w) (E.C β' s w'):=by
 intro id ty k fr fz es fr' fz' es' n u h1 h2 h3 ⟨h4,ty',k',fr0,fz0,es0,h5,h6,h7⟩
 rw[h1] at h5
 injection h5 with e1 e2 e3 e4 e5
 subst e1 e2 e3 e4 e5
 have h1:(E.base β st w).o0 id=.row ty k fr fz es:=h1
 obtain⟨fr2,fz2,es2,g1,g2,g3⟩:=r1.ct.row id ty k fr fz es h1
 have h2':s.o id=.row ty k fr' fz' es':=h2
 have g1':s.o id=.row ty k fr2 fz2 es2:=g1
 rw[h2'] at g1'
 injection g1' with e1 e2 e3 e4 e5
 subst e5
 obtain⟨g4,g5⟩:=g3 h3.symm
 refine⟨h4,ty,k,fr',fz',es',h2,by omega,fun e=>?_⟩
 have h7:=h7 (by omega)
 have g4:β' id=β id:=g4
 show match β' id with | none=>_ | some b=>_
 have hb0:(E.C β st w).β id=β id:=rfl
 rw[hb0] at h7
 rw[g4]
 cases hb:β id with
 | none=>rw[hb] at h7;exact h7
 | some b =>
  rw[hb] at h7
  obtain⟨c,cur,q1,q2,q3⟩:=h7
  obtain⟨cur',p1,p2⟩:=g5 b cur hb q1
  exact⟨c,cur',p1,by rw[p2,q2],q3⟩
def Own (β:Nat->Option Nat) (st:St) (b:Nat):Prop:=∃id,st.o id≠.gone/\β id=some b
structure Frm (E:Gs) (β:Nat->Option Nat) (st:St) (w:World) (β':Nat->Option Nat) (s:St) (w':World):Prop where
  keep:A1n (E.C β st w) (E.C β' s w')
  kp:Kp (Own β st) w w'
  rng:∀b,Own β' s b->w.heap.size<=b\/Own β st b
  box:∀id ty cs,st.o id=.box ty cs->β' id=β id
  row:∀id ty k fr fz es fr' fz' es',st.o id=.row ty k fr fz es->s.o id=.row ty k fr' fz' es'->es'.length=es.length->β' id=β id
theorem A2f {a':Act} (r1:Eu (E.base β st w) β' s a' w'):Frm E β st w β' s w':=by
 refine⟨A0c r1,r1.kp,fun b ⟨i,h1,h2⟩=>(r1.rng i b h1 h2).2,fun id ty cs h=>(r1.ct.box id ty cs h).2,fun id ty k fr fz es fr' fz' es' h1 h2 h3=>?_⟩
 obtain⟨fr2,fz2,es2,g1,g2,g3⟩:=r1.ct.row id ty k fr fz es h1
 have g1':s.o id=.row ty k fr2 fz2 es2:=g1
 rw[h2] at g1'
 injection g1' with e1 e2 e3 e4 e5
 subst e5
 exact (g3 h3.symm).1
structure Ajd (β:Nat->Option Nat) (st:St) (w:World) (β':Nat->Option Nat) (s:St) (w':World):Prop where
  kp:Kp (Own β st) w w'
  rng:∀b,Own β' s b->w.heap.size<=b\/Own β st b
theorem Frm.grew (f:Frm E β st w β' s w'):Ajd β st w β' s w':=⟨f.kp,f.rng⟩
theorem Ajd.trans {β β1 β2:Nat->Option Nat} {st s1 s2:St} {w w1 w2:World} (g:Ajd β st w β1 s1 w1) (g':Ajd β1 s1 w1 β2 s2 w2):Ajd β st w β2 s2 w2:=by
 refine⟨⟨g'.kp.os.trans g.kp.os,g'.kp.tape.trans g.kp.tape,g'.kp.output.trans g.kp.output,Ak g.kp.size g'.kp.size,fun b hb hn=>?_⟩,fun b hb=>?_⟩
 ·refine (g'.kp.block b (Nat.lt_of_lt_of_le hb g.kp.size) fun h=>?_).trans (g.kp.block b hb hn)
  rcases g.rng b h with h | h
  ·omega
  exact hn h
 rcases g'.rng b hb with h | h
 ·exact .inl (Ak g.kp.size h)
 exact g.rng b h
theorem Ajd.trans2 {β β1 β2:Nat->Option Nat} {st s1 s1' s2:St} {w w1 w2:World} (g:Ajd β st w β1 s1 w1) (g':Ajd β1 s1' w1 β2 s2 w2) (h:s1'.ob=s1.ob):Ajd β st w β2 s2 w2:=by
 have e:s1'.o=s1.o:=by unfold St.o;rw[h]
 have e2:Own β1 s1'=Own β1 s1:=by unfold Own;rw[e]
 exact g.trans ⟨by rw[<- e2];exact g'.kp,by rw[<- e2];exact g'.rng⟩
theorem Ags {F:Fence} (hF:FOk E F) (hds:E.ds=[]) {ops:Array Oper} {K:St->Prop} {Q:Exit->Act->World->Prop} (l2 l:List Oper) (hd:∀o∈l,∀x,o.dst=some x->x<E.n) {st:St} {β:Nat->Option Nat} {w:World} (h:runs P (l.map fun o=>⟨o.dst,o.op,o.type,Oi ops o⟩) st K) (r:Eu E β st a w) (hQ:∀s β' a' w',K s->Eu E β' s a' w'->Frm E β st w β' s w'->wpListIn F 0 P ops Q l2 a' w'):wpListIn F 0 P ops Q (l++l2) a w :=
 Xp (E:=E.base β st w) (F:=F) hF l2 (fun s β' a' w' hk r1=>hQ s β' a' w' hk (r.base_out hds r1) (A2f r1)) l hd st β a w h (r.base_in hds)
section
variable {E:Gs} {F:Fence} {id:Nat} {l:List Oper} {st:St} {Q:Exit->Act->World->Prop} {β:Nat->Option Nat} {a:Act} {w:World}
theorem Anf (hF:FOk E F) (hds:E.ds=[]) (j:Nat) (hd:Ft E.n l=true) (r:Eu E β st a w)
 (h:∀K1:St->Prop,(∀s,(∀β' a' w',Eu E β' s a' w'->Frm E β st w β' s w'->wpListIn F 0 P l.toArray Q (l.drop j) a' w')->K1 s)->runs P ((Gh l).take j) st K1):(Code.region id l.toArray false).wpIn F 0 P Q a w:=by
 refine wpIn_region_lit ?_
 have key:=Ags (P:=P) (Q:=Q) hF hds (ops:=l.toArray) (l.drop j) (l.take j) (fun o ho=>Pq hd o (Aq ho)) (K:=fun s=>∀β' a' w',Eu E β' s a' w'->Frm E β st w β' s w'->wpListIn F 0 P l.toArray Q (l.drop j) a' w') (by
  have:=h _ fun s hs=>hs
  simp only[Gh,<- List.map_take] at this
  exact this) r (fun s β' a' w' hk r' f=>hk β' a' w' r' f)
 rwa[List.take_append_drop] at key
theorem Adj (hF:FOk E F) (hds:E.ds=[]) {j:Nat} (hd:Ft E.n l=true) (r:Eu E β st a w)
 (h:∀K1:St->Prop,(∀s,(∀β' a' w',Eu E β' s a' w'->Frm E β st w β' s w'->Q .normal a' w')->K1 s)->runs P ((Gh l).drop j) st K1):wpListIn F 0 P l.toArray Q (l.drop j) a w:=by
 have key:=Ags (P:=P) (Q:=Q) hF hds (ops:=l.toArray) [] (l.drop j) (fun o ho=>Pq hd o (Ay ho)) (K:=fun s=>∀β' a' w',Eu E β' s a' w'->Frm E β st w β' s w'->Q .normal a' w') (by
  have:=h _ fun s hs=>hs
  simp only[Gh,<- List.map_drop] at this
  exact this) r (fun s β' a' w' hk r' f=>hk β' a' w' r' f)
 rwa[List.append_nil] at key
theorem Avp (hF:FOk E F) (hds:E.ds=[]) (hd:Ft E.n l=true) (r:Eu E β st a w)
 (h:∀K1:St->Prop,(∀s,(∀β' a' w',Eu E β' s a' w'->Frm E β st w β' s w'->Q .normal a' w')->K1 s)->runs P (Gh l) st K1):(Code.region id l.toArray false).wpIn F 0 P Q a w:=by
 refine wpIn_region_lit ?_
 have:=Adj (P:=P) (Q:=Q) (j:=0) hF hds hd r h
 exact this
theorem M8 {y:Code} (hF:FOk E F) (hds:E.ds=[]) (hd:Ft E.n l=true) (r:Eu E β st a w)
 (h:∀K1:St->Prop,(∀s,(∀β' a' w',Eu E β' s a' w'->Frm E β st w β' s w'->y.wpIn F 0 P Q a' w')->K1 s)->runs P (Gh l) st K1):(Code.seq (.region id l.toArray false) y).wpIn F 0 P Q a w :=
 wpIn_seq (Avp hF hds hd r h)
end
theorem Eu.say {β:Nat->Option Nat} {st:St} {w:World} (r:Eu E β st a w) {sl:List (Nat×AV)} (h:∀t,Ec (E.C β st w) (E9 st.sl t) (a.tmps.getD t undef)->Ec (E.C β st w) (E9 sl t) (a.tmps.getD t undef)):Eu E β ⟨sl,st.ob⟩ a w :=
 ⟨r.sz,fun t=>h t (r.sl t),r.df,r.ob,r.inj,r.rng,r.kp,r.ct,r.kb,r.dk⟩
theorem Eu.own0 {β:Nat->Option Nat} {st:St} {w:World} (r:Eu E β st a w) (t:Nat) (ty k:Nat) (hk:0<k) {k':Nat} (ht:E9 st.sl t=.nil k'):Eu E (fun i=>if i=st.ob.length then none else β i) ((st.put (some t) (.own st.ob.length 0)).set st.ob.length (.row ty k true false [])) a w:=by
 obtain⟨r1,h1⟩:=r.empty (Hf st st.ob.length (Aj _)) ty hk true
 rw[St.put_set]
 have hr:=r.sl t
 rw[ht] at hr
 refine⟨r1.sz,fun x=>?_,r1.df,?_,?_,?_,r1.kp,?_,r1.kb,r1.dk⟩
 ·rw[Ad9]
  show Ec _ (bif t == x then _ else E9 _ x) _
  cases hb:t == x with
  | true =>
   have:t=x:=by simpa using hb
   subst this
   generalize a.tmps.getD t undef=u at hr
   cases hr with
   | nil k A=>exact h1 A
  | false=>exact r1.sl x
 ·rw[Ad9,St.put_o];exact r1.ob
 ·rw[St.put_o];exact r1.inj
 ·rw[St.put_o];exact r1.rng
 rw[Ad9];exact r1.ct
def VW0 (P:Program) (n m:Nat) (c:Code) (st:St) (K:Exit->St->Prop):Prop :=
 ∀(E:Gs) (F:Fence),(E.n=n/\∀id,m<=id->E.o0 id=.gone)->FOk E F->E.ds=[]->∀β a w,Eu E β st a w->c.wpIn F 0 P (Ah1 E K) a w
theorem Aw4 {f:FuncId} {fn:Func} {c:Code} {args:List AV} {σa σr:List Ob} {res:AV} (hf:P.funcs[f]? = some fn) (hb:fn.body=some c) (hn:(fn.name == "runtime.NumGoroutine")=false) {rs:List ResultVar} (hrs:fn.results=rs.toArray) (hk:args.length<=fn.ntmps)
 (h:VW0 P fn.ntmps σa.length c ⟨Ic 0 args,σa⟩ (Sg P σa.length rs σr res)):E7 P f σa args σr res:=by
 refine⟨⟨fn,hf,by rw[hb];rfl,hn⟩,fun E β us hen ho hβ r=>?_⟩
 have hsz:us.size=args.length:=r.sz.trans hen
 have hds:E.ds=[]:=by
  have:=r.df
  cases hq:E.ds with
  | nil=>rfl
  | cons x xs=>rw[hq] at this;cases this
 refine (callsIn_wide (n:=0)).1 (callsIn_of_wp_marks hf hb trivial ?_)
 have r':Eu { E with n:=fn.ntmps } β ⟨Ic 0 args,σa⟩ ⟨us++Array.replicate (fn.ntmps - us.size) undef,[]⟩ E.w0:=by
  refine⟨by simp[hsz];omega,fun t=>?_,r.df,r.ob,r.inj,r.rng,r.kp,r.ct,r.kb,r.dk⟩
  have hr:=r.sl t
  by_cases ht:t<us.size
  ·show Ec _ _ ((us++Array.replicate (fn.ntmps - us.size) undef).getD t undef)
   rw[Av,Bk ht,<- Av]
   exact hr
  have:E9 (Ic 0 args) t=.any:=by
   rw[Lx,Nat.sub_zero,if_pos (Ae _),Ad,Ar (by omega)];rfl
  show Ec _ (E9 (Ic 0 args) t) _
  rw[this]
  exact .any _
 have hE:∀id,σa.length<=id->E.o0 id=.gone:=fun id hid=>by
  rw[ho]
  exact Hf ⟨[],σa⟩ id hid
 have h0:∀b o,E.kb b=some o->b<E.w0.heap.size:=fun b o h=>(Aw.1 (r.kb b o h).1).1
 refine wpIn_mono (h { E with n:=fn.ntmps } Fence.wide ⟨rfl,hE⟩ (.inl rfl) hds β _ _ r') fun e a w ⟨E',s,β1,hle,h1,h2⟩=>?_
 obtain⟨he,hc,hw⟩:=h1
 have key:LeavesInM Fence.wide 0 P fn a.tmps (fun e w'=>∃v β',e=.returned v/\Eu { E with n:=1 } β' ⟨[(0,res)],σr⟩ ⟨#[v],[]⟩ w') a.defers .returning w:=by
  rw[h2.df]
  exact Ac4 (E0:=E) hrs hE h0 hds (fun v β' w' h=>⟨v,β',rfl,h⟩) E'.ds E' β1 s a w hle rfl h2 hc hw
 rcases he with rfl | rfl<;>exact key
end
end Go.Proofs.YtkkimgjinbaemaaGreat
