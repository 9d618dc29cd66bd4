/- The walk. -/
import Derived.Test.YtkkimgjinbaemaaGreatKaj
noncomputable section
namespace Go.Proofs.YtkkimgjinbaemaaGreat
open Go.RowKit
set_option linter.unusedVariables false
set_option linter.unusedSimpArgs false
set_option linter.defProp false
set_option linter.unusedSectionVars false
set_option maxRecDepth 100000
set_option maxHeartbeats 4000000
def Ar2 (lo:Nat) (w:World) (es:List (List T)) (u:Value) (ob:Option Nat):Prop :=
 u.oneCell'=true/\match ob with
 | none=>es=[]/\∃A,u=.slice A 0 0
 | some b=>lo<=b/\b<w.heap.size/\∃c cur,u=.slice (some ⟨b,0,none⟩) es.length c/\w.heap[b]? = some (.cells cur 166 (0,0))/\cur.size=c*5/\es.length<=c/\c<=maxLen/\∀(i:Nat) (e:List T) (j:Nat) (x:T),es[i]? = some e->e[j]? = some x->∃v,x=.lit v/\v.oneCell'=true/\cur[i*5+j]? = some v
theorem Ar2.kept {lo:Nat} {w w':World} {es:List (List T)} {u:Value} {ob:Option Nat} (h:Ar2 lo w es u ob) (hs:w.heap.size<=w'.heap.size) (hb:∀b,ob=some b->w'.heap[b]? = w.heap[b]?):Ar2 lo w' es u ob:=by
 obtain⟨h0,h⟩:=h
 refine⟨h0,?_⟩
 cases ob with
 | none=>exact h
 | some b =>
  obtain⟨h1,h2,c,cur,h3,h4,h5⟩:=h
  exact⟨h1,by omega,c,cur,h3,by rw[hb b rfl];exact h4,h5⟩
def Ag0 (r:Ew) (u:Value):List T:=[.li r.id,.li r.veh,.li r.cls,.li r.unt,.lit u]
def G4:List Ew->List Value->List (List T)
 | r::l,u::us=>Ag0 r u::G4 l us
 | _,_=>[]
theorem Aoo:∀(l:List Ew) (us:List Value) (r:Ew) (u:Value),us.length=l.length->G4 (l++[r]) (us++[u])=G4 l us++[Ag0 r u]
 | [],[],r,u,_=>rfl
 | x::l,v::us,r,u,h=>by simp only[List.cons_append,G4];rw[Aoo l us r u (by simpa using h)]
 | [],_::_,r,u,h=>by simp at h
 | _::_,[],r,u,h=>by simp at h
theorem Xr:∀(l:List Ew) (us:List Value),us.length=l.length->(G4 l us).length=l.length
 | [],[],_=>rfl
 | x::l,v::us,h=>by simp only[G4,A6];rw[Xr l us (by simpa using h)]
 | [],_::_,h=>by simp at h
 | _::_,[],h=>by simp at h
theorem Aon:∀{l:List Ew} {us:List Value},us.length=l.length->∀{i:Nat} {r:Ew},l[i]? = some r->∃u,us[i]? = some u/\(G4 l us)[i]? = some (Ag0 r u)
 | x::l,v::us,h,0,r,hr=>by simp at hr;subst hr;exact⟨v,rfl,rfl⟩
 | x::l,v::us,h,i+1,r,hr=>by
  obtain⟨u,h1,h2⟩:=Aon (l:=l) (us:=us) (by simpa using h) (i:=i) (by simpa using hr)
  exact⟨u,by simpa using h1,by simpa[G4] using h2⟩
 | [],_,h,i,r,hr=>by simp at hr
 | _::_,[],h,i,r,hr=>by simp at h
theorem Av6 {legs:List G3} {i j:Nat} {e:List T} {x:T} (he:(Ie legs)[i]? = some e) (hx:e[j]? = some x):∃v,x=.lit v/\v.oneCell'=true:=by
 obtain⟨g,hg,rfl⟩:=Ri he
 match j,hx with
 | 0,hx=>simp[G3.t] at hx;subst hx;exact⟨_,rfl,rfl⟩
 | 1,hx=>simp[G3.t] at hx;subst hx;exact⟨_,rfl,rfl⟩
 | 2,hx=>simp[G3.t] at hx;subst hx;exact⟨_,rfl,rfl⟩
 | 3,hx=>simp[G3.t] at hx;subst hx;exact⟨_,rfl,rfl⟩
 | 4,hx=>simp[G3.t] at hx;subst hx;exact⟨_,rfl,rfl⟩
 | j+5,hx=>simp[G3.t] at hx
structure Ay5 (lo:Nat) (w:World) (l:List Ew) (us:List Value) (bs:List (Option Nat)):Prop where
  len:bs.length=us.length
  leg:∀(j:Nat) (r:Ew) (u:Value) (b:Option Nat),l[j]? = some r->us[j]? = some u->bs[j]? = some b->Ar2 lo w (Ie r.legs) u b
  apart:∀(i j b:Nat),i<j->bs[i]? = some (some b)->bs[j]? ≠ some (some b)
theorem Aax (r:Ew) (h:r.legs.length<=1000000):PP 186 [] [r.g] [.row 166 5 true false (Ie r.legs)] (.agg [.li r.id,.li r.veh,.li r.cls,.li r.unt,.own 0 r.legs.length]):=by
 refine Em Tryz.func186 ?_
 refine Bw ?_
 refine Ce (fun K kk=>by simp[go_sem];refine .lo (Ng _ (by simpa using h) (by simp[T.plain,G3.t])) rfl (by simp) ?_;simp[go_sem];exact kk) ?_
 refine Bw ?_
 exact .ret (rW Dz [2])
def Gb:Nat->List Ew->List AV
 | _,[]=>[]
 | k,r::l=>.li r.id::.li r.veh::.li r.cls::.li r.unt::.own k r.legs.length::Gb (k+1) l
theorem Zp:∀(k:Nat) (l:List Ew),(Gb k l).length=l.length*5
 | _,[]=>rfl
 | k,r::l=>by simp[Gb,Zp (k+1) l];omega
theorem Ahn:∀{k:Nat} {l:List Ew} {p:Nat} {c:AV},(Gb k l)[p]? = some c->∃i r,l[i]? = some r/\((∃j,j<4/\p=i*5+j/\∀u,∃v,c=.lit v/\(Ag0 r u)[j]? = some (.lit v))\/(p=i*5+4/\c=.own (k+i) r.legs.length))
 | _,[],p,c,h=>by simp[Gb] at h
 | k,r::l,0,c,h=>by simp[Gb] at h;exact⟨0,r,rfl,.inl ⟨0,by omega,by omega,fun u=>⟨_,h.symm,rfl⟩⟩⟩
 | k,r::l,1,c,h=>by simp[Gb] at h;exact⟨0,r,rfl,.inl ⟨1,by omega,by omega,fun u=>⟨_,h.symm,rfl⟩⟩⟩
 | k,r::l,2,c,h=>by simp[Gb] at h;exact⟨0,r,rfl,.inl ⟨2,by omega,by omega,fun u=>⟨_,h.symm,rfl⟩⟩⟩
 | k,r::l,3,c,h=>by simp[Gb] at h;exact⟨0,r,rfl,.inl ⟨3,by omega,by omega,fun u=>⟨_,h.symm,rfl⟩⟩⟩
 | k,r::l,4,c,h=>by simp[Gb] at h;exact⟨0,r,rfl,.inr ⟨by omega,by rw[<- h];rfl⟩⟩
 | k,r::l,p+5,c,h=>by
  simp only[Gb,Bb] at h
  obtain⟨i,r',h1,h2⟩:=Ahn h
  refine⟨i+1,r',by simpa using h1,?_⟩
  rcases h2 with⟨j,h3,h4,h5⟩ | ⟨h3,h4⟩
  ·exact .inl ⟨j,h3,by omega,h5⟩
  exact .inr ⟨by omega,by rw[h4];congr 1;omega⟩
def Jd (l:List Ew):List Ob:=l.map fun r=>.row 166 5 true false (Ie r.legs)
def Hu (l:List Ew):List Ob:=.box 164 (Gb 1 l)::Jd l
theorem Eu.deep {E:Gs} {β:Nat->Option Nat} {a:Act} {w:World} {l:List Ew} {us:List Value} {bs:List (Option Nat)} {fr:Bool} {t:Nat} (r:Eu E β ⟨[(t,.own 0 l.length)],[.row 164 5 fr false (G4 l us)]⟩ a w) (hE:∀id,E.o0 id=.gone) (hne:l≠[]) (hus:us.length=l.length)
 (hf:Ay5 E.w0.heap.size w l us bs) (hb0:∀b j:Nat,β 0=some b->bs[j]? ≠ some (some b)):∃β',Eu E β' ⟨[(t,.bsl 0 l.length)],Hu l⟩ a w:=by
 have ho:(St.mk [(t,.own 0 l.length)] [.row 164 5 fr false (G4 l us)]).o 0=.row 164 5 fr false (G4 l us):=rfl
 have hlen:l.length=(G4 l us).length:=(Xr l us hus).symm
 have hv:=r.sl t
 simp only[E9,beq_self_eq_true,cond_true] at hv
 obtain⟨u0,hu0⟩:∃u0,u0=a.tmps.getD t undef:=⟨_,rfl⟩
 rw[<- hu0] at hv
 cases hv with
 | own id n u hown =>
 rcases r.own_val ho hown hlen with⟨_,he,_⟩ | ⟨b0,cur,c,hb,g1,g2,g3,g4,hu,g5⟩
 ·rw[he] at hlen
  cases l with
  | nil=>exact absurd rfl hne
  | cons=>simp at hlen
 obtain⟨βF,hβF⟩:∃βF:Nat->Option Nat,βF=fun i=>if i=0 then some b0 else (bs[i - 1]?).join:=⟨_,rfl⟩
 have hβ0:βF 0=some b0:=by rw[hβF];rfl
 have hβ1:∀i,βF (i+1)=(bs[i]?).join:=fun i=>by rw[hβF];rfl
 have hob:∀i,(St.mk [(t,.bsl 0 l.length)] (Hu l)).o (i+1)=match l[i]? with | some r=>.row 166 5 true false (Ie r.legs) | none=>.gone:=fun i=>by
  show (Hu l).getD (i+1) .gone=_
  simp only[Hu,Jd,Ad,Bb,Ap]
  cases l[i]? <;> rfl
 have hob0:(St.mk [(t,.bsl 0 l.length)] (Hu l)).o 0=.box 164 (Gb 1 l):=rfl
 have hleg:∀(i:Nat) (r:Ew),l[i]? = some r->∃u b,us[i]? = some u/\bs[i]? = some b/\Ar2 E.w0.heap.size w (Ie r.legs) u b:=fun i r hi=>by
  have h1:=(Ab.1 hi).1
  have h2:us[i]? = some us[i]:=Aa (by omega)
  have h4:i<bs.length:=by rw[hf.len];omega
  have h3:bs[i]? = some bs[i]:=Aa h4
  exact⟨_,_,h2,h3,hf.leg i r _ _ hi h2 h3⟩
 have hlt0:b0<w.heap.size:=(r.rng 0 b0 (by rw[ho];simp) hb).1
 have hin:∀(i b:Nat),βF (i+1)=some b->∃r u,l[i]? = some r/\Ar2 E.w0.heap.size w (Ie r.legs) u (some b)/\bs[i]? = some (some b):=fun i b h=>by
  rw[hβ1] at h
  cases hq:bs[i]? with
  | none=>rw[hq] at h;cases h
  | some ob =>
   rw[hq] at h
   have h:ob=some b:=h
   subst h
   have h1:=(Ab.1 hq).1
   have h1':i<l.length:=by rw[hf.len] at h1;omega
   have h2:l[i]? = some l[i]:=Aa h1'
   obtain⟨u,b',q1,q2,q3⟩:=hleg i _ h2
   rw[hq] at q2
   injection q2 with q2
   subst q2
   exact⟨_,u,h2,q3,rfl⟩
 have hV:∀(i:Nat) (r:Ew) (u:Value),l[i]? = some r->us[i]? = some u->Ah2 (E.C βF ⟨[(t,.bsl 0 l.length)],Hu l⟩ w) (1+i) r.legs.length u:=fun i r u hi hu=>by
  obtain⟨u',b,h1,h2,h3⟩:=hleg i r hi
  rw[hu] at h1
  injection h1 with h1
  subst h1
  refine⟨h3.1,166,5,true,false,Ie r.legs,by show (St.mk _ (Hu l)).o (1+i)=_;rw[Ba,hob,hi],by simp,fun _=>?_⟩
  have:(E.C βF ⟨[(t,.bsl 0 l.length)],Hu l⟩ w).β (1+i)=b:=by show βF (1+i)=b;rw[Ba,hβ1,h2];rfl
  rw[this]
  cases b with
  | none=>exact h3.2.2
  | some b =>
   obtain⟨_,_,_,c,cur,k1,k2,k3,k4,k5,k6⟩:=h3
   exact⟨c,cur,k2,k3,by rw[k1];simp⟩
 refine⟨βF,r.sz,fun x=>?_,r.df,fun i=>?_,fun i j b hi hj h1 h2=>?_,fun i b hi h=>?_,r.kp,⟨fun id ty cs h=>?_,fun id ty k fr fz es h=>?_⟩,r.kb,r.dk⟩
 ·simp only[E9]
  cases hx:t == x with
  | true =>
   have:t=x:=by simpa using hx
   subst this
   rw[<- hu0,hu,<- hlen]
   exact .bsl _ _ _ ⟨164,_,b0,c,hob0,hβ0,rfl,by omega⟩
  | false=>exact .any _
 ·cases i with
  | zero =>
   rw[hob0]
   refine⟨b0,cur,hβ0,g1,?_,fun p cc u hc hu'=>?_⟩
   ·rw[Zp,g2,hlen];exact A1 5 g3
   obtain⟨i,r',h1,h2⟩:=Ahn hc
   obtain⟨ui,h3,h4⟩:=Aon hus h1
   rcases h2 with⟨j,hj,rfl,h5⟩ | ⟨rfl,rfl⟩
   ·obtain⟨v,rfl,h6⟩:=h5 ui
    obtain⟨u',k1,k2⟩:=g5 i _ j _ h4 h6
    rw[hu'] at k1
    injection k1 with k1
    subst k1
    cases k2 with
    | lit v h=>exact⟨.lit _,h⟩
   obtain⟨u',k1,k2⟩:=g5 i _ 4 _ h4 rfl
   rw[hu'] at k1
   injection k1 with k1
   subst k1
   cases k2 with
   | lit v h=>exact⟨.own _ _ _ (hV i r' _ h1 h3),h⟩
  | succ i =>
   rw[hob]
   cases hi:l[i]? with
   | none=>trivial
   | some r' =>
    obtain⟨u,b,h1,h2,h3⟩:=hleg i r' hi
    refine⟨⟨by omega,fun i e he=>?_⟩,?_⟩
    ·obtain⟨g,_,rfl⟩:=Ri he
     rfl
    have:(E.C βF ⟨[(t,.bsl 0 l.length)],Hu l⟩ w).β (i+1)=b:=by show βF (i+1)=b;rw[hβ1,h2];rfl
    rw[this]
    cases b with
    | none=>exact h3.2.1
    | some b =>
     obtain⟨_,_,_,c,cur,k1,k2,k3,k4,k5,k6⟩:=h3
     refine⟨cur,c,k2,k3,k4,k5,fun i e j x he hx=>?_⟩
     obtain⟨v,rfl,hv1,hv2⟩:=k6 i e j x he hx
     exact⟨v,hv2,.lit v hv1⟩
 ·cases i with
  | zero =>
   cases j with
   | zero=>rfl
   | succ j =>
    rw[hβ0] at h1
    injection h1 with h1
    subst h1
    obtain⟨_,_,_,_,q⟩:=hin j _ h2
    exact absurd q (hb0 _ j hb)
  | succ i =>
   cases j with
   | zero =>
    rw[hβ0] at h2
    injection h2 with h2
    subst h2
    obtain⟨_,_,_,_,q⟩:=hin i _ h1
    exact absurd q (hb0 _ i hb)
   | succ j =>
    obtain⟨_,_,_,_,q1⟩:=hin i _ h1
    obtain⟨_,_,_,_,q2⟩:=hin j _ h2
    rcases Nat.lt_trichotomy i j with h | h | h
    ·exact absurd q2 (hf.apart i j b h q1)
    ·rw[h]
    exact absurd q1 (hf.apart j i b h q2)
 ·cases i with
  | zero =>
   rw[hβ0] at h
   injection h with h
   subst h
   exact r.rng 0 _ (by rw[ho];simp) hb
  | succ i =>
   obtain⟨_,_,_,q,_⟩:=hin i _ h
   exact⟨q.2.2.1,.inl q.2.1⟩
 ·rw[hE] at h;cases h
 rw[hE] at h;cases h
section
variable {P:Program} {E:Gs} {F:Fence} {st:St} {Q:Exit->Act->World->Prop} {β:Nat->Option Nat} {a:Act} {w:World}
theorem Ar7 (r:Eu E β st a w) {c:Operand} {x y:Code} (hb:Ik (st.raw c).sv=true) (hs:(st.raw c).sb=true) (ht:Fh (st.raw c).sv=true->x.wpIn F 0 P Q a w) (hf:Fh (st.raw c).sv=false->y.wpIn F 0 P Q a w):(Code.cond c x y).wpIn F 0 P Q a w:=by
 obtain⟨_,e2⟩:=Nb hb ((M9 r c).sv.1 hs)
 exact wpIn_cond_split e2 ht hf
theorem Eu.say1 (r:Eu E β st a w) (t:Nat) {v:AV} (h:Ec (E.C β st w) v (a.tmps.getD t undef)):Eu E β ⟨(t,v)::st.sl,st.ob⟩ a w :=
 r.say fun x hx=>by
  simp only[E9]
  cases hb:t == x with
  | true =>
   have:t=x:=by simpa using hb
   subst this
   exact h
  | false=>exact hx
theorem A0v {C:VC} {cs:List AV} {c:AV} {v:Value} (h:Ec C (.agg (cs++[c])) v):∃u,Ec C c u/\Ec C (.agg (cs++[.lit u])) v:=by
 cases h with
 | agg cs' us h1 h2 =>
  have hl:us.size=cs.length+1:=by rw[<- h1];simp
  refine⟨us[cs.length],h2 cs.length c _ (by simp) (Al (by omega)),.agg _ _ (by simpa using hl.symm) fun i x u hx hu=>?_⟩
  by_cases hi:i<cs.length
  ·refine h2 i x u ?_ hu
   rw[Au hi] at hx ⊢
   exact hx
  rw[Ao (by omega)] at hx
  have hi':i=cs.length:=by
   have:=(Ab.1 hx).1
   simp at this;omega
  subst hi'
  simp at hx
  subst hx
  rw[Al (by omega)] at hu
  injection hu with hu
  subst hu
  exact .lit _
theorem Aij {c:Code} (I:Nat->Act->World->Prop) (z:Nat) (h0:I z a w) (round:∀z a w,I z a w->c.wpIn F 0 P (Exit.then (fun a' w'=>∃z',z'<z/\I z' a' w') Q) a w):(Code.loop c).wpIn F 0 P Q a w:=by
 have hleast:∀a w,(∃n,I n a w)->∃n,I n a w/\∀n',I n' a w->n<=n':=by
  rintro a w ⟨n,h⟩
  induction n using Nat.strongRecOn with
  | _ n ih =>
   by_cases hm:∃n',n'<n/\I n' a w
   ·obtain⟨n',hlt,h'⟩:=hm
    exact ih n' hlt h'
   exact⟨n,h,fun n' h'=>Nat.le_of_not_lt fun hlt=>hm ⟨n',hlt,h'⟩⟩
 refine wpIn_loop (fun a w=>∃n,I n a w) (fun a w=>Classical.epsilon fun n=>I n a w/\∀n',I n' a w->n<=n') ⟨z,h0⟩ ?_
 intro a w hI
 obtain⟨h1,hmin⟩:=Classical.epsilon_spec (hleast a w hI)
 refine wpIn_mono (round _ a w h1) fun e a' w' hq=>?_
 cases e with
 | normal =>
  obtain⟨n',hlt,hI'⟩:=hq
  refine⟨⟨n',hI'⟩,?_⟩
  have:=Classical.epsilon_spec (hleast a' w' ⟨n',hI'⟩)
  exact Nat.lt_of_le_of_lt (this.2 n' hI') hlt
 | _=>exact hq
end
def Ahe (l:List Ew) (i:Nat) (us:List Value):St:=⟨[(1,.fn 193 []),(5,.own 0 i),(8,.mReq l),(9,.li l.length),(10,.li i)],[.row 164 5 true false (G4 (l.take i) us)]⟩
theorem A0b {lo:Nat} {E:Gs} {β:Nat->Option Nat} {st:St} {a:Act} {w:World} (r:Eu E β st a w) {id:Nat} {fr fz:Bool} {q:Ew} (ho:st.o id=.row 166 5 fr fz (Ie q.legs)) {u:Value} (hu:Ah2 (E.C β st w) id q.legs.length u) (hlo:∀b,β id=some b->lo<=b):Ar2 lo w (Ie q.legs) u (β id):=by
 refine⟨hu.1,?_⟩
 rcases r.own_val ho hu (by simp) with⟨h1,h2,h3⟩ | ⟨b,cur,c,h1,h2,h3,h4,h5,h6,h7⟩
 ·rw[h1];exact⟨h2,h3⟩
 rw[h1]
 refine⟨hlo b h1,(r.rng id b (by rw[ho];simp) h1).1,c,cur,h6,h2,h3,h4,h5,fun i e j x he hx=>?_⟩
 obtain⟨v,rfl,hv⟩:=Av6 he hx
 obtain⟨u',k1,k2⟩:=h7 i e j _ he hx
 cases k2 with
 | lit v h=>exact⟨v,rfl,h,k1⟩
section
variable (l:List Ew) (hne:l≠[]) (hl:l.length<=3) (hg:∀r∈l,r.legs.length<=1000000)
include hne hl hg
theorem Ant:PP 168 [] [.mReq l,.fn 193 []] (Hu l) (.bsl 0 l.length):=by
 refine Aw4 Tryz.func168 rfl rfl rfl (by simp[Tryz.ntmps168]) ?_
 rintro E F ⟨hn,hE0⟩ hF hds β a w r
 have hE:∀id,E.o0 id=.gone:=fun id=>hE0 id (Ae _)
 have hn:E.n=24:=hn
 refine M8 hF hds (by rw[hn];rfl) r fun K1 hK1=>?_
 simp[go_sem]
 refine hK1 _ ?_;clear hK1
 intro β1 a1 w1 r1 f1
 refine M8 hF hds (by rw[hn];rfl) r1 fun K1 hK1=>?_
 simp[go_sem]
 refine hK1 _ ?_;clear hK1
 intro β2 a2 w2 r2 f2
 refine wpIn_seq ?_
 refine M8 hF hds (by rw[hn];rfl) r2 fun K1 hK1=>?_
 simp[go_sem]
 refine hK1 _ ?_;clear hK1
 intro β3 a3 w3 r3 f3
 refine wpIn_block ?_
 have r4:=(r3.own0 5 164 5 (by decide) (k':=5) (by simp[go_sem])).weakE (sel:=[0]) (st':=Ahe l 0 []) (by
  refine Es (by decide) ?_ ?_
  ·repeat' (first | exact .nil | refine .cons (by simp[go_sem]) ?_)
  repeat' (first | exact .nil | refine .cons (by simp[go_sem,G4]) ?_)) (fun id h=>absurd (hE id) h)
 clear r r1 r2 r3 f1 f2 f3
 refine Aij (fun z a w=>∃i us bs β,i<=l.length/\z=l.length - i/\us.length=i/\Eu E β (Ahe l i us) a w/\Ay5 E.w0.heap.size w (l.take i) us bs/\∀b j:Nat,β 0=some b->bs[j]? ≠ some (some b)) l.length ⟨0,[],[],_,Ae _,rfl,rfl,r4,⟨rfl,fun j r u b h=>by simp at h,fun i j b _ h=>by simp at h⟩,fun b j _ h=>by simp at h⟩ ?_
 clear r4
 rintro z a w ⟨i,us,bs,β,hi,hz,hus,r,hf,hb0⟩
 refine M8 hF hds (by rw[hn];rfl) r fun K1 hK1=>?_
 simp[go_sem,Ahe]
 refine hK1 _ ?_;clear hK1
 intro β1 a1 w1 r1 f1
 refine wpIn_seq ?_
 refine Ar7 r1 (by simp[go_sem]) (by simp[go_sem]) (fun h11=>?_) (fun h11=>?_)<;>simp[go_sem] at h11
 ·
  refine wpIn_skip ?_
  have hx:l[i]? = some l[i]:=Aa (by omega)
  generalize l[i]=e at hx
  have ht:List.take (i+1) l=List.take i l++[e]:=by rw[List.take_add_one,hx];rfl
  have hi4:i<4:=by omega
  have hlr:(G4 (l.take i) us).length=i:=by rw[Xr _ _ (by simp;omega)];simp;omega
  refine wpIn_seq ?_
  refine wpIn_block ?_
  refine M8 hF hds (by rw[hn];rfl) r1 fun K1 hK1=>?_
  simp[go_sem,hx]
  repeat' with_reducible refine Ax ?_ ?_
  all_goals try (intros;(repeat' refine Ax ?_ ?_)<;>omega)
  refine hK1 _ ?_;clear hK1
  intro β2 a2 w2 r2 f2
  refine M8 hF hds (by rw[hn];rfl) r2 fun K1 hK1=>?_
  simp[go_sem]
  refine .lo (K9 e) (by simp[go_sem]) (by simp[AV.cln,Fu]) ?_
  simp[go_sem]
  refine hK1 _ ?_;clear hK1
  intro β3 a3 w3 r3 f3
  refine Ar7 r3 (by simp[go_sem]) (by simp[go_sem]) (fun h16=>?_) (fun h16=>?_)<;>simp[go_sem] at h16
  refine Anf hF hds 3 (by rw[hn];rfl) r3 fun K1 hK1=>?_
  simp[go_sem]
  refine .l (Aax e (hg e (Ac hx))) ?_
  simp[go_sem]
  refine hK1 _ ?_;clear hK1
  intro β4 a4 w4 r4 f4
  have hv:=r4.sl 19
  simp only[E9] at hv
  obtain⟨u,hu1,hu2⟩:=A0v (cs:=[_,_,_,_]) hv
  have r4':=r4.say1 19 hu2
  cases hu1 with
  | own _ _ _ hu1 =>
  have h1u:=hu1.1
  refine Adj hF hds (by rw[hn];rfl) r4' fun K1 hK1=>?_
  simp[go_sem,h1u,hlr]
  repeat' with_reducible refine Ax ?_ ?_
  all_goals try exact h1u
  all_goals try (intros;(repeat' refine Ax ?_ ?_)<;>omega)
  refine hK1 _ ?_;clear hK1
  intro β5 a5 w5 r5 f5
  refine Avp hF hds (by rw[hn];rfl) r5 fun K1 hK1=>?_
  simp[go_sem]
  refine hK1 _ ?_;clear hK1
  intro β6 a6 w6 r6 f6
  have g12:=f1.grew.trans f2.grew
  have g13:=g12.trans f3.grew
  have g14:=g13.trans f4.grew
  have g15:=g14.trans2 f5.grew rfl
  have g:=g15.trans f6.grew
  have hown:∀(b:Nat),Own β (Ahe l i us) b->β 0=some b:=fun b ⟨id,h1,h2⟩=>by
   cases id with
   | zero=>exact h2
   | succ id=>exact absurd rfl h1
  have ho6:β6 2=β4 2:=(f6.row 2 166 5 _ _ (Ie e.legs) _ _ (Ie e.legs) rfl rfl rfl).trans (f5.row 2 166 5 _ _ (Ie e.legs) _ _ (Ie e.legs) rfl rfl rfl)
  have hv5:=f5.keep 2 166 5 _ _ (Ie e.legs) _ _ (Ie e.legs) _ _ rfl rfl rfl hu1
  have hv6:=f6.keep 2 166 5 _ _ (Ie e.legs) _ _ (Ie e.legs) _ _ rfl rfl rfl hv5
  have hnew:∀b,β4 2=some b->w.heap.size<=b:=fun b hb=>by
   rcases f4.rng b ⟨2,by simp[St.o],hb⟩ with h | ⟨id,h1,h2⟩
   ·exact Ak g13.kp.size h
   exfalso
   match id,h1,h2 with
   | 0,h1,h2 =>
    have:=f4.row 0 164 5 _ _ (G4 (l.take i) us) _ _ (G4 (l.take i) us) rfl rfl rfl
    have:=r4.inj 0 2 b (by simp[St.o]) (by simp[St.o]) (by rw[this];exact h2) hb
    omega
   | 1,h1,h2 =>
    have:=f4.box 1 164 _ rfl
    have:=r4.inj 1 2 b (by simp[St.o]) (by simp[St.o]) (by rw[this];exact h2) hb
    omega
   | id+2,h1,h2=>exact h1 rfl
  have hleg:=A0b (lo:=E.w0.heap.size) r6 (id:=2) (q:=e) rfl hv6 (fun b hb=>by
   rw[ho6] at hb
   exact Ak r.kp.size (hnew b hb))
  have hold:∀(j b:Nat),bs[j]? = some (some b)->b<w.heap.size/\w6.heap[b]? = w.heap[b]?:=fun j b hj=>by
   have h1:=(Ab.1 hj).1
   rw[hf.len] at h1
   have h2:us[j]? = some us[j]:=Aa h1
   have h3':j<(l.take i).length:=by simp;omega
   have h3:(l.take i)[j]? = some (l.take i)[j]:=Aa h3'
   have h4:=hf.leg j _ _ _ h3 h2 hj
   refine⟨h4.2.2.1,g.kp.block b h4.2.2.1 fun h=>?_⟩
   exact hb0 b j (hown b h) hj
  refine⟨z - 1,by omega,i+1,us++[u],bs++[β6 2],_,by omega,by omega,by simp[hus],r6.weakE (sel:=[0]) (st':=Ahe l (i+1) (us++[u])) (Es (by decide) ?_ ?_) (fun id h=>absurd (hE id) h),⟨by simp[hf.len],?_,?_⟩,?_⟩
  ·repeat' (first | exact .nil | refine .cons (by simp[go_sem,Dx ((i:Int)+1)]) ?_)
  ·refine .cons ?_ .nil
   rw[ht,Aoo _ _ _ _ (by simp;omega)]
   simp[go_sem,Ag0]
  ·intro j r' u' b h1 h2 h3
   by_cases hj:j<i
   ·have hj2:j<us.length:=by omega
    have hj3:j<bs.length:=by rw[hf.len];omega
    rw[Au hj2] at h2
    rw[Au hj3] at h3
    rw[ht,Au (by simp;omega)] at h1
    exact (hf.leg j r' u' b h1 h2 h3).kept g.kp.size fun b' hb'=>by
     subst hb'
     exact (hold j b' h3).2
   have hj2:j=i:=by
    have:=(Ab.1 h2).1
    simp at this;omega
   subst hj2
   rw[Ao (by omega),show j - us.length=0 by omega] at h2
   rw[Ao (by rw[hf.len];omega),show j - bs.length=0 by rw[hf.len];omega] at h3
   rw[ht,Ao (by simp;omega),show j - (l.take j).length=0 by simp;omega] at h1
   simp at h1 h2 h3
   subst h1 h2 h3
   exact hleg
  ·intro i' j b hij h1 h2
   have hj2:=(Ab.1 h2).1
   have hbl:=hf.len
   simp at hj2
   rw[Au (by omega)] at h1
   by_cases hj:j<bs.length
   ·rw[Au hj] at h2
    exact hf.apart i' j b hij h1 h2
   rw[Ao (by omega),show j - bs.length=0 by omega] at h2
   simp at h2
   rw[ho6] at h2
   have:=hnew b h2
   have:=(hold i' b h1).1
   omega
  intro b j h1 h2
  have h1:β6 0=some b:=h1
  have hj2:=(Ab.1 h2).1
  have hbl:=hf.len
  simp at hj2
  by_cases hj:j<bs.length
  ·rw[Au hj] at h2
   rcases g.rng b ⟨0,by simp[St.o],h1⟩ with h | h
   ·have:=(hold j b h2).1
    omega
   exact hb0 b j (hown b h) h2
  rw[Ao (by omega),show j - bs.length=0 by omega] at h2
  simp at h2
  have:=r6.inj 0 2 b (by simp[St.o]) (by simp[St.o]) h1 h2
  omega
 -- the end
 have hi:i=l.length:=by omega
 subst hi
 refine wpIn_exit ?_
 refine M8 (y:=.ret) hF hds (by rw[hn];rfl) r1 fun K1 hK1=>?_
 simp[go_sem]
 refine hK1 _ ?_;clear hK1
 intro β2 a2 w2 r2 f2
 rw[List.take_length] at hf
 have g:Ajd β (Ahe l l.length us) w β2 _ w2:=f1.grew.trans f2.grew
 have hβ2:β2 0=β 0:=(f2.row 0 164 5 _ _ (G4 (l.take l.length) us) _ _ (G4 l us) rfl rfl (by rw[List.take_length])).trans (f1.row 0 164 5 _ _ (G4 (l.take l.length) us) _ _ (G4 (l.take l.length) us) rfl rfl rfl)
 have hown:∀(b:Nat),Own β (Ahe l l.length us) b->β 0=some b:=fun b ⟨id,h1,h2⟩=>by
  cases id with
  | zero=>exact h2
  | succ id=>exact absurd rfl h1
 have hf2:Ay5 E.w0.heap.size w2 l us bs:=⟨hf.len,fun j r' u b h1 h2 h3=>(hf.leg j r' u b h1 h2 h3).kept g.kp.size fun b' hb'=>by
  subst hb'
  exact g.kp.block b' (hf.leg j r' u _ h1 h2 h3).2.2.1 fun h=>hb0 b' j (hown b' h) h3,hf.apart⟩
 have r3:=r2.weakE (sel:=[0]) (st':=⟨[(4,.own 0 l.length)],[.row 164 5 true false (G4 l us)]⟩) (Es (by decide) (by
  repeat' (first | exact .nil | refine .cons (by simp[go_sem]) ?_)) (by
  repeat' (first | exact .nil | refine .cons (by simp[go_sem]) ?_))) (fun id h=>absurd (hE id) h)
 obtain⟨β4,r4⟩:=r3.deep hE hne hus hf2 fun b j h=>hb0 b j (by rw[<- hβ2];exact h)
 refine wpIn_ret ⟨E,_,β4,Hs.refl E,?_,r4⟩
 clear r4 r3 r2 r1 r f1 f2 hf2 hf g hown hβ2 hb0 hus hz hg h11
 match l,hl,hne with
 | [],_,hne=>exact absurd rfl hne
 | [q0],_,_ =>
  refine Acv [0,1] (by simp[go_sem]) (by decide) (by simp) (by simp[go_sem]) ?_
  simp only[Hu,Gb,Jd,List.map]
  repeat' (first | exact .nil | refine .cons (by simp[go_sem]) ?_)
 | [q0,q1],_,_ =>
  refine Acv [0,1,2] (by simp[go_sem]) (by decide) (by simp) (by simp[go_sem]) ?_
  simp only[Hu,Gb,Jd,List.map]
  repeat' (first | exact .nil | refine .cons (by simp[go_sem]) ?_)
 | [q0,q1,q2],_,_ =>
  refine Acv [0,1,2,3] (by simp[go_sem]) (by decide) (by simp) (by simp[go_sem]) ?_
  simp only[Hu,Gb,Jd,List.map]
  repeat' (first | exact .nil | refine .cons (by simp[go_sem]) ?_)
 | _::_::_::_::l,h,_=>simp at h
theorem Mv:PP 171 [] [.mReq l] (Hu l) (.bsl 0 l.length):=by
 refine Em Tryz.func171 ?_
 refine Bw ?_
 refine Bx (by rfl) fun K1 hK1=>?_
 simp[go_sem]
 have hk:=Ant l hne hl hg
 match l,hl,hne,hk with
 | [],_,hne,_=>exact absurd rfl hne
 | [q0],_,_,hk =>
  refine .by hk (Rc.refl _) (by simp) ?_
  simp[go_sem,Hu,Gb,Jd]
  refine hK1 _ ?_;clear hK1
  refine VW.ret (Acv [0,1] (by simp[go_sem]) (by decide) (by simp) (by simp[go_sem]) ?_)
  simp only[Hu,Gb,Jd,List.map]
  repeat' (first | exact .nil | refine .cons (by simp[go_sem]) ?_)
 | [q0,q1],_,_,hk =>
  refine .by hk (Rc.refl _) (by simp) ?_
  simp[go_sem,Hu,Gb,Jd]
  refine hK1 _ ?_;clear hK1
  refine VW.ret (Acv [0,1,2] (by simp[go_sem]) (by decide) (by simp) (by simp[go_sem]) ?_)
  simp only[Hu,Gb,Jd,List.map]
  repeat' (first | exact .nil | refine .cons (by simp[go_sem]) ?_)
 | [q0,q1,q2],_,_,hk =>
  refine .by hk (Rc.refl _) (by simp) ?_
  simp[go_sem,Hu,Gb,Jd]
  refine hK1 _ ?_;clear hK1
  refine VW.ret (Acv [0,1,2,3] (by simp[go_sem]) (by decide) (by simp) (by simp[go_sem]) ?_)
  simp only[Hu,Gb,Jd,List.map]
  repeat' (first | exact .nil | refine .cons (by simp[go_sem]) ?_)
 | _::_::_::_::l,h,_,_=>simp at h
end
theorem Ab8 (q0:Ew) (now:Int) (hg:∀r∈[q0],r.legs.length<=1000000):Ct 150 [.imm false 5 (Hn [q0]),.li now] (fun d:List Ew=>.mReq d) (fun d=>d.length=1/\(∀r∈d,r.legs.length<=1000000)/\((∀r∈[q0],Zs r)->∀r∈d,Zs r)):=by
 refine Ex Tryz.func150 ?_
 have hk:=Mv [q0] (by simp) (by simp) hg
 have hg0:q0.legs.length<=1000000:=hg q0 (by simp)
 refine Bq ?_
 refine B3 (fun K kk=>by simp[go_sem,Hu,Gb,Jd];refine .by hk (Rc.refl _) (by simp) ?_;simp[go_sem,Hu,Gb,Jd];exact kk)<|.seq ?_
 refine Bq<|.block ?_
 refine Bs 1 (fun i1 (y1:List G3)=>⟨[(1,.li now),(5,.bsl 0 1),(11,.bsl 0 1),(12,.li 1),(13,.li i1)],[.box 164 [.li q0.id,.li q0.veh,.li q0.cls,.li q0.unt,.own 1 q0.legs.length],.row 166 5 false false (Ie y1)]⟩) (fun i1 y1=>y1.length=q0.legs.length) q0.legs (wk Dz [0,1]) (rfl) fun i1 y1 hi1 hy1=>?_
 refine Bq<|.seq ?_
 refine Br ?_ ?_<;>intro h14
 ·
  refine Bp ?_
  have hi:i1=0:=by omega
  subst hi
  -- element 0
  refine Ca<|.block<|.H hy1 ?_
  refine Bt hy1<|.block ?_
  refine Bs q0.legs.length (fun i2 (y2:List G3)=>⟨[(1,.li now),(5,.bsl 0 1),(7,.ptr 2 0),(11,.bsl 0 1),(12,.li 1),(13,.li 0),(19,.li q0.legs.length),(20,.li i2)],[.box 164 [.li q0.id,.li q0.veh,.li q0.cls,.li q0.unt,.own 1 q0.legs.length],.row 166 5 false false (Ie y2),.box 164 [.li q0.id,.li q0.veh,.li q0.cls,.li q0.unt,.own 1 q0.legs.length]]⟩) (fun i2 y2=>y2.length=q0.legs.length) y1 (wk hy1 [0,1,2]) hy1 fun i2 y2 hi2 hy2=>?_
  refine Bq<|.seq ?_
  refine Br ?_ ?_<;>intro h21
  ·refine Bp<|.seq<|.block<|.R ?_
   obtain⟨e,hx⟩:∃e,y2[i2]? = some e:=⟨_,Aa (by omega)⟩
   refine Cp (Fa hx hy2) (Ky e now) ?_
   refine Ci ?_
   refine⟨by omega,y2.set i2 (Mb e now),?_,wQ [0,1,2] ?_ ?_⟩
   ·simpa using hy2
   ·simp[go_sem,Dx ((i2:Int)+1)]
   simp[go_sem,hy1,hy2,List.map_set]
  refine Bu<|.R1 ?_
  refine⟨by omega,y2,?_,wQ [0,1] ?_ ?_⟩
  ·exact hy2
  ·simp[go_sem,Dx (1:Int)]
  simp[go_sem]
 -- the end
 refine Bu<|.R ?_
 refine B2 hy1 1 ?_
 refine C9 0 5 (Hn [{ q0 with legs:=y1 }]) rfl rfl (by simp[Ew.t]) (by simp) ?_
 simp[go_sem]
 refine Bz (Fj ?_);simp[go_sem]
 exact⟨[{ q0 with legs:=y1 }],rfl,⟨rfl,by simp only[List.mem_cons,A8,or_false,forall_eq_or_imp,forall_eq];(repeat' refine Ax ?_ ?_)<;>omega,by simp only[List.mem_cons,A8,or_false,forall_eq_or_imp,forall_eq,Zs];intros;simp_all⟩⟩
theorem Ab7 (q0 q1:Ew) (now:Int) (hg:∀r∈[q0,q1],r.legs.length<=1000000):Ct 150 [.imm false 5 (Hn [q0,q1]),.li now] (fun d:List Ew=>.mReq d) (fun d=>d.length=2/\(∀r∈d,r.legs.length<=1000000)/\((∀r∈[q0,q1],Zs r)->∀r∈d,Zs r)):=by
 refine Ex Tryz.func150 ?_
 have hk:=Mv [q0,q1] (by simp) (by simp) hg
 have hg0:q0.legs.length<=1000000:=hg q0 (by simp)
 have hg1:q1.legs.length<=1000000:=hg q1 (by simp)
 refine Bq ?_
 refine B3 (fun K kk=>by simp[go_sem,Hu,Gb,Jd];refine .by hk (Rc.refl _) (by simp) ?_;simp[go_sem,Hu,Gb,Jd];exact kk)<|.seq ?_
 refine Bq<|.block ?_
 refine Bs 2 (fun i1 (y1:List G3×List G3)=>⟨[(1,.li now),(5,.bsl 0 2),(11,.bsl 0 2),(12,.li 2),(13,.li i1)],[.box 164 [.li q0.id,.li q0.veh,.li q0.cls,.li q0.unt,.own 1 q0.legs.length,.li q1.id,.li q1.veh,.li q1.cls,.li q1.unt,.own 2 q1.legs.length],.row 166 5 false false (Ie y1.1),.row 166 5 false false (Ie y1.2)]⟩) (fun i1 y1=>y1.1.length=q0.legs.length/\y1.2.length=q1.legs.length) (q0.legs,q1.legs) (wk Dz [0,1,2]) (⟨rfl,rfl⟩) fun i1 y1 hi1 hy1=>?_
 refine Bq<|.seq ?_
 refine Br ?_ ?_<;>intro h14
 ·
  refine Bp ?_
  have hi:i1=0\/i1=1:=by omega
  rcases hi with rfl | rfl
  ·
   refine Ca<|.block<|.H hy1 ?_
   refine Bt hy1<|.block ?_
   refine Bs q0.legs.length (fun i2 (y2:List G3)=>⟨[(1,.li now),(5,.bsl 0 2),(7,.ptr 3 0),(11,.bsl 0 2),(12,.li 2),(13,.li 0),(19,.li q0.legs.length),(20,.li i2)],[.box 164 [.li q0.id,.li q0.veh,.li q0.cls,.li q0.unt,.own 1 q0.legs.length,.li q1.id,.li q1.veh,.li q1.cls,.li q1.unt,.own 2 q1.legs.length],.row 166 5 false false (Ie y2),.row 166 5 false false (Ie y1.2),.box 164 [.li q0.id,.li q0.veh,.li q0.cls,.li q0.unt,.own 1 q0.legs.length]]⟩) (fun i2 y2=>y2.length=q0.legs.length) y1.1 (wk hy1 [0,1,2,3]) hy1.1 fun i2 y2 hi2 hy2=>?_
   refine Bq<|.seq ?_
   refine Br ?_ ?_<;>intro h21
   ·refine Bp<|.seq<|.block<|.R ?_
    obtain⟨e,hx⟩:∃e,y2[i2]? = some e:=⟨_,Aa (by omega)⟩
    refine Cp (Fa hx hy2) (Ky e now) ?_
    refine Ci ?_
    refine⟨by omega,y2.set i2 (Mb e now),?_,wQ [0,1,2,3] ?_ ?_⟩
    ·simpa using hy2
    ·simp[go_sem,Dx ((i2:Int)+1)]
    simp[go_sem,hy1,hy2,List.map_set]
   refine Bu<|.R1 ?_
   refine⟨by omega,(y2,y1.2),?_,wQ [0,1,2] ?_ ?_⟩
   ·exact⟨hy2,hy1.2⟩
   ·simp[go_sem,Dx (1:Int)]
   simp[go_sem]
  -- element 1
  refine Ca<|.block<|.H hy1 ?_
  refine Bt hy1<|.block ?_
  refine Bs q1.legs.length (fun i2 (y2:List G3)=>⟨[(1,.li now),(5,.bsl 0 2),(7,.ptr 3 0),(11,.bsl 0 2),(12,.li 2),(13,.li 1),(19,.li q1.legs.length),(20,.li i2)],[.box 164 [.li q0.id,.li q0.veh,.li q0.cls,.li q0.unt,.own 1 q0.legs.length,.li q1.id,.li q1.veh,.li q1.cls,.li q1.unt,.own 2 q1.legs.length],.row 166 5 false false (Ie y1.1),.row 166 5 false false (Ie y2),.box 164 [.li q1.id,.li q1.veh,.li q1.cls,.li q1.unt,.own 2 q1.legs.length]]⟩) (fun i2 y2=>y2.length=q1.legs.length) y1.2 (wk hy1 [0,1,2,3]) hy1.2 fun i2 y2 hi2 hy2=>?_
  refine Bq<|.seq ?_
  refine Br ?_ ?_<;>intro h21
  ·refine Bp<|.seq<|.block<|.R ?_
   obtain⟨e,hx⟩:∃e,y2[i2]? = some e:=⟨_,Aa (by omega)⟩
   refine Cp (Fa hx hy2) (Ky e now) ?_
   refine Ci ?_
   refine⟨by omega,y2.set i2 (Mb e now),?_,wQ [0,1,2,3] ?_ ?_⟩
   ·simpa using hy2
   ·simp[go_sem,Dx ((i2:Int)+1)]
   simp[go_sem,hy1,hy2,List.map_set]
  refine Bu<|.R1 ?_
  refine⟨by omega,(y1.1,y2),?_,wQ [0,1,2] ?_ ?_⟩
  ·exact⟨hy1.1,hy2⟩
  ·simp[go_sem,Dx (2:Int)]
  simp[go_sem]
 -- the end
 refine Bu<|.R ?_
 refine B2 hy1 1 ?_
 refine B2 hy1 2 ?_
 refine C9 0 5 (Hn [{ q0 with legs:=y1.1 },{ q1 with legs:=y1.2 }]) rfl rfl (by simp[Ew.t]) (by simp) ?_
 simp[go_sem]
 refine Bz (Fj ?_);simp[go_sem]
 exact⟨[{ q0 with legs:=y1.1 },{ q1 with legs:=y1.2 }],rfl,⟨rfl,by simp only[List.mem_cons,A8,or_false,forall_eq_or_imp,forall_eq];(repeat' refine Ax ?_ ?_)<;>omega,by simp only[List.mem_cons,A8,or_false,forall_eq_or_imp,forall_eq,Zs];intros;simp_all⟩⟩
theorem Ab6 (q0 q1 q2:Ew) (now:Int) (hg:∀r∈[q0,q1,q2],r.legs.length<=1000000):Ct 150 [.imm false 5 (Hn [q0,q1,q2]),.li now] (fun d:List Ew=>.mReq d) (fun d=>d.length=3/\(∀r∈d,r.legs.length<=1000000)/\((∀r∈[q0,q1,q2],Zs r)->∀r∈d,Zs r)):=by
 refine Ex Tryz.func150 ?_
 have hk:=Mv [q0,q1,q2] (by simp) (by simp) hg
 have hg0:q0.legs.length<=1000000:=hg q0 (by simp)
 have hg1:q1.legs.length<=1000000:=hg q1 (by simp)
 have hg2:q2.legs.length<=1000000:=hg q2 (by simp)
 refine Bq ?_
 refine B3 (fun K kk=>by simp[go_sem,Hu,Gb,Jd];refine .by hk (Rc.refl _) (by simp) ?_;simp[go_sem,Hu,Gb,Jd];exact kk)<|.seq ?_
 refine Bq<|.block ?_
 refine Bs 3 (fun i1 (y1:List G3×List G3×List G3)=>⟨[(1,.li now),(5,.bsl 0 3),(11,.bsl 0 3),(12,.li 3),(13,.li i1)],[.box 164 [.li q0.id,.li q0.veh,.li q0.cls,.li q0.unt,.own 1 q0.legs.length,.li q1.id,.li q1.veh,.li q1.cls,.li q1.unt,.own 2 q1.legs.length,.li q2.id,.li q2.veh,.li q2.cls,.li q2.unt,.own 3 q2.legs.length],.row 166 5 false false (Ie y1.1),.row 166 5 false false (Ie y1.2.1),.row 166 5 false false (Ie y1.2.2)]⟩) (fun i1 y1=>y1.1.length=q0.legs.length/\y1.2.1.length=q1.legs.length/\y1.2.2.length=q2.legs.length) (q0.legs,q1.legs,q2.legs) (wk Dz [0,1,2,3]) (⟨rfl,rfl,rfl⟩) fun i1 y1 hi1 hy1=>?_
 refine Bq<|.seq ?_
 refine Br ?_ ?_<;>intro h14
 ·
  refine Bp ?_
  have hi:i1=0\/i1=1\/i1=2:=by omega
  rcases hi with rfl | rfl | rfl
  ·
   refine Ca<|.block<|.H hy1 ?_
   refine Bt hy1<|.block ?_
   refine Bs q0.legs.length (fun i2 (y2:List G3)=>⟨[(1,.li now),(5,.bsl 0 3),(7,.ptr 4 0),(11,.bsl 0 3),(12,.li 3),(13,.li 0),(19,.li q0.legs.length),(20,.li i2)],[.box 164 [.li q0.id,.li q0.veh,.li q0.cls,.li q0.unt,.own 1 q0.legs.length,.li q1.id,.li q1.veh,.li q1.cls,.li q1.unt,.own 2 q1.legs.length,.li q2.id,.li q2.veh,.li q2.cls,.li q2.unt,.own 3 q2.legs.length],.row 166 5 false false (Ie y2),.row 166 5 false false (Ie y1.2.1),.row 166 5 false false (Ie y1.2.2),.box 164 [.li q0.id,.li q0.veh,.li q0.cls,.li q0.unt,.own 1 q0.legs.length]]⟩) (fun i2 y2=>y2.length=q0.legs.length) y1.1 (wk hy1 [0,1,2,3,4]) hy1.1 fun i2 y2 hi2 hy2=>?_
   refine Bq<|.seq ?_
   refine Br ?_ ?_<;>intro h21
   ·refine Bp<|.seq<|.block<|.R ?_
    obtain⟨e,hx⟩:∃e,y2[i2]? = some e:=⟨_,Aa (by omega)⟩
    refine Cp (Fa hx hy2) (Ky e now) ?_
    refine Ci ?_
    refine⟨by omega,y2.set i2 (Mb e now),?_,wQ [0,1,2,3,4] ?_ ?_⟩
    ·simpa using hy2
    ·simp[go_sem,Dx ((i2:Int)+1)]
    simp[go_sem,hy1,hy2,List.map_set]
   refine Bu<|.R1 ?_
   refine⟨by omega,(y2,y1.2.1,y1.2.2),?_,wQ [0,1,2,3] ?_ ?_⟩
   ·exact⟨hy2,hy1.2.1,hy1.2.2⟩
   ·simp[go_sem,Dx (1:Int)]
   simp[go_sem]
  ·
   refine Ca<|.block<|.H hy1 ?_
   refine Bt hy1<|.block ?_
   refine Bs q1.legs.length (fun i2 (y2:List G3)=>⟨[(1,.li now),(5,.bsl 0 3),(7,.ptr 4 0),(11,.bsl 0 3),(12,.li 3),(13,.li 1),(19,.li q1.legs.length),(20,.li i2)],[.box 164 [.li q0.id,.li q0.veh,.li q0.cls,.li q0.unt,.own 1 q0.legs.length,.li q1.id,.li q1.veh,.li q1.cls,.li q1.unt,.own 2 q1.legs.length,.li q2.id,.li q2.veh,.li q2.cls,.li q2.unt,.own 3 q2.legs.length],.row 166 5 false false (Ie y1.1),.row 166 5 false false (Ie y2),.row 166 5 false false (Ie y1.2.2),.box 164 [.li q1.id,.li q1.veh,.li q1.cls,.li q1.unt,.own 2 q1.legs.length]]⟩) (fun i2 y2=>y2.length=q1.legs.length) y1.2.1 (wk hy1 [0,1,2,3,4]) hy1.2.1 fun i2 y2 hi2 hy2=>?_
   refine Bq<|.seq ?_
   refine Br ?_ ?_<;>intro h21
   ·refine Bp<|.seq<|.block<|.R ?_
    obtain⟨e,hx⟩:∃e,y2[i2]? = some e:=⟨_,Aa (by omega)⟩
    refine Cp (Fa hx hy2) (Ky e now) ?_
    refine Ci ?_
    refine⟨by omega,y2.set i2 (Mb e now),?_,wQ [0,1,2,3,4] ?_ ?_⟩
    ·simpa using hy2
    ·simp[go_sem,Dx ((i2:Int)+1)]
    simp[go_sem,hy1,hy2,List.map_set]
   refine Bu<|.R1 ?_
   refine⟨by omega,(y1.1,y2,y1.2.2),?_,wQ [0,1,2,3] ?_ ?_⟩
   ·exact⟨hy1.1,hy2,hy1.2.2⟩
   ·simp[go_sem,Dx (2:Int)]
   simp[go_sem]
  -- element 2
  refine Ca<|.block<|.H hy1 ?_
  refine Bt hy1<|.block ?_
  refine Bs q2.legs.length (fun i2 (y2:List G3)=>⟨[(1,.li now),(5,.bsl 0 3),(7,.ptr 4 0),(11,.bsl 0 3),(12,.li 3),(13,.li 2),(19,.li q2.legs.length),(20,.li i2)],[.box 164 [.li q0.id,.li q0.veh,.li q0.cls,.li q0.unt,.own 1 q0.legs.length,.li q1.id,.li q1.veh,.li q1.cls,.li q1.unt,.own 2 q1.legs.length,.li q2.id,.li q2.veh,.li q2.cls,.li q2.unt,.own 3 q2.legs.length],.row 166 5 false false (Ie y1.1),.row 166 5 false false (Ie y1.2.1),.row 166 5 false false (Ie y2),.box 164 [.li q2.id,.li q2.veh,.li q2.cls,.li q2.unt,.own 3 q2.legs.length]]⟩) (fun i2 y2=>y2.length=q2.legs.length) y1.2.2 (wk hy1 [0,1,2,3,4]) hy1.2.2 fun i2 y2 hi2 hy2=>?_
  refine Bq<|.seq ?_
  refine Br ?_ ?_<;>intro h21
  ·refine Bp<|.seq<|.block<|.R ?_
   obtain⟨e,hx⟩:∃e,y2[i2]? = some e:=⟨_,Aa (by omega)⟩
   refine Cp (Fa hx hy2) (Ky e now) ?_
   refine Ci ?_
   refine⟨by omega,y2.set i2 (Mb e now),?_,wQ [0,1,2,3,4] ?_ ?_⟩
   ·simpa using hy2
   ·simp[go_sem,Dx ((i2:Int)+1)]
   simp[go_sem,hy1,hy2,List.map_set]
  refine Bu<|.R1 ?_
  refine⟨by omega,(y1.1,y1.2.1,y2),?_,wQ [0,1,2,3] ?_ ?_⟩
  ·exact⟨hy1.1,hy1.2.1,hy2⟩
  ·simp[go_sem,Dx (3:Int)]
  simp[go_sem]
 -- the end
 refine Bu<|.R ?_
 refine B2 hy1 1 ?_
 refine B2 hy1 2 ?_
 refine B2 hy1 3 ?_
 refine C9 0 5 (Hn [{ q0 with legs:=y1.1 },{ q1 with legs:=y1.2.1 },{ q2 with legs:=y1.2.2 }]) rfl rfl (by simp[Ew.t]) (by simp) ?_
 simp[go_sem]
 refine Bz (Fj ?_);simp[go_sem]
 exact⟨[{ q0 with legs:=y1.1 },{ q1 with legs:=y1.2.1 },{ q2 with legs:=y1.2.2 }],rfl,⟨rfl,by simp only[List.mem_cons,A8,or_false,forall_eq_or_imp,forall_eq];(repeat' refine Ax ?_ ?_)<;>omega,by simp only[List.mem_cons,A8,or_false,forall_eq_or_imp,forall_eq,Zs];intros;simp_all⟩⟩
theorem A7g {P:Program} {n m:Nat} {x y:Code} {st:St} {K:Exit->St->Prop} (I:St->Prop) (h1:∀s,I s->VX P n m y s K) (h2:(∀s,I s->VX P n m y s K)->VX P n m (.seq x y) st K):VX P n m (.seq x y) st K:=h2 h1
theorem Ao7 {α:Type} (p:α->Bool) (l:List α):Il p l = -1\/∃(k:Nat) (t:α),Il p l=(k:Nat)/\l[k]? = some t:=by
 unfold Il
 suffices h:∀(l:List α) (i:Nat),Gz p l i = -1\/∃(k:Nat) (t:α),Gz p l i=((i+k:Nat):Int)/\l[k]? = some t by
  rcases h l 0 with h | ⟨k,t,h1,h2⟩
  ·exact .inl h
  exact .inr ⟨k,t,by simpa using h1,h2⟩
 intro l
 induction l with
 | nil=>intro i;exact .inl rfl
 | cons a l ih =>
  intro i
  by_cases ha:p a=true
  ·exact .inr ⟨0,a,by simp[Gz,ha],rfl⟩
  rcases ih (i+1) with h | ⟨k,t,h1,h2⟩
  ·exact .inl (by simp[Gz,ha,h])
  exact .inr ⟨k+1,t,by simp[Gz,ha,h1];omega,h2⟩
theorem Ab5 (l:List Ew) (id:Int) (ws:List (Int×Int)) (now:Int) (hl:l.length<=3) (hg:∀r∈l,r.legs.length<=1000000) (hw:ws.length<=1000000):Ct 213 [.mReq l,.li id,.imm false 2 (Agm ws),.li now] (fun d:List Ew×Int=>.tup [.mReq d.1,.li d.2]) (fun d=>d.1.length<=3/\(∀r∈d.1,r.legs.length<=1000000)/\d.1.length<=l.length/\((∀r∈l,Zs r)->∀r∈d.1,Zs r)/\0<=d.2/\d.2<=99):=by
 refine Ex Tryz.func213 ?_
 have hl6:l.length<=1000000:=by omega
 refine Bq<|.seq ?_
 refine B7 (by rfl) fun K1 hK1=>?_
 simp[go_sem]
 obtain⟨Y1,cY1,qY1⟩:=Ep (Qb l 4 hl6 hg)
 refine .l cY1 ?_
 simp[go_sem]
 refine Pv ?_
 simp[go_sem]
 refine .lo (W9 now) rfl (by simp[AV.cln,Fu]) ?_
 simp[go_sem]
 refine hK1 _ ?_;clear hK1
 refine Br ?_ ?_<;>intro h24
 ·refine Bq ?_
  refine Bz (Fj ?_);simp[go_sem]
  exact⟨([],1),rfl,Ae _,fun r h=>(by cases h),Ae _,fun _ r h=>(by cases h),by decide⟩
 refine Bp<|.L Dz (Qn l id hl6)<|.seq ?_
 refine Bq ?_
 rcases Ao7 (fun r:Ew=>r.id == id) l with hk | ⟨k,q,hk,hq⟩
 ·simp only[hk]
  refine Cs ?_ ?_<;>intro h29<;>simp[go_sem] at h29
  refine Bq ?_
  refine Bz (Fj ?_);simp[go_sem]
  exact⟨([],12),rfl,Ae _,fun r h=>(by cases h),Ae _,fun _ r h=>(by cases h),by decide⟩
 simp only[hk]
 refine Cs ?_ ?_<;>intro h29<;>simp[go_sem] at h29
 ·exact absurd h29 (by omega)
 refine Bp ?_
 have hkl:=(Ab.1 hq).1
 have hqg:q.legs.length<=1000000:=hg q (Ac hq)
 have hne:l≠[]:=fun e=>by rw[e] at hkl;simp at hkl
 have hk5:k*5+4<l.length*5:=by omega
 refine A7g (fun s=>∃cs:List AV,s=⟨[(2,.imm false 2 (Agm ws)),(3,.li now),(8,.nil 5),(9,.li 0),(10,.li (k:Int)),(11,.bsl 0 l.length)],[.box 164 cs,.row 166 5 false false (Ie q.legs)]⟩/\cs.length=l.length*5/\cs[k*5+4]? = some (.own 1 q.legs.length)/\(∀r:Nat->Option Nat,r 1=some 1->Om r cs=cs)/\(∀o,Tb o cs=cs.set (k*5+4) ((AV.own 1 q.legs.length).melt o))/\∀g:List G3,ttL (cs.set (k*5+4) (.mLeg g))=some (Hn (l.set k { q with legs:=g })).flatten) ?_ (fun tail=>?_)
 ·
  rintro s ⟨cs,rfl,hcl,hck,hr,hm,hcf⟩
  have hck2:∀h,cs[k*5+4]'h=.own 1 q.legs.length:=fun h=>by have:=hck;rw[Aa h] at this;injection this
  refine Bt (X9 hck hcl hk5 hkl hck2)<|.seq ?_
  refine Bq ?_
  refine Br ?_ ?_<;>intro h41
  ·refine Bq ?_
   refine Bz (Fj ?_);simp[go_sem]
   exact⟨([],8),rfl,Ae _,fun r h=>(by cases h),Ae _,fun _ r h=>(by cases h),by decide⟩
  refine Bp ?_
  have hwl:ws.length=q.legs.length:=by omega
  refine Ca<|.R<|.block ?_
  refine Bs ws.length (fun i1 (y1:List G3)=>⟨[(3,.li now),(11,.bsl 0 l.length),(12,.own 1 q.legs.length),(42,.imm false 2 (Agm ws)),(43,.li ws.length),(44,.li i1)],[.box 164 cs,.row 166 5 false false (Ie y1)]⟩) (fun i1 y1=>y1.length=q.legs.length) q.legs (wQ [0,1] ?_ ?_) rfl fun i1 y1 hi1 hy1=>?_
  ·simp[go_sem]
  ·simp[go_sem,hr]
  refine Bq<|.seq ?_
  refine Br ?_ ?_<;>intro h45
  ·refine Bp<|.seq<|.block ?_
   obtain⟨e1,H1⟩:∃e,ws[i1]? = some e:=⟨_,Aa (by omega)⟩
   obtain⟨e2,H2⟩:∃e,y1[i1]? = some e:=⟨_,Aa (by omega)⟩
   refine Bt (Hq H1 H2 hy1) ?_
   refine Db (Hq H1 H2 hy1) (Zb e2.j e2.p e1.1 e1.2 now)<|.seq ?_
   refine Bq ?_
   refine Br ?_ ?_<;>intro h69
   ·refine Bq ?_
    refine Bz (Fj ?_);simp[go_sem]
    exact⟨([],8),rfl,Ae _,fun r h=>(by cases h),Ae _,fun _ r h=>(by cases h),by decide⟩
   refine Bp<|.G1 (Hq H1 H2 hy1) ?_
   refine Ci ?_
   have hs:∀v,((Ie y1).set i1 v)[i1]? = some v:=fun v=>Bg (by simp;omega)
   refine⟨by omega,y1.set i1 ⟨e2.j,e2.p,(Nv e2.j e2.p e1.1 e1.2 now).1.fr,(Nv e2.j e2.p e1.1 e1.2 now).1.to,e2.si⟩,?_,wQ [0,1] ?_ ?_⟩
   ·simpa using hy1
   ·simp[go_sem,Dx ((i1:Int)+1)]
   simp[go_sem,H1,H2,hy1,hr,hs,List.map_set]
  refine Bu<|.R ?_
  refine B2 (Fa hy1 hm) 1 ?_
  refine C9 0 5 (Hn (l.set k { q with legs:=y1 })) rfl (hcf y1) (fun e he=>by obtain⟨r,_,rfl⟩:=A4.1 he;rfl) (by simp) ?_
  simp[go_sem]
  refine Bz (Fj ?_);simp[go_sem]
  refine⟨(l.set k { q with legs:=y1 },0),by simp[go_sem],by simpa using hl,fun r hr=>?_,by simp,fun hB r hr=>?_,by simp⟩
  ·rcases Bi hr with h | h
   ·exact hg r h
   rw[h];show y1.length<=_;omega
  rcases Bi hr with h | h
  ·exact hB r h
  rw[h];exact hB q (Ac hq)
 have hk0:=Mv l hne hl hg
 refine C6 (s':=⟨[(0,.mReq l),(2,.imm false 2 (Agm ws)),(3,.li now),(8,.nil 5),(9,.li 0),(10,.li (k:Int))],[]⟩) (wQ [] ?_ ?_) ?_
 ·simp[go_sem]
 ·simp[go_sem]
 clear h24 h29 hg hw hl6 hk5
 match l,k,hl,hne,hq,hkl,hk0,tail with
 | [],k,_,h,_,_,_,_=>exact absurd rfl h
 | _::_::_::_::_,k,h,_,_,_,_,_=>simp at h
 | [p0],0,_,_,hq,_,hk0,tail =>
  simp at hq;subst hq
  refine B3 (fun K kk=>by simp[go_sem,Hu,Gb,Jd];refine .by hk0 (Rc.refl _) (by simp) ?_;simp[go_sem,Hu,Gb,Jd];exact kk) ?_
  refine C6 (wQ [0,1] ?_ ?_) (tail _ ⟨[.li p0.id,.li p0.veh,.li p0.cls,.li p0.unt,.own 1 p0.legs.length],rfl,rfl,rfl,fun r h=>by simp[Om,AV.ren,h],fun o=>rfl,fun g=>rfl⟩)
  all_goals simp[go_sem]
 | [p0],k+1,_,_,_,h,_,_=>exact absurd h (by simp only[A6,List.length_nil];omega)
 | [p0,p1],0,_,_,hq,_,hk0,tail =>
  simp at hq;subst hq
  refine B3 (fun K kk=>by simp[go_sem,Hu,Gb,Jd];refine .by hk0 (Rc.refl _) (by simp) ?_;simp[go_sem,Hu,Gb,Jd];exact kk) ?_
  refine B2 Dz 2 ?_
  refine C6 (wQ [0,1] ?_ ?_) (tail _ ⟨[.li p0.id,.li p0.veh,.li p0.cls,.li p0.unt,.own 1 p0.legs.length,.li p1.id,.li p1.veh,.li p1.cls,.li p1.unt,.imm true 5 (Ie p1.legs)],rfl,rfl,rfl,fun r h=>by simp[Om,AV.ren,h],fun o=>rfl,fun g=>rfl⟩)
  all_goals simp[go_sem]
 | [p0,p1],1,_,_,hq,_,hk0,tail =>
  simp at hq;subst hq
  refine B3 (fun K kk=>by simp[go_sem,Hu,Gb,Jd];refine .by hk0 (Rc.refl _) (by simp) ?_;simp[go_sem,Hu,Gb,Jd];exact kk) ?_
  refine B2 Dz 1 ?_
  refine C6 (wQ [0,2] ?_ ?_) (tail _ ⟨[.li p0.id,.li p0.veh,.li p0.cls,.li p0.unt,.imm true 5 (Ie p0.legs),.li p1.id,.li p1.veh,.li p1.cls,.li p1.unt,.own 1 p1.legs.length],rfl,rfl,rfl,fun r h=>by simp[Om,AV.ren,h],fun o=>rfl,fun g=>rfl⟩)
  all_goals simp[go_sem]
 | [p0,p1],k+2,_,_,_,h,_,_=>exact absurd h (by simp only[A6,List.length_nil];omega)
 | [p0,p1,p2],0,_,_,hq,_,hk0,tail =>
  simp at hq;subst hq
  refine B3 (fun K kk=>by simp[go_sem,Hu,Gb,Jd];refine .by hk0 (Rc.refl _) (by simp) ?_;simp[go_sem,Hu,Gb,Jd];exact kk) ?_
  refine B2 Dz 2 ?_
  refine B2 Dz 3 ?_
  refine C6 (wQ [0,1] ?_ ?_) (tail _ ⟨[.li p0.id,.li p0.veh,.li p0.cls,.li p0.unt,.own 1 p0.legs.length,.li p1.id,.li p1.veh,.li p1.cls,.li p1.unt,.imm true 5 (Ie p1.legs),.li p2.id,.li p2.veh,.li p2.cls,.li p2.unt,.imm true 5 (Ie p2.legs)],rfl,rfl,rfl,fun r h=>by simp[Om,AV.ren,h],fun o=>rfl,fun g=>rfl⟩)
  all_goals simp[go_sem]
 | [p0,p1,p2],1,_,_,hq,_,hk0,tail =>
  simp at hq;subst hq
  refine B3 (fun K kk=>by simp[go_sem,Hu,Gb,Jd];refine .by hk0 (Rc.refl _) (by simp) ?_;simp[go_sem,Hu,Gb,Jd];exact kk) ?_
  refine B2 Dz 1 ?_
  refine B2 Dz 3 ?_
  refine C6 (wQ [0,2] ?_ ?_) (tail _ ⟨[.li p0.id,.li p0.veh,.li p0.cls,.li p0.unt,.imm true 5 (Ie p0.legs),.li p1.id,.li p1.veh,.li p1.cls,.li p1.unt,.own 1 p1.legs.length,.li p2.id,.li p2.veh,.li p2.cls,.li p2.unt,.imm true 5 (Ie p2.legs)],rfl,rfl,rfl,fun r h=>by simp[Om,AV.ren,h],fun o=>rfl,fun g=>rfl⟩)
  all_goals simp[go_sem]
 | [p0,p1,p2],2,_,_,hq,_,hk0,tail =>
  simp at hq;subst hq
  refine B3 (fun K kk=>by simp[go_sem,Hu,Gb,Jd];refine .by hk0 (Rc.refl _) (by simp) ?_;simp[go_sem,Hu,Gb,Jd];exact kk) ?_
  refine B2 Dz 1 ?_
  refine B2 Dz 2 ?_
  refine C6 (wQ [0,3] ?_ ?_) (tail _ ⟨[.li p0.id,.li p0.veh,.li p0.cls,.li p0.unt,.imm true 5 (Ie p0.legs),.li p1.id,.li p1.veh,.li p1.cls,.li p1.unt,.imm true 5 (Ie p1.legs),.li p2.id,.li p2.veh,.li p2.cls,.li p2.unt,.own 1 p2.legs.length],rfl,rfl,rfl,fun r h=>by simp[Om,AV.ren,h],fun o=>rfl,fun g=>rfl⟩)
  all_goals simp[go_sem]
 | [p0,p1,p2],k+3,_,_,_,h,_,_=>exact absurd h (by simp only[A6,List.length_nil];omega)
theorem Ab9 (now:Int):Ct 150 [.imm false 5 (Hn []),.li now] (fun d:List Ew=>.mReq d) (fun d=>d.length=0/\(∀r∈d,r.legs.length<=1000000)/\((∀r∈([]:List Ew),Zs r)->∀r∈d,Zs r)):=by
 refine Ex Tryz.func150 ?_
 refine Bq ?_
 refine B8 Dz (Z1 [] (by simp) (by simp))<|.seq ?_
 refine Bq<|.block ?_
 refine Bs 0 (fun i1 (y1:Unit)=>⟨[(1,.li now),(5,.imm false 5 []),(11,.imm false 5 []),(12,.li 0),(13,.li i1)],[]⟩) (fun i1 y1=>True) () (wk Dz []) trivial fun i1 y1 hi1 hy1=>?_
 refine Bq<|.seq ?_
 refine Cs ?_ ?_<;>intro h14<;>simp[go_sem] at h14
 ·exact absurd h14 (by omega)
 refine Bu<|.R ?_
 refine Bz (Fj ?_);simp[go_sem]
 exact⟨[],rfl,rfl,fun r hr=>(by simp at hr),by simp⟩
section
variable (l:List Ew) (now:Int) (hl:l.length<=3) (hg:∀r∈l,r.legs.length<=1000000)
include now hl hg
theorem Rp:Ct 150 [.mReq l,.li now] (fun d:List Ew=>.mReq d) (fun d=>d.length=l.length/\(∀r∈d,r.legs.length<=1000000)/\((∀r∈l,Zs r)->∀r∈d,Zs r)):=by
 match l,hl,hg with
 | [],_,_=>exact Ab9 now
 | [q0],_,hg=>exact Ab8 q0 now hg
 | [q0,q1],_,hg=>exact Ab7 q0 q1 now hg
 | [q0,q1,q2],_,hg=>exact Ab6 q0 q1 q2 now hg
 | _::_::_::_::l,h,_=>simp at h
def Ih:List Ew:=(Ep (Rp l now hl hg)).choose
theorem Xa:PP 150 [] [.mReq l,.li now] [] (.mReq (Ih l now hl hg)):=(Ep (Rp l now hl hg)).choose_spec.1
theorem Xt:(Ih l now hl hg).length=l.length/\(∀r∈(Ih l now hl hg),r.legs.length<=1000000)/\((∀r∈l,Zs r)->∀r∈(Ih l now hl hg),Zs r):=(Ep (Rp l now hl hg)).choose_spec.2
end
section
def X5 (cur:Array Value) (n i:Nat):Array Value:=(cur.toList.take ((i+1)*5)++(cur.toList.drop (i*5)).take ((n - i)*5)++cur.toList.drop ((i+1)*5+((cur.toList.drop (i*5)).take ((n - i)*5)).length)).toArray
def Nc (cur vs:Array Value) (i:Nat):Array Value:=(cur.toList.take (i*5)++vs.toList.take 5++cur.toList.drop (i*5+(vs.toList.take 5).length)).toArray
variable {cur:Array Value}
theorem Ac8 {n i c:Nat} (hs:cur.size=c*5) (hi:i<n) (hn:n+1<=c):(X5 cur n i).size=c*5:=by
 simp[X5];omega
variable {w:World} {ty:TypeId}
theorem Aoc {b:Nat} {f:Nat×Nat} (h:w.heap[b]? = some (.cells cur ty f)):w.shape? b=some (ty,cur.size):=by simp[World.shape?,h]
theorem Akc {b o:Nat} (h:w.heap[b]? = some (.cells cur ty (0,0))):w.frozen? ⟨b,o,none⟩=false:=by simp[World.frozen?,h]
theorem A0f (w:World) (b vb vc off la cb:Nat) (cur vcur:Array Value) (hb:w.heap[b]? = some (.cells cur 164 (0,0))) (hvb:w.heap[vb]? = some (.cells vcur 164 (0,0))) (hne:vb≠b) (h0:cur.size≠0) :
 (callFunc 280 #[.slice (some ⟨vb,0,none⟩) 1 vc,.slice (some ⟨b,off,none⟩) la cb]).run Tryz.prog w=.ok (.value (.bool false)) w:=by
 rw[run_callFunc_extern Tryz.func280 (by kernel_rfl) (by kernel_rfl) (by kernel_rfl) (e:=Extern.SlicesOverlaps.overlaps #[67,67] #[4]) (by kernel_rfl),
  Lib.run_overlaps_apart w 67 4 164 (by kernel_rfl) 5 (fun w=>Mw (P:=Tryz.prog) (t:=164) (by kernel_rfl) w) ⟨vb,0,none⟩ ⟨b,off,none⟩ 1 vc la cb hne 164 164 vcur.size cur.size (Aoc hvb) (Aoc hb) h0 (Akc hvb) (Akc hvb)]
 rfl
theorem Aum (b n c i vb vc:Nat) (cur vcur:Array Value) (w:World) (hi:i<n) (hroom:n+1<=c) (hc:c<=9223372036854775807) (hb:w.heap[b]? = some (.cells cur 164 (0,0))) (hcs:cur.size=c*5) (hvb:w.heap[vb]? = some (.cells vcur 164 (0,0))) (hvs:5<=vcur.size) (hne:vb≠b)
 (h1:∀j,j<n*5->∀v,cur[j]? = some v->v.oneCell'=true) (h1v:∀j,j<5->∀v,vcur[j]? = some v->v.oneCell'=true) :
  Calls Tryz.prog 266 #[.slice (some ⟨b,0,none⟩) n c,.int .i64 i,.slice (some ⟨vb,0,none⟩) 1 vc] w fun e w' =>
   e=.returned (.slice (some ⟨b,0,none⟩) (n+1) c)/\w'=(w.drew.setRow b (X5 cur n i)).setRow b (Nc (X5 cur n i) vcur i):=by
 have hu:Tryz.prog.underlying 67=some (.slice 164):=by kernel_rfl
 have hsz:(Tryz.prog.info? 164).map (·.size)=some 5:=by kernel_rfl
 have hz2:¬((i:Int)=(n:Int)):=by omega
 have hov:∀la cb,(callFunc 280 #[.slice (some ⟨vb,0,none⟩) 1 vc,.slice (some ⟨b,(i+1)*5,none⟩) la cb]).run Tryz.prog w=.ok (.value (.bool false)) w:=fun la cb=>A0f w b vb vc _ la cb cur vcur hb hvb hne (by omega)
 have hw1:IntKind.i64.wrap ((i:Int)+1)=(i:Int)+1:=by rw[IntKind.wrap_i64];omega
 have hl1:((cur.toList.drop (i*5)).take ((n - i)*5)).length=(n - i)*5:=by simp;omega
 have hcp1:∀ty dc sc,(Builtin.copy_ #[67,67] ty #[.slice (some ⟨b,(i+1)*5,none⟩) (n - i) dc,.slice (some ⟨b,i*5,none⟩) (n+1 - i) sc]).run Tryz.prog w.drew=.ok (goInt ((n - i:Nat):Int)) (w.drew.setRow b (X5 cur n i)):=fun ty dc sc=>by
  have hm:Nat.min (n+1 - i) (n - i)=n - i:=by show min _ _=_;omega
  have h:=Mh (P:=Tryz.prog) w.drew 67 67 ty 164 5 b ((i+1)*5) (n - i) dc ⟨b,i*5,none⟩ (n+1 - i) sc cur 164 ((cur.toList.drop (i*5)).take ((n - i)*5)) hu hsz hb (by rw[hl1,hm]) (fun j v hj=>by
   have hj':j<(n - i)*5:=by rw[<- hl1];exact (Ab.1 hj).1
   rw[Ag hj',Bd] at hj
   rw[Addr.add_lit,cell_of_row w.drew b _ cur 164 (0,0) hb]
   simpa using hj) (by rw[hl1];omega) (fun v hv=>by
   obtain⟨j,hj⟩:=A3.1 hv
   have hj':j<(n - i)*5:=by rw[<- hl1];exact (Ab.1 hj).1
   rw[Ag hj',Bd] at hj
   exact h1 (i*5+j) (by omega) v (by simpa using hj))
  rw[hm] at h
  exact h
 have hcp2:∀(W:World),W.heap[b]? = some (.cells (X5 cur n i) 164 (0,0))->W.heap[vb]? = some (.cells vcur 164 (0,0))->∀ty dc,(Builtin.copy_ #[67,67] ty #[.slice (some ⟨b,i*5,none⟩) (n+1 - i) dc,.slice (some ⟨vb,0,none⟩) 1 vc]).run Tryz.prog W=.ok (goInt 1) (W.setRow b (Nc (X5 cur n i) vcur i)):=fun W hWb hWv ty dc=>by
  have hm:Nat.min 1 (n+1 - i)=1:=by show min _ _=_;omega
  have hl2:(vcur.toList.take 5).length=5:=by simp;omega
  have h:=Mh (P:=Tryz.prog) W 67 67 ty 164 5 b (i*5) (n+1 - i) dc ⟨vb,0,none⟩ 1 vc (X5 cur n i) 164 (vcur.toList.take 5) hu hsz hWb (by rw[hl2,hm]) (fun j v hj=>by
   have hj':j<5:=by rw[<- hl2];exact (Ab.1 hj).1
   rw[Ag hj'] at hj
   rw[Addr.add_lit,cell_of_row W vb _ vcur 164 (0,0) hWv]
   simpa using hj) (by rw[hl2,Ac8 hcs hi hroom];omega) (fun v hv=>by
   obtain⟨j,hj⟩:=A3.1 hv
   have hj':j<5:=by rw[<- hl2];exact (Ab.1 hj).1
   rw[Ag hj'] at hj
   exact h1v j hj' v (by simpa using hj))
  rw[hm] at h
  exact h
 have hW1:(w.drew.setRow b (X5 cur n i)).heap[b]? = some (.cells (X5 cur n i) 164 (0,0)):=setRow_heap w.drew b cur _ _ (0,0) hb
 have hW2:(w.drew.setRow b (X5 cur n i)).heap[vb]? = some (.cells vcur 164 (0,0)):=(setRow_other w.drew b vb _ hne).trans hvb
 have hin:i<=n:=by omega
 have hb1:(0:Int)<=(i:Int)+1:=by omega
 have htn:((i:Int)+1).toNat=i+1:=by omega
 have hb2:¬(c=i+1):=by omega
 have hb3:(i:Int)<=(n:Int)+1:=by omega
 have hb4:¬(c=i):=by omega
 have mixed:Tryz.prog.follows Departure.mixedOrders=true:=by kernel_rfl
 go_enter Tryz.func266,Tryz.ntmps266
 go_wp2_with (simp only[hov])
 go_region_law_o (refine step_copy_runI rfl _ _ 67 67 rfl _ _ (by simp[Act.eval,Act.put]) (by simp[Act.eval,Act.put]) (hcp1 _ _ _) ?_)
 go_wp2_with (at_builtin;refine wpList_copy_runI _ rfl _ _ 67 67 rfl _ _ rfl rfl (hcp2 _ hW1 hW2 _ _) ?_)
 go_ret
 exact⟨rfl,rfl⟩
def Ae7 (row cur:Array Value) (n i:Nat):Array Value:=(row.toList.take ((i+1)*5)++(cur.toList.drop (i*5)).take ((n - i)*5)++row.toList.drop ((i+1)*5+((cur.toList.drop (i*5)).take ((n - i)*5)).length)).toArray
theorem Abw (w:World) (R Y:Array Value) (e:TypeId):(w.alloc (.cells R e)).setRow w.heap.size Y=w.alloc (.cells Y e):=by
 unfold World.alloc World.setRow
 congr 1
 apply Array.ext_getElem?
 intro j
 rw[Array.getElem?_modify,Array.getElem?_push,Array.getElem?_push]
 by_cases hj:w.heap.size=j
 ·subst hj;simp
 rw[if_neg hj,if_neg (fun e=>hj e.symm),if_neg (fun e=>hj e.symm)]
theorem Apm (w:World) (o:Obj):(w.alloc o).heap[w.heap.size]? = some o:=by show (w.heap.push o)[w.heap.size]? = some o;simp
theorem Ad6 (w:World) (o:Obj) {b:Nat} {x:Obj} (h:w.heap[b]? = some x):(w.alloc o).heap[b]? = some x:=by
 have hb:=(Aw.1 h).1
 rw[show (w.alloc o).heap=w.heap.push o from rfl,Array.getElem?_push,if_neg (by omega),h]
theorem Axn (b n c i vb vc:Nat) (cur vcur:Array Value) (w:World) (hi:i<n) (hnc:n<=c) (hroom:c<n+1) (hbig:n<=1000) (hb:w.heap[b]? = some (.cells cur 164 (0,0))) (hcs:cur.size=c*5) (hvb:w.heap[vb]? = some (.cells vcur 164 (0,0))) (hvs:5<=vcur.size)
 (h1:∀j,j<n*5->∀v,cur[j]? = some v->v.oneCell'=true) (h1v:∀j,j<5->∀v,vcur[j]? = some v->v.oneCell'=true) :
  Calls Tryz.prog 266 #[.slice (some ⟨b,0,none⟩) n c,.int .i64 i,.slice (some ⟨vb,0,none⟩) 1 vc] w fun e w' =>
   ∃(ROW:Array Value) (G k:Nat),ROW.size=G*5/\n+1<=G/\G<=maxLen/\(∀j,j<i*5->ROW[j]? = cur[j]?)/\e=.returned (.slice (some ⟨w.heap.size,0,none⟩) (n+1) G)/\w'={ w.alloc (.cells (Ae7 (Nc ROW vcur i) cur n i) 164) with drawn:=k }:=by
 have hu:Tryz.prog.underlying 67=some (.slice 164):=by kernel_rfl
 have hu3:Tryz.prog.underlying 3=some (.int .i64):=by kernel_rfl
 have hsz:(Tryz.prog.info? 164).map (·.size)=some 5:=by kernel_rfl
 have hbt:(Tryz.prog.info? 164).map (fun i=>decide (i.bytes<=1000))=some true:=by kernel_rfl
 obtain⟨i0,z,hi0,hz0,hzs,hzc,_,_⟩:=Q2 (P:=Tryz.prog) (t:=164) (by kernel_rfl)
 have hzs:i0.size=5:=by rw[hi0] at hsz;simpa using hsz
 have hzc:z.cells.size=5:=by rw[hzc,<- hzs];simp[Gj,hi0]
 have hby:i0.bytes<=1000:=by rw[hi0] at hbt;simpa using hbt
 have hz2:¬((i:Int)=(n:Int)):=by omega
 have hz3:(c:Int)<(n:Int)+1:=by omega
 have hkk:(n:Int)+1 - (i:Int)=((n+1 - i:Nat):Int):=by omega
 have hik:i+(n+1 - i)=n+1:=by omega
 have hbw:b<w.heap.size:=(Aw.1 hb).1
 have hvw:vb<w.heap.size:=(Aw.1 hvb).1
 have htk:(cur.toList.take (i*5)).length=i*5:=by simp;omega
 have hold:(Builtin.firstCells i0.size i (.slice (some ⟨b,0,none⟩) i c)).run Tryz.prog w.drew=.ok (cur.toList.take (i*5)).toArray w.drew:=by
  rw[hzs]
  exact run_firstCells_some w.drew 5 i ⟨b,0,none⟩ i c (cur.toList.take (i*5)) htk (fun j v hj=>by
   have hj':j<i*5:=by rw[<- htk];exact (Ab.1 hj).1
   rw[Ag hj'] at hj
   rw[Addr.add_lit,cell_of_row w.drew b _ cur 164 (0,0) hb]
   simpa using hj)
 obtain⟨G,hG⟩:∃G,G=grownCap w (n+1) c 164:=⟨_,rfl⟩
 obtain⟨ROW,hROW⟩:∃ROW:Array Value,ROW=(cur.toList.take (i*5)).toArray++Builtin.zeroCells z.cells (n+1 - i)++Builtin.zeroCells z.cells (G - (n+1)):=⟨_,rfl⟩
 have hGn:n+1<=G:=by rw[hG];exact grownCap_ge w _ _ _
 have hGm:G<=maxLen:=by rw[hG];exact grownCap_le_maxLen w (n+1) c 164 (by unfold maxLen;omega)
 have hG63:G<=9223372036854775807:=by unfold maxLen at hGm;omega
 have hbn:(n+1)*i0.bytes<=140737488355328:=Ak (Nat.mul_le_mul (show n+1<=1001 by omega) hby) (by decide)
 have hRs:ROW.size=G*5:=by
  rw[hROW]
  simp[size_zeroCells,hzc,Nat.min_eq_left (show i*5<=cur.size by omega)]
  omega
 have hRc:∀j,j<i*5->ROW[j]? = cur[j]?:=fun j hj=>by
  rw[hROW,Array.append_assoc,Bk (by simp;omega)]
  simp[Ag hj]
 have hrz:∀ty,(Builtin.append_ #[67,3] ty #[.slice (some ⟨b,0,none⟩) i c,.int .i64 ((n:Int)+1 - (i:Int))]).run Tryz.prog w=.ok (.slice (some ⟨w.heap.size,0,none⟩) (n+1) G) (w.drew.alloc (.cells ROW 164)):=fun ty=>by
  have h:=Lib.run_append_grow_zeros w 67 3 ty 164 i0 z .i64 .i64 hu hu3 hi0 hz0 (some ⟨b,0,none⟩) i c (cur.toList.take (i*5)) hold (n+1 - i) (by omega) (by omega) (by omega) (by omega) (Ak (Nat.mul_le_mul (show n+1 - i<=1001 by omega) hby) (by decide)) (by rw[hik];exact growslice_fits hroom hbn)
  rw[hik,<- hG,<- hROW] at h
  rw[hkk]
  exact h
 have hl2:(vcur.toList.take 5).length=5:=by simp;omega
 have hl1:((cur.toList.drop (i*5)).take ((n - i)*5)).length=(n - i)*5:=by simp;omega
 have hBs:(Nc ROW vcur i).size=G*5:=by simp[Nc];omega
 have hcpA:∀(W:World),W.heap[w.heap.size]? = some (.cells ROW 164 (0,0))->W.heap[vb]? = some (.cells vcur 164 (0,0))->∀ty dc,(Builtin.copy_ #[67,67] ty #[.slice (some ⟨w.heap.size,i*5,none⟩) (n+1 - i) dc,.slice (some ⟨vb,0,none⟩) 1 vc]).run Tryz.prog W=.ok (goInt ((1:Nat):Int)) (W.setRow w.heap.size (Nc ROW vcur i)):=fun W hWb hWv ty dc=>by
  have hm:Nat.min 1 (n+1 - i)=1:=by show min _ _=_;omega
  have h:=Mh (P:=Tryz.prog) W 67 67 ty 164 5 w.heap.size (i*5) (n+1 - i) dc ⟨vb,0,none⟩ 1 vc ROW 164 (vcur.toList.take 5) hu hsz hWb (by rw[hl2,hm]) (fun j v hj=>by
   have hj':j<5:=by rw[<- hl2];exact (Ab.1 hj).1
   rw[Ag hj'] at hj
   rw[Addr.add_lit,cell_of_row W vb _ vcur 164 (0,0) hWv]
   simpa using hj) (by rw[hl2,hRs];omega) (fun v hv=>by
   obtain⟨j,hj⟩:=A3.1 hv
   have hj':j<5:=by rw[<- hl2];exact (Ab.1 hj).1
   rw[Ag hj'] at hj
   exact h1v j hj' v (by simpa using hj))
  rw[hm] at h
  exact h
 have hcpB:∀(W:World),W.heap[w.heap.size]? = some (.cells (Nc ROW vcur i) 164 (0,0))->W.heap[b]? = some (.cells cur 164 (0,0))->∀ty dc sc,(Builtin.copy_ #[67,67] ty #[.slice (some ⟨w.heap.size,(i+1)*5,none⟩) (n - i) dc,.slice (some ⟨b,i*5,none⟩) (n - i) sc]).run Tryz.prog W=.ok (goInt ((n - i:Nat):Int)) (W.setRow w.heap.size (Ae7 (Nc ROW vcur i) cur n i)):=fun W hWn hWb ty dc sc=>by
  have hm:Nat.min (n - i) (n - i)=n - i:=by show min _ _=_;omega
  have h:=Mh (P:=Tryz.prog) W 67 67 ty 164 5 w.heap.size ((i+1)*5) (n - i) dc ⟨b,i*5,none⟩ (n - i) sc (Nc ROW vcur i) 164 ((cur.toList.drop (i*5)).take ((n - i)*5)) hu hsz hWn (by rw[hl1,hm]) (fun j v hj=>by
   have hj':j<(n - i)*5:=by rw[<- hl1];exact (Ab.1 hj).1
   rw[Ag hj',Bd] at hj
   rw[Addr.add_lit,cell_of_row W b _ cur 164 (0,0) hWb]
   simpa using hj) (by rw[hl1,hBs];omega) (fun v hv=>by
   obtain⟨j,hj⟩:=A3.1 hv
   have hj':j<(n - i)*5:=by rw[<- hl1];exact (Ab.1 hj).1
   rw[Ag hj',Bd] at hj
   exact h1 (i*5+j) (by omega) v (by simpa using hj))
  rw[hm] at h
  exact h
 have hbN:b≠w.heap.size:=by omega
 have hE1:((w.alloc (.cells ROW 164)).drew).heap[w.heap.size]? = some (.cells ROW 164 (0,0)):=Apm w.drew _
 have hE2:((w.alloc (.cells ROW 164)).drew).heap[vb]? = some (.cells vcur 164 (0,0)):=Ad6 w.drew _ hvb
 have hE3:((w.alloc (.cells ROW 164)).drew).heap[b]? = some (.cells cur 164 (0,0)):=Ad6 w.drew _ hb
 have hF1:(((w.alloc (.cells ROW 164)).drew.setRow w.heap.size (Nc ROW vcur i)).drew).heap[w.heap.size]? = some (.cells (Nc ROW vcur i) 164 (0,0)):=setRow_heap _ _ _ (Nc ROW vcur i) _ _ hE1
 have hF2:(((w.alloc (.cells ROW 164)).drew.setRow w.heap.size (Nc ROW vcur i)).drew).heap[b]? = some (.cells cur 164 (0,0)):=(setRow_other _ w.heap.size b (Nc ROW vcur i) hbN).trans hE3
 have hfin:∀(d:Nat),((({ w.drew.alloc (.cells ROW 164) with drawn:=d }:World).setRow w.heap.size (Nc ROW vcur i)).setRow w.heap.size (Ae7 (Nc ROW vcur i) cur n i))={ w.alloc (.cells (Ae7 (Nc ROW vcur i) cur n i) 164) with drawn:=d }:=fun d=>by
  have e1:=Abw { w with drawn:=d } ROW (Nc ROW vcur i) 164
  have e2:=Abw { w with drawn:=d } (Nc ROW vcur i) (Ae7 (Nc ROW vcur i) cur n i) 164
  show ((({ w with drawn:=d }:World).alloc (.cells ROW 164)).setRow w.heap.size (Nc ROW vcur i)).setRow w.heap.size _=({ w with drawn:=d }:World).alloc _
  rw[show (w.heap.size)=({ w with drawn:=d }:World).heap.size from rfl,e1,e2]
 have hw1:IntKind.i64.wrap ((i:Int)+1)=(i:Int)+1:=by rw[IntKind.wrap_i64];omega
 have hb1:(0:Int)<=(i:Int)+1:=by omega
 have hin:i<=n:=by omega
 have htn:((i:Int)+1).toNat=i+1:=by omega
 have hb3:(i:Int)<=(n:Int):=by omega
 have hGi:¬(G=i):=by omega
 have hGim:¬(G=i+1):=by omega
 have hci:¬(c=i):=by omega
 have mixed:Tryz.prog.follows Departure.mixedOrders=true:=by kernel_rfl
 clear hkk hik hold hROW hG hBs hl1 hl2
 go_enter Tryz.func266,Tryz.ntmps266
 have h9:=hcpA _ hE1 hE2 3 (G - i)
 go_wp2_with (first
  | (at_builtin;refine Lib.wpList_append_run _ rfl _ _ _ _ rfl _ _ rfl rfl _ _ (hrz _) ?_)
  | simp only[h9])
 go_region_law_o (refine step_copy_runI rfl _ _ 67 67 rfl (.slice (some ⟨w.heap.size,(i+1)*5,none⟩) (n - i) (G - (i+1))) (.slice (some ⟨b,i*5,none⟩) (n - i) (c - i)) (by simp[Act.eval,Act.put]) (by simp[Act.eval,Act.put]) (hcpB _ hF1 hF2 3 (G - (i+1)) (c - i)) ?_)
 go_wp2
 go_ret
 refine⟨ROW,G,w.drawn+1+1,hRs,hGn,hGm,hRc,rfl,?_⟩
 exact hfin (w.drawn+1+1)
end
section
structure A06 (cur vcur cur':Array Value) (n i:Nat):Prop where
  lo:∀j,j<i*5->cur'[j]? = cur[j]?
  at':∀j,j<5->cur'[i*5+j]? = vcur[j]?
  hi:∀j,i*5<=j->j<n*5->cur'[j+5]? = cur[j]?
variable {i:Nat}
theorem Ao6 {row vs:Array Value} (h5:5<=vs.size) (hr:i*5+5<=row.size) (p:Nat):(Nc row vs i)[p]? = if i*5<=p/\p<i*5+5 then vs[p - i*5]? else row[p]?:=by
 have hl:(vs.toList.take 5).length=5:=by simp;omega
 unfold Nc
 rw[Pd row (i*5) (vs.toList.take 5) (by rw[hl];exact hr),hl]
 split
 ·next h=>rw[Ag (by omega)];simp
 rfl
variable {row cur:Array Value}
theorem Ao5 {n i:Nat} (hi:i<n) (hc:n*5<=cur.size) (hr:(n+1)*5<=row.size) (p:Nat):(Ae7 row cur n i)[p]? = if (i+1)*5<=p/\p<(n+1)*5 then cur[p - 5]? else row[p]?:=by
 have hl:((cur.toList.drop (i*5)).take ((n - i)*5)).length=(n - i)*5:=by simp;omega
 unfold Ae7
 rw[Pd row ((i+1)*5) _ (by rw[hl];omega),hl]
 by_cases h:(i+1)*5<=p/\p<(n+1)*5
 ·rw[if_pos ⟨h.1,by omega⟩,if_pos h,Ag (by omega),Bd,show i*5+(p - (i+1)*5)=p - 5 by omega]
  simp
 rw[if_neg (by omega),if_neg h]
theorem Asx (cur:Array Value) (n i:Nat):X5 cur n i=Ae7 cur cur n i:=rfl
theorem Ara {cur vcur:Array Value} {n i c:Nat} (hi:i<n) (hc:n+1<=c) (hs:cur.size=c*5) (hv:5<=vcur.size):A06 cur vcur (Nc (X5 cur n i) vcur i) n i:=by
 have h1:=Ac8 hs hi hc
 have hB:=Ao6 (row:=X5 cur n i) (i:=i) hv (by rw[h1];omega)
 have hD:=Ao5 (row:=cur) (cur:=cur) hi (by omega) (by omega)
 refine⟨fun j hj=>?_,fun j hj=>?_,fun j h2 h3=>?_⟩
 ·rw[hB,if_neg (by omega),Asx,hD,if_neg (by omega)]
 ·rw[hB,if_pos (by omega),show i*5+j - i*5=j by omega]
 rw[hB,if_neg (by omega),Asx,hD,if_pos (by omega),show j+5 - 5=j by omega]
theorem Aup {n i:Nat} (hi:i<n) (hc:n*5<=cur.size) (hr:(n+1)*5<=row.size):(Ae7 row cur n i).size=row.size:=by
 have hl:((cur.toList.drop (i*5)).take ((n - i)*5)).length=(n - i)*5:=by simp;omega
 exact Hb row ((i+1)*5) _ (by rw[hl];omega)
theorem Ac7 {row vs:Array Value} (h5:5<=vs.size) (hr:i*5+5<=row.size):(Nc row vs i).size=row.size:=by
 have hl:(vs.toList.take 5).length=5:=by simp;omega
 exact Hb row (i*5) _ (by rw[hl];exact hr)
theorem Auo {cur vcur ROW:Array Value} {n i G c:Nat} (hi:i<n) (hG:n+1<=G) (hR:ROW.size=G*5) (hs:cur.size=c*5) (hc:n<=c) (hv:5<=vcur.size) (hRc:∀j,j<i*5->ROW[j]? = cur[j]?):A06 cur vcur (Ae7 (Nc ROW vcur i) cur n i) n i:=by
 have h1:=Ac7 (row:=ROW) (i:=i) hv (by omega)
 have hB:=Ao6 (row:=ROW) (i:=i) hv (by omega)
 have hD:=Ao5 (row:=Nc ROW vcur i) (cur:=cur) hi (by omega) (by rw[h1];omega)
 refine⟨fun j hj=>?_,fun j hj=>?_,fun j h2 h3=>?_⟩
 ·rw[hD,if_neg (by omega),hB,if_neg (by omega),hRc j hj]
 ·rw[hD,if_neg (by omega),hB,if_pos (by omega),show i*5+j - i*5=j by omega]
 rw[hD,if_pos (by omega),show j+5 - 5=j by omega]
variable {l:List Ew}
theorem Aoa {q:Nat} {e:List T} (h:(Hn l)[q]? = some e):e.length=5:=by
 obtain⟨r,_,rfl⟩:=Ri h
 rfl
theorem Aun {R:T->Value->Prop} {cur vcur cur':Array Value} {x:Ew} (hi:i<l.length) (hP:A06 cur vcur cur' l.length i) (h0:∀(q:Nat) (e:List T) (s:Nat) (y:T),(Hn l)[q]? = some e->e[s]? = some y->∃u,cur[q*5+s]? = some u/\R y u) (h1:∀(q:Nat) (e:List T) (s:Nat) (y:T),(Hn [x])[q]? = some e->e[s]? = some y->∃u,vcur[q*5+s]? = some u/\R y u) :
  ∀(q:Nat) (e:List T) (s:Nat) (y:T),(Hn (l.take i++x::l.drop i))[q]? = some e->e[s]? = some y->∃u,cur'[q*5+s]? = some u/\R y u:=by
 intro q e s y he hy
 have hs:s<5:=by rw[<- Aoa he];exact (Ab.1 hy).1
 obtain⟨r,hr,rfl⟩:=Ri he
 have htl:(l.take i).length=i:=by simp;omega
 by_cases hq:q<i
 ·rw[Au (by omega),Ag hq] at hr
  obtain⟨u,h2,h3⟩:=h0 q r.t s y (by rw[Ap,hr];rfl) hy
  exact⟨u,by rw[hP.lo _ (by omega)];exact h2,h3⟩
 rw[Ao (by omega),htl] at hr
 by_cases hqi:q=i
 ·subst hqi
  rw[Nat.sub_self] at hr
  simp at hr
  subst hr
  obtain⟨u,h2,h3⟩:=h1 0 x.t s y rfl hy
  exact⟨u,by rw[hP.at' s hs];simpa using h2,h3⟩
 obtain⟨p,rfl⟩:∃p,q=p+1:=⟨q - 1,by omega⟩
 rw[show p+1 - i=(p - i)+1 by omega,Bb,Bd,show i+(p - i)=p by omega] at hr
 have hp:p<l.length:=(Ab.1 hr).1
 obtain⟨u,h2,h3⟩:=h0 p r.t s y (by rw[Ap,hr];rfl) hy
 exact⟨u,by rw[show (p+1)*5+s=(p*5+s)+5 by omega,hP.hi _ (by omega) (by omega)];exact h2,h3⟩
theorem Eu.slots {E:Gs} {β:Nat->Option Nat} {st:St} {a:Act} {w:World} (r:Eu E β st a w) {m:Nat} {sl:List (Nat×AV)} {us:Array Value} (hm:us.size=m) (hsl:∀t,Ec (E.C β st w) (E9 sl t) (us.getD t undef)):Eu { E with n:=m } β ⟨sl,st.ob⟩ ⟨us,a.defers⟩ w :=
 ⟨hm,hsl,r.df,r.ob,r.inj,r.rng,r.kp,r.ct,r.kb,r.dk⟩
theorem Ah2.of {C:VC} {id n ty k:Nat} {fr fz:Bool} {es:List (List T)} {b c:Nat} {cur:Array Value} (ho:C.ob id=.row ty k fr fz es) (hn:n=es.length) (hb:C.β id=some b) (hc:C.h[b]? = some (.cells cur ty (0,0))) (hs:cur.size=c*k):Ah2 C id n (.slice (some ⟨b,0,none⟩) n c) :=
 ⟨rfl,ty,k,fr,fz,es,ho,by omega,fun _=>by rw[hb];exact⟨c,cur,hc,hs,rfl⟩⟩
theorem Alb (l:List Ew) (x:Ew) (i:Nat) (hi:i<l.length) (hl:l.length<=1000) (f1 f2:Bool):PP 266 [.row 164 5 f1 false (Hn l),.row 164 5 f2 false (Hn [x])] [.own 0 l.length,.li i,.own 1 1] [.row 164 5 false false (Hn (l.take i++x::l.drop i)),.row 164 5 f2 false (Hn [x])] (.own 0 (l.length+1)):=by
 refine⟨⟨_,Tryz.func266,rfl,rfl⟩,fun E β us hn ho hβ r=>?_⟩
 have hsz:us.size=3:=r.sz.trans hn
 have ho0:(St.mk (Ic 0 [AV.own 0 l.length,.li i,.own 1 1]) [.row 164 5 f1 false (Hn l),.row 164 5 f2 false (Hn [x])]).o 0=.row 164 5 f1 false (Hn l):=rfl
 have ho1:(St.mk (Ic 0 [AV.own 0 l.length,.li i,.own 1 1]) [.row 164 5 f1 false (Hn l),.row 164 5 f2 false (Hn [x])]).o 1=.row 164 5 f2 false (Hn [x]):=rfl
 have hlen:l.length=(Hn l).length:=(A2 _).symm
 obtain⟨u0,hu0⟩:∃u,us[0]? = some u:=⟨us[0],Al (by omega)⟩
 obtain⟨u1,hu1⟩:∃u,us[1]? = some u:=⟨us[1],Al (by omega)⟩
 obtain⟨u2,hu2⟩:∃u,us[2]? = some u:=⟨us[2],Al (by omega)⟩
 have hus:us = #[u0,u1,u2]:=by
  apply Array.ext_getElem?
  intro j
  match j with
  | 0=>rw[hu0];rfl
  | 1=>rw[hu1];rfl
  | 2=>rw[hu2];rfl
  | j+3=>rw[Array.getElem?_eq_none (by omega)];rfl
 have g0:=r.sl 0
 have g1:=r.sl 1
 have g2:=r.sl 2
 simp only[Av,hu0,hu1,hu2,Bh] at g0 g1 g2
 simp[Ic,E9] at g0 g1 g2
 cases g0 with
 | own _ _ _ g0 =>
 cases g1 with
 | lit _ =>
 cases g2 with
 | own _ _ _ g2 =>
 rcases r.own_val ho0 g0 hlen with⟨_,he,_⟩ | ⟨b,cur,c,hb,q1,q2,q3,q4,hv0,q5⟩
 ·have:l=[]:=by simpa using he
  rw[this] at hi;simp at hi
 rcases r.own_val ho1 g2 rfl with⟨_,he,_⟩ | ⟨vb,vcur,vc,hvb,p1,p2,p3,p4,hv2,p5⟩
 ·simp at he
 have hne:vb≠b:=fun e=>by
  have:=r.inj 1 0 vb (by rw[ho1];simp) (by rw[ho0];simp) hvb (by rw[e];exact hb)
  omega
 have p3:1<=vc:=by simpa using p3
 rw[<- hlen] at q3
 have hone:∀(cc:Array Value) (es:List Ew) (fr:Bool),(∀(p:Nat) (e:List T) (j:Nat) (y:T),(Hn es)[p]? = some e->e[j]? = some y->∃u,cc[p*5+j]? = some u/\Gq E.w0.heap ((E.C β ⟨Ic 0 [AV.own 0 l.length,.li i,.own 1 1],[.row 164 5 f1 false (Hn l),.row 164 5 f2 false (Hn [x])]⟩ E.w0).S fr) y u)->∀j,j<es.length*5->∀v,cc[j]? = some v->v.oneCell'=true:=fun cc es fr h j hj v hv=>by
  have hq:j / 5<es.length:=by omega
  have he:(Hn es)[j / 5]? = some es[j / 5].t:=by rw[Ap,Aa hq];rfl
  have hj5:j % 5<(es[j / 5].t).length:=by rw[show (es[j / 5].t).length=5 from rfl];omega
  obtain⟨u,h1,h2⟩:=h _ _ (j % 5) _ he (Aa hj5)
  rw[show j / 5*5+j % 5=j by omega,hv] at h1
  injection h1 with h1
  rw[h1]
  exact h2.one
 have hc0:=hone cur l f1 q5
 have hc1:=hone vcur [x] f2 p5
 have hlx:(l.take i++x::l.drop i).length=l.length+1:=by simp;omega
 have hORel:∀(g:Nat) (cur':Array Value) (c':Nat),cur'.size=c'*5->l.length+1<=c'->c'<=maxLen->A06 cur vcur cur' l.length i->∀C:VC,Ot (E.C β ⟨Ic 0 [AV.own 0 l.length,.li i,.own 1 1],[.row 164 5 f1 false (Hn l),.row 164 5 f2 false (Hn [x])]⟩ E.w0) C->C.β 0=some g->C.h[g]? = some (.cells cur' 164 (0,0))->Kx C 0 (.row 164 5 false false (Hn (l.take i++x::l.drop i))):=fun g cur' c' h1 h2 h3 hP C s hCβ hCh=>by
  refine⟨⟨by decide,fun q e he=>Aoa he⟩,?_⟩
  rw[hCβ]
  refine⟨cur',c',hCh,h1,by rw[A2,hlx];exact h2,h3,?_⟩
  exact Aun hi hP (fun q e s' y he hy=>by
   obtain⟨u,m1,m2⟩:=q5 q e s' y he hy
   exact⟨u,m1,VC.T_weak (s.T m2) fun e=>by cases e⟩) (fun q e s' y he hy=>by
   obtain⟨u,m1,m2⟩:=p5 q e s' y he hy
   exact⟨u,m1,VC.T_weak (s.T m2) fun e=>by cases e⟩)
 rw[hus,hv0,hv2,A2]
 have hv1:5<=vcur.size:=by omega
 by_cases hroom:l.length+1<=c
 ·have hcm:c<=9223372036854775807:=by unfold maxLen at q4;omega
  refine (Aum b l.length c i vb vc cur vcur E.w0 hi hroom hcm q1 q2 p1 hv1 hne hc0 (fun j hj v hv=>hc1 j (by simpa using hj) v hv)).mono ?_
  rintro e w' ⟨rfl,rfl⟩
  have hA:=Ac8 q2 hi hroom
  have hP:=Ara hi hroom q2 hv1
  have hB:(Nc (X5 cur l.length i) vcur i).size=c*5:=by rw[Ac7 hv1 (by rw[hA];omega),hA]
  have k1:=setRow_heap E.w0.drew b cur (X5 cur l.length i) 164 (0,0) q1
  have k2:=setRow_heap _ b _ (Nc (X5 cur l.length i) vcur i) 164 (0,0) k1
  have r1:=(r.drew (E.w0.drawn+1)).change (id:=0) (g:=b) (o:=.row 164 5 false false (Hn (l.take i++x::l.drop i))) (by rw[ho0];rfl) hb q1 k2 (by rw[hB,q2]) (by simp) (fun b' hb'=>(setRow_other _ b b' _ hb').trans (setRow_other _ b b' _ hb')) rfl rfl rfl
   (fun ty cs e=>by rw[ho0] at e;cases e) (fun ty k fr fz es e=>by
    rw[ho0] at e
    injection e with e1 e2 e3 e4 e5
    subst e1 e2 e5
    exact⟨_,_,_,rfl,by rw[A2,A2,hlx];omega⟩) (hORel b _ c hB hroom q4 hP) (.inr trivial)
  refine⟨_,_,rfl,r1.slots (m:=1) (sl:=[(0,.own 0 (l.length+1))]) rfl fun t=>?_⟩
  simp only[E9]
  by_cases ht:t=0
  ·subst ht
   exact .own _ _ _ (Ah2.of rfl (by rw[A2,hlx]) hb k2 hB)
  have:(0 == t)=false:=by simpa using fun e=>ht e.symm
  rw[this]
  exact .any _
 refine (Axn b l.length c i vb vc cur vcur E.w0 hi q3 (by omega) hl q1 q2 p1 hv1 hc0 (fun j hj v hv=>hc1 j (by simpa using hj) v hv)).mono ?_
 rintro e w' ⟨ROW,G,k,n1,n2,n3,n4,rfl,rfl⟩
 have hP:=Auo hi n2 n1 q2 q3 hv1 n4
 have hB1:=Ac7 (row:=ROW) (i:=i) hv1 (by omega)
 have hB:(Ae7 (Nc ROW vcur i) cur l.length i).size=G*5:=by rw[Aup hi (by omega) (by rw[hB1];omega),hB1,n1]
 have r1:=(r.bind (id:=0) (o:=.row 164 5 false false (Hn (l.take i++x::l.drop i))) (.inr ⟨_,_,_,_,_,_,_,_,ho0,rfl,by rw[A2,A2,hlx];omega⟩) (by simp) (Ae7 (Nc ROW vcur i) cur l.length i) 164 (hORel _ _ G hB n2 n3 hP)).drew k
 refine⟨_,_,rfl,r1.slots (m:=1) (sl:=[(0,.own 0 (l.length+1))]) rfl fun t=>?_⟩
 simp only[E9]
 by_cases ht:t=0
 ·subst ht
  exact .own _ _ _ (Ah2.of rfl (by rw[A2,hlx]) (show upd β 0 E.w0.heap.size 0=some E.w0.heap.size by simp[upd]) (Apm E.w0 _) hB)
 have:(0 == t)=false:=by simpa using fun e=>ht e.symm
 rw[this]
 exact .any _
theorem Alc (l:List Ew) (x:Ew) (hl:l.length<=1000) (f1 f2:Bool):PP 266 [.row 164 5 f1 false (Hn l),.row 164 5 f2 false (Hn [x])] [.own 0 l.length,.li l.length,.own 1 1] [.row 164 5 false false (Hn (l++[x])),.row 164 5 f2 false (Hn [x])] (.own 0 (l.length+1)):=by
 obtain⟨d,h,_⟩:=Aft (P:=Tryz.prog) (f:=266) (args:=[.own 0 l.length,.li l.length,.own 1 1]) (σa:=[.row 164 5 f1 false (Hn l),.row 164 5 f2 false (Hn [x])]) (D:=Unit) (F:=fun _=>.own 0 (l.length+1)) (S:=fun _=>[.row 164 5 false false (Hn (l++[x])),.row 164 5 f2 false (Hn [x])]) (Q:=fun _=>True) Tryz.func266 rfl rfl rfl (by simp[Tryz.ntmps266]) (by
  refine Bq ?_
  refine Bt Dz ?_
  refine Bq<|.seq ?_
  refine Bq ?_
  refine Cs (fun h16=>?_) (fun h16=>?_)
  ·simp[go_sem] at h16
  refine Bp<|.R<|.seq ?_
  refine Bq ?_
  refine Cs (fun h22=>?_) (fun h22=>?_)
  rotate_left
  ·simp[go_sem] at h22
  refine Bt Dz ?_
  refine Cw 0 rfl ?_
  simp[go_sem]
  refine Bz ⟨(),Acv [0,1] (by simp[go_sem]) (by decide) (fun id h=>by
   match id,h with
   | 0,_=>rfl
   | 1,_=>rfl
   | id+2,h=>exact absurd h (by simp)) (by simp[go_sem]) ?_,trivial⟩
  repeat' (first | exact .nil | refine .cons (by simp[go_sem]) ?_))
 exact h
theorem Anv (l:List Ew) (x:Ew) (i:Nat) (hi:i<=l.length) (hl:l.length<=1000) (f1 f2:Bool):PP 266 [.row 164 5 f1 false (Hn l),.row 164 5 f2 false (Hn [x])] [.own 0 l.length,.li i,.own 1 1] [.row 164 5 false false (Hn (l.take i++x::l.drop i)),.row 164 5 f2 false (Hn [x])] (.own 0 (l.length+1)):=by
 by_cases h:i<l.length
 ·exact Alb l x i h hl f1 f2
 obtain rfl:i=l.length:=by omega
 rw[List.take_length,List.drop_length]
 exact Alc l x hl f1 f2
end
theorem Acl (l:List Ew) (fid:FuncId) (caps:List AV) (p:Ew->Bool) (hl:l.length<=1000000) (hg:∀r∈l,r.legs.length<=1000000) (hc:Abz caps) (hp:∀t,PP fid [] (t.g::caps) [] (.lb (p t))):PP 168 [] [.mReq l,.fn fid caps] [.row 164 5 false false (Hn (l.filter p))] (.own 0 (l.filter p).length):=by
 refine Em Tryz.func168 ?_
 refine Ce (fun K kk=>by simp[go_sem,hc.pass,hc.passC,hc.bor,hc.low];exact kk) ?_
 refine Ce (fun K kk=>by simp[go_sem,hc.pass,hc.passC,hc.bor,hc.low];exact kk)<|.seq ?_
 refine Ce (fun K kk=>by simp[go_sem,hc.pass,hc.passC,hc.bor,hc.low];exact kk)<|.block ?_
 refine Cn 5 164 5 (by decide) (k':=5) (by simp[go_sem]) ?_
 simp[go_sem]
 refine Cc l.length (fun i1=>⟨[(1,.fn fid caps),(5,.own 0 ((l.take i1).filter p).length),(8,.mReq l),(9,.li l.length),(10,.li i1)],[.row 164 5 false false (Hn ((l.take i1).filter p))]⟩) (wQ [0] ?_ ?_) fun i1 hi1=>?_
 ·simp[go_sem,hc.ren]
 ·simp[go_sem,hc.ren]
 refine Ce (fun K kk=>by simp[go_sem,hc.pass,hc.passC,hc.bor,hc.low];exact kk)<|.seq ?_
 refine B6 ?_ ?_<;>intro h11
 ·have hx:l[i1]? = some l[i1]:=Aa (by omega)
  generalize l[i1]=e at hx
  have hf:((l.take i1).filter p).length<=i1:=Ak (Az _ _) (by simp;omega)
  have ht:List.take (i1+1) l=List.take i1 l++[e]:=by rw[List.take_add_one,hx];rfl
  refine Bv<|.seq<|.block<|.H hx ?_
  refine Ce (fun K kk=>by simp[go_sem,hc.pass,hc.passC,hc.bor,hc.low];refine .lo (hp e) (by simp[go_sem,hc.low]) (by simp[AV.cln,Fu]) ?_;simp[go_sem,hc.pass,hc.passC,hc.bor,hc.low];exact kk) ?_
  refine B6 ?_ ?_<;>intro h16
  ·refine VW.S1 (fun K kk=>by simp[go_sem,hc.pass,hc.passC,hc.bor,hc.low];refine .l (Wc e (hg e (Ac hx))) ?_;simp[go_sem,hc.pass,hc.passC,hc.bor,hc.low];(repeat first | exact kk | refine aK ?_)) ?_
   refine VW.S1 (fun K kk=>by simp[go_sem,hc.pass,hc.passC,hc.bor,hc.low];exact kk) ?_
   refine⟨by omega,wQ [0] ?_ ?_⟩
   ·simp[go_sem,Dx ((i1:Int)+1),hc.ren,ht,List.filter_append,h11,h16]
   simp[go_sem,hc.ren,ht,List.filter_append,h11,h16]
  refine Bv<|.S1 (fun K kk=>by simp[go_sem,hc.pass,hc.passC,hc.bor,hc.low];exact kk) ?_
  refine⟨by omega,wQ [0] ?_ ?_⟩
  ·simp[go_sem,Dx ((i1:Int)+1),hc.ren,ht,List.filter_append,h11,h16]
  simp[go_sem,hc.ren,ht,List.filter_append,h11,h16]
 refine B4<|.S (fun K kk=>by simp[go_sem,hc.pass,hc.passC,hc.bor,hc.low];exact kk) ?_
 have he:l.take i1=l:=Bf (by omega)
 simp only[he]
 exact .ret (rW Dz [0])
section
variable (l:List Ew) (hl:l.length<=1000000) (hg:∀r∈l,r.legs.length<=1000000)
include hl hg
theorem Aq8:PP 168 [] [.mReq l,.fn 193 []] [.row 164 5 false false (Hn l)] (.own 0 l.length):=by
 have h:=Acl l _ [] (fun _=>true) hl hg Uy (K9)
 rwa[show l.filter (fun _=>true)=l by simp] at h
theorem P0:PP 171 [] [.mReq l] [.row 164 5 false false (Hn l)] (.own 0 l.length):=by
 refine Em Tryz.func171 ?_
 refine Bw ?_
 refine Ce (fun K kk=>by simp[go_sem];refine .lo (Aq8 l hl hg) (by simp[go_sem]) (by simp[AV.cln,Fu]) ?_;simp[go_sem];exact kk) ?_
 exact .ret (rW Dz [0])
end
theorem A1g {l:List Ew} {id b c life now q:Int} {g:List G3} {n:Nat} (hn:n<=l.length) (h4:l.length<3/\(l.length:Int)<q) (hT:Xq id=true/\Agy now=true/\1<=life/\life<=600) (hg:∀r∈l,r.legs.length<=1000000) (hx:g.length<=1000000):(l.take n++⟨id,b,c,IntKind.i64.wrap (now+life),g⟩::l.drop n).length<=l.length+1/\(l.take n++⟨id,b,c,IntKind.i64.wrap (now+life),g⟩::l.drop n).length<=3/\(∀r∈l.take n++⟨id,b,c,IntKind.i64.wrap (now+life),g⟩::l.drop n,r.legs.length<=1000000)/\((0:Int)=0->((l.take n++(⟨id,b,c,IntKind.i64.wrap (now+life),g⟩:Ew)::l.drop n).length:Int)<=q)/\((∀r∈l,Zs r)->∀r∈l.take n++⟨id,b,c,IntKind.i64.wrap (now+life),g⟩::l.drop n,Zs r)/\(0:Int)<=0/\(0:Int)<=99:=by
 have hm:∀{p:Ew->Prop} {x:Ew},(∀r∈l,p r)->p x->∀r∈l.take n++x::l.drop n,p r:=fun hg hx r hr=>by
  rcases A0.1 hr with h | h
  ·exact hg r (Aq h)
  rcases List.mem_cons.1 h with rfl | h
  ·exact hx
  exact hg r (Ay h)
 obtain⟨h5,h6,h7,h8⟩:=hT
 simp only[Xq,Agy,Ah,decide_eq_true_eq] at h5 h6
 exact⟨by simp;omega,by simp;omega,hm hg hx,fun _=>by simp;omega,fun hB=>hm hB ⟨⟨h5.1,h5.2⟩,by show NB (IntKind.i64.wrap (now+life));rw[Dx _];exact⟨by omega,by omega⟩⟩,by decide,by decide⟩
section
variable (l:List Ew) (q:Int) (id:Int) (v:G6) (life:Int) (legs:List G3) (now:Int) (hl:l.length<=3) (hg:∀r∈l,r.legs.length<=1000000) (hgl:legs.length<=1000000) (hq3:q<=3)
include id v life now hl hg hgl hq3
theorem O4:Ct 241 [.mReq l,.li q,.li id,v.g,.li life,.mLeg legs,.li now] (fun d:List Ew×Int=>.tup [.mReq d.1,.li d.2]) (fun d=>d.1.length<=l.length+1/\d.1.length<=3/\(∀r∈d.1,r.legs.length<=1000000)/\(d.2=0->(d.1.length:Int)<=q)/\((∀r∈l,Zs r)->∀r∈d.1,Zs r)/\0<=d.2/\d.2<=99):=by
 refine Ex Tryz.func241 ?_
 have hlM:l.length<=1000000:=by omega
 refine Bq<|.seq ?_
 obtain⟨Y1,cY1,qY1⟩:=Ep (Qb l q (by assumption) (by assumption))
 refine B3 (fun K kk=>by simp[go_sem];refine .l cY1 ?_;simp[go_sem];refine Pv ?_;simp[go_sem];refine .l (Lq v.id) ?_;simp[go_sem];refine Pv ?_;simp[go_sem];refine .l (Wd v.cls) ?_;simp[go_sem];refine Pv ?_;simp[go_sem];refine .l (W9 now) ?_;simp[go_sem];exact kk) ?_
 refine Br ?_ ?_<;>intro h38
 ·refine Bq ?_
  exact .ret (fin Dz ([],1) ⟨Ae _,Ae _,fun r h=>(by cases h),fun h=>absurd h (by decide),fun _ r h=>(by cases h),by decide⟩)
 refine Bp<|.seq ?_
 obtain⟨Y2,cY2,qY2⟩:=Ep (Q0 legs (by assumption))
 refine B3 (fun K kk=>by simp[go_sem];refine .l (Lq id) ?_;simp[go_sem];refine Pv ?_;simp[go_sem];refine .l cY2 ?_;simp[go_sem];exact kk) ?_
 refine Br ?_ ?_<;>intro h54
 ·refine Bq ?_
  exact .ret (fin Dz ([],8) ⟨Ae _,Ae _,fun r h=>(by cases h),fun h=>absurd h (by decide),fun _ r h=>(by cases h),by decide⟩)
 refine Bp<|.seq<|.L Dz (Qn l id (by assumption)) ?_
 refine Br ?_ ?_<;>intro h58
 ·refine Bq ?_
  exact .ret (fin Dz ([],11) ⟨Ae _,Ae _,fun r h=>(by cases h),fun h=>absurd h (by decide),fun _ r h=>(by cases h),by decide⟩)
 refine Bp<|.seq<|.R ?_
 refine Br ?_ ?_<;>intro h67
 ·refine Bq ?_
  exact .ret (fin Dz ([],14) ⟨Ae _,Ae _,fun r h=>(by cases h),fun h=>absurd h (by decide),fun _ r h=>(by cases h),by decide⟩)
 have hT:Xq id=true/\Agy now=true/\1<=life/\life<=600:=⟨h54.1.1.1,h38.2,by omega,by omega⟩
 refine Bp<|.R<|.seq<|.block ?_
 refine Cj (fun (y1:Int)=>⟨[(0,.mReq l),(2,.li id),(4,.li life),(5,.mLeg legs),(6,.li now),(10,.ptr 0 0),(16,.li y1)],[.box 216 [.li v.id,.li v.cls]]⟩) (fun y1=>0<=y1/\y1<=l.length) (fun y1=>(l.length - y1).toNat) (0) (wk Dz [0]) (⟨by omega,by omega⟩) fun y1 hy1=>?_
 refine Ca ?_
 by_cases hc10:y1<l.length
 ·obtain⟨e1,H1⟩:=gx l y1.toNat
  refine Bt (Fa hc10 H1) ?_
  refine Br ?_ ?_<;>intro h80
  ·refine Bp<|.block ?_
   have hw2:=Dx (y1+1:Int)
   refine B0 (Hq hc10 H1 hw2) ?_
   refine⟨((y1+1)),?_,?_,wQ [0] ?_ ?_⟩
   ·omega
   ·exact⟨by omega,by omega⟩
   all_goals simp[go_sem,hc10,H1,hw2]
  refine Bu ?_
  obtain⟨ix,hix⟩:∃ix:Nat,y1=ix:=⟨y1.toNat,by omega⟩
  subst hix
  have hln:(l.length+1=min ix l.length+(l.length - ix+1))=True:=eq_true (by omega)
  refine Cy (fun K kk=>by simp[go_sem,hc10,H1,hln];refine .lo (E7.froz (Ng _ (by (simp;omega)) (by (simp[T.plain,G3.t];done)))) rfl (by simp[AV.cln,Fu]) ?_;simp[go_sem,hc10,H1,hln];exact kk) ?_
  refine Cy (fun K kk=>by simp[go_sem,hc10,H1,hln];refine .l (P0 l (by assumption) (by assumption)) ?_;simp[go_sem,hc10,H1,hln];refine .o [2,3] (Anv l ⟨id,v.id,v.cls,IntKind.i64.wrap (now+life),legs⟩ ix (by omega) (by omega) false true) ?_;simp[go_sem,hc10,H1,hln];exact kk) ?_
  refine B2 Dz 2 ?_
  exact .ret (fin (Hq hc10 H1 hln) ((l.take ix++⟨id,v.id,v.cls,IntKind.i64.wrap (now+life),legs⟩::l.drop ix),0) (A1g (by omega) ⟨by omega,h67.1⟩ hT hg hgl))
 refine Bt hc10 ?_
 refine Cs ?_ ?_<;>intro h80<;>simp[go_sem] at h80
 refine Bu ?_
 obtain⟨ix,hix⟩:∃ix:Nat,y1=ix:=⟨y1.toNat,by omega⟩
 subst hix
 have hln:(l.length+1=min ix l.length+(l.length - ix+1))=True:=eq_true (by omega)
 refine Cy (fun K kk=>by simp[go_sem,hc10,hln];refine .lo (E7.froz (Ng _ (by (simp;omega)) (by (simp[T.plain,G3.t];done)))) rfl (by simp[AV.cln,Fu]) ?_;simp[go_sem,hc10,hln];exact kk) ?_
 refine Cy (fun K kk=>by simp[go_sem,hc10,hln];refine .l (P0 l (by assumption) (by assumption)) ?_;simp[go_sem,hc10,hln];refine .o [2,3] (Anv l ⟨id,v.id,v.cls,IntKind.i64.wrap (now+life),legs⟩ ix (by omega) (by omega) false true) ?_;simp[go_sem,hc10,hln];exact kk) ?_
 refine B2 Dz 2 ?_
 exact .ret (fin (Fa hc10 hln) ((l.take ix++⟨id,v.id,v.cls,IntKind.i64.wrap (now+life),legs⟩::l.drop ix),0) (A1g (by omega) ⟨by omega,h67.1⟩ hT hg hgl))
def Fw:List Ew×Int:=(Ep (O4 l q id v life legs now hl hg hgl hq3)).choose
theorem Acm:PP 241 [] [.mReq l,.li q,.li id,v.g,.li life,.mLeg legs,.li now] [] (.tup [.imm false 5 (Hn (Fw l q id v life legs now hl hg hgl hq3).1),.lit (.int .i64 (Fw l q id v life legs now hl hg hgl hq3).2)]):=(Ep (O4 l q id v life legs now hl hg hgl hq3)).choose_spec.1
theorem Acw:(Fw l q id v life legs now hl hg hgl hq3).1.length<=l.length+1/\(Fw l q id v life legs now hl hg hgl hq3).1.length<=3/\(∀r∈(Fw l q id v life legs now hl hg hgl hq3).1,r.legs.length<=1000000)/\((Fw l q id v life legs now hl hg hgl hq3).2=0->((Fw l q id v life legs now hl hg hgl hq3).1.length:Int)<=q)/\((∀r∈l,Zs r)->∀r∈(Fw l q id v life legs now hl hg hgl hq3).1,Zs r)/\0<=(Fw l q id v life legs now hl hg hgl hq3).2/\(Fw l q id v life legs now hl hg hgl hq3).2<=99:=(Ep (O4 l q id v life legs now hl hg hgl hq3)).choose_spec.2
end
structure Gg (x:Dy):Prop where
  b:L8 x
  vehs:x.reg.vehs.length<=8
  reqs:x.reqs.length<=3
  dr:∀s∈x.draws,s.length<=1000/\By s
  rq:x.reg.ag.rq<=3
  rl:(x.reqs.length:Int)<=max 0 x.reg.ag.rq
  rk:∀r∈x.reqs,Zs r
theorem Ai3:Hi ⟨0,[],[],[]⟩:=by simp[Hi]
theorem S7 {x:Dy} {sec:List Int} {q:Ea} (hd:Gg x) {d:Jg×Ea×Bool×Int} (hQ:Uc d.1/\d.1.vehs.length<=8/\(d.2.2.2=0->d.1.num=x.reg.num/\d.1.ag=x.reg.ag/\A21 x.reg.bk d.1.bk sec q d.2.1)/\Hi d.2.1/\0<=d.2.2.2/\d.2.2.2<=99) (hB:By sec) (h0:d.2.2.2=0) {rq:List Ew} {dr:List (List Int)} (h1:rq=x.reqs\/∃f,rq=x.reqs.filter f:=by first | exact .inl rfl | exact .inr ⟨_,rfl⟩) (h3:dr=x.draws\/dr=x.draws.drop 1:=by first | exact .inl rfl | exact .inr rfl) :
 Gg ⟨d.1,rq,dr,x.aud⟩/\(⟨d.1,rq,dr,x.aud⟩:Dy).aud=x.aud/\(⟨d.1,rq,dr,x.aud⟩:Dy).reg.num=x.reg.num/\(⟨d.1,rq,dr,x.aud⟩:Dy).reg.ag=x.reg.ag/\Hi d.2.1/\(⟨d.1,rq,dr,x.aud⟩:Dy).reg.bk=x.reg.bk/\((0:Int)=0->A0y q d.2.1/\By d.2.1.data)/\(0:Int)<=0/\(0:Int)<=99:=by
 have hE:=hQ.2.2.1 h0
 have hl:rq.length<=x.reqs.length/\∀r∈rq,r∈x.reqs:=by
  rcases h1 with rfl | ⟨f,rfl⟩
  ·exact⟨Aj _,fun r h=>h⟩
  exact⟨Az _ _,fun r h=>(Bn.1 h).1⟩
 have hr:dr.length<=x.draws.length/\∀s∈dr,s∈x.draws:=by
  rcases h3 with rfl | rfl
  ·exact⟨Aj _,fun r h=>h⟩
  exact⟨by simp,fun r h=>Ay h⟩
 have ha:(⟨d.1,rq,dr,x.aud⟩:Dy).reg.ag=x.reg.ag:=hE.2.1
 exact⟨⟨⟨hQ.1,Ak hl.1 hd.b.reqs,fun r h=>hd.b.legs r (hl.2 r h),Ak hr.1 hd.b.draws,fun s h=>hd.b.draw s (hr.2 s h),hd.b.aud⟩,hQ.2.1,Ak hl.1 hd.reqs,fun s h=>hd.dr s (hr.2 s h),by rw[ha];exact hd.rq,by rw[ha];have:=hd.rl;have:=hl.1;dsimp only;omega,fun r h=>hd.rk r (hl.2 r h)⟩,rfl,hE.1,hE.2.1,hQ.2.2.2.1,hE.2.2.1,fun _=>⟨hE.2.2.2.1,hE.2.2.2.2 hB⟩,by decide,by decide⟩
section
variable (x:Dy) (m:Ea) (slot:Int) (now:Int) (hd:Gg x) (h1:m.tok.length<=2000) (h2:m.args.length<=2000) (h3:m.data.length<=2000) (a2:m.kind=2->3<=m.args.length) (a1:m.kind=3\/m.kind=4\/m.kind=5->1<=m.args.length) (a4:m.kind=4->2<=m.args.length)
include slot now hd h1 h2 h3 a2 a1 a4
theorem Qg:Ct 189 [x.g,m.g,.li slot,.li now] (fun d:Dy×Ea×Int=>.tup [d.1.g,d.2.1.g,.li d.2.2]) (fun d=>Gg d.1/\d.1.aud=x.aud/\d.1.reg.num=x.reg.num/\d.1.reg.ag=x.reg.ag/\Hi d.2.1/\d.1.reg.bk=x.reg.bk/\(d.2.2=0->A0y m d.2.1/\By d.2.1.data)/\0<=d.2.2/\d.2.2<=99):=by
 refine Ex Tryz.func189 ?_
 have h2M:m.args.length<=1000000:=by omega
 have hdb:=hd.b
 refine Bq ?_
 refine Bq<|.seq ?_
 refine Bq ?_
 refine Br ?_ ?_<;>intro h19
 ·obtain⟨e1,H1⟩:=gx x.draws 0
  refine B0 H1 ?_
  obtain⟨Y1,cY1,qY1⟩:=Ep (Za x.reg m slot now e1 hd.b.reg hd.vehs h1 h2 h3 a2 a1 a4 (hd.dr e1 (Ac H1)).1)
  refine B8 H1 cY1<|.seq ?_
  refine Bt H1 ?_
  refine Br ?_ ?_<;>intro h37
  ·refine Bt H1 ?_
   exact .ret (fin H1 (x,⟨0,[],[],[]⟩,Y1.2.2.2) ⟨hd,rfl,rfl,rfl,Ai3,rfl,fun h=>absurd h h37,qY1.2.2.2.2⟩)
  refine Bp<|.H H1<|.seq ?_
  refine Bt H1 ?_
  refine Br ?_ ?_<;>intro h49
  ·refine B0 H1<|.seq ?_
   refine Bt H1 ?_
   refine Br ?_ ?_<;>intro h56
   ·have ha:=a1 (.inr (.inr h56))
    obtain⟨e2,H2⟩:=gx m.args 0
    refine Cp (Fa H1 H2) (K7 x.reqs e2 hd.b.reqs hd.b.legs) ?_
    refine C3 (Fa H1 H2) ?_
    exact .ret (fin (Fa H1 H2) (⟨Y1.1,(List.filter (fun r:Ew=>r.veh != e2) x.reqs),x.draws.drop 1,x.aud⟩,Y1.2.1,0) (S7 hd qY1 (hd.dr e1 (Ac H1)).2 h37))
   refine Bp<|.G H1 ?_
   exact .ret (fin H1 (⟨Y1.1,x.reqs,x.draws.drop 1,x.aud⟩,Y1.2.1,0) (S7 hd qY1 (hd.dr e1 (Ac H1)).2 h37))
  refine Bp<|.seq<|.H H1 ?_
  refine Br ?_ ?_<;>intro h56
  ·have ha:=a1 (.inr (.inr h56))
   obtain⟨e3,H3⟩:=gx m.args 0
   refine Cp (Fa H1 H3) (K7 x.reqs e3 hd.b.reqs hd.b.legs) ?_
   refine C3 (Fa H1 H3) ?_
   exact .ret (fin (Fa H1 H3) (⟨Y1.1,(List.filter (fun r:Ew=>r.veh != e3) x.reqs),x.draws,x.aud⟩,Y1.2.1,0) (S7 hd qY1 (hd.dr e1 (Ac H1)).2 h37))
  refine Bp<|.G H1 ?_
  exact .ret (fin H1 (⟨Y1.1,x.reqs,x.draws,x.aud⟩,Y1.2.1,0) (S7 hd qY1 (hd.dr e1 (Ac H1)).2 h37))
 obtain⟨Y2,cY2,qY2⟩:=Ep (Za x.reg m slot now [] hd.b.reg hd.vehs h1 h2 h3 a2 a1 a4 (by simp))
 refine Bp<|.L Dz cY2<|.seq ?_
 refine Bq ?_
 refine Br ?_ ?_<;>intro h37
 ·refine Bq ?_
  exact .ret (fin Dz (x,⟨0,[],[],[]⟩,Y2.2.2.2) ⟨hd,rfl,rfl,rfl,Ai3,rfl,fun h=>absurd h h37,qY2.2.2.2.2⟩)
 refine Bp<|.R<|.seq ?_
 refine Bq ?_
 refine Br ?_ ?_<;>intro h49
 ·refine B0 Dz<|.seq ?_
  refine Bq ?_
  refine Br ?_ ?_<;>intro h56
  ·have ha:=a1 (.inr (.inr h56))
   obtain⟨e4,H4⟩:=gx m.args 0
   refine Cp H4 (K7 x.reqs e4 hd.b.reqs hd.b.legs) ?_
   refine C3 H4 ?_
   exact .ret (fin H4 (⟨Y2.1,(List.filter (fun r:Ew=>r.veh != e4) x.reqs),x.draws.drop 1,x.aud⟩,Y2.2.1,0) (S7 hd qY2 .nil h37))
  refine Bp<|.D ?_
  exact .ret (fin Dz (⟨Y2.1,x.reqs,x.draws.drop 1,x.aud⟩,Y2.2.1,0) (S7 hd qY2 .nil h37))
 refine Bp<|.seq<|.R ?_
 refine Br ?_ ?_<;>intro h56
 ·have ha:=a1 (.inr (.inr h56))
  obtain⟨e5,H5⟩:=gx m.args 0
  refine Cp H5 (K7 x.reqs e5 hd.b.reqs hd.b.legs) ?_
  refine C3 H5 ?_
  exact .ret (fin H5 (⟨Y2.1,(List.filter (fun r:Ew=>r.veh != e5) x.reqs),x.draws,x.aud⟩,Y2.2.1,0) (S7 hd qY2 .nil h37))
 refine Bp<|.D ?_
 exact .ret (fin Dz (⟨Y2.1,x.reqs,x.draws,x.aud⟩,Y2.2.1,0) (S7 hd qY2 .nil h37))
def Eo:Dy×Ea×Int:=(Ep (Qg x m slot now hd h1 h2 h3 a2 a1 a4)).choose
theorem Aew:PP 189 [] [x.g,m.g,.li slot,.li now] [] (.tup [.agg ((Eo x m slot now hd h1 h2 h3 a2 a1 a4).1.a false),.agg ((Eo x m slot now hd h1 h2 h3 a2 a1 a4).2.1.a false),.lit (.int .i64 (Eo x m slot now hd h1 h2 h3 a2 a1 a4).2.2)]):=(Ep (Qg x m slot now hd h1 h2 h3 a2 a1 a4)).choose_spec.1
theorem M5:Gg (Eo x m slot now hd h1 h2 h3 a2 a1 a4).1/\(Eo x m slot now hd h1 h2 h3 a2 a1 a4).1.aud=x.aud/\(Eo x m slot now hd h1 h2 h3 a2 a1 a4).1.reg.num=x.reg.num/\(Eo x m slot now hd h1 h2 h3 a2 a1 a4).1.reg.ag=x.reg.ag/\Hi (Eo x m slot now hd h1 h2 h3 a2 a1 a4).2.1/\(Eo x m slot now hd h1 h2 h3 a2 a1 a4).1.reg.bk=x.reg.bk/\((Eo x m slot now hd h1 h2 h3 a2 a1 a4).2.2=0->A0y m (Eo x m slot now hd h1 h2 h3 a2 a1 a4).2.1/\By (Eo x m slot now hd h1 h2 h3 a2 a1 a4).2.1.data)/\0<=(Eo x m slot now hd h1 h2 h3 a2 a1 a4).2.2/\(Eo x m slot now hd h1 h2 h3 a2 a1 a4).2.2<=99:=(Ep (Qg x m slot now hd h1 h2 h3 a2 a1 a4)).choose_spec.2
end
theorem Aif (cfg:E5) (x:Dy) (l:List Int) (slot:Int) (now:Int) (hd:Gg x) (hl:3<=l.length) (hl2:l.length<=1000) (hn:∀a∈l,0<=a) (s0:0<=slot) (s1:slot<x.reg.toks.length):Ct 212 [cfg.g,x.g,.mI l,.li slot,.li now] (fun d:List Ew×Int=>.tup [.mReq d.1,.li d.2]) (fun d=>d.1.length<=3/\(∀r∈d.1,r.legs.length<=1000000)/\(d.2=0->(d.1.length:Int)<=max 0 x.reg.ag.rq)/\(∀r∈d.1,Zs r)/\0<=d.2/\d.2<=99):=by
 refine Ex Tryz.func212 ?_
 have hv:x.reg.vehs.length<=1000000:=hd.b.reg.vehs
 have hs1:¬slot<0:=by omega
 have hs2:¬(x.reg.toks.length:Int)<=slot:=by omega
 obtain⟨tk,htk⟩:∃e,x.reg.toks[slot.toNat]? = some e:=⟨_,Aa (by omega)⟩
 refine Bq ?_
 obtain⟨e1,H1⟩:=gx l 1
 obtain⟨Y1,cY1,qY1⟩:=Ep (Afz x.reg.vehs e1 hv)
 refine Db H1 cY1<|.seq ?_
 refine Bt H1 ?_
 refine Br ?_ ?_<;>intro h32
 ·refine Bt H1 ?_
  exact .ret (fin H1 ([],12) ⟨Ae _,fun r h=>(by cases h),fun h=>absurd h (by decide),fun r h=>(by cases h),by decide⟩)
 refine Bp<|.H H1<|.seq ?_
 refine C3 (Tf H1 hs1 hs2 htk) ?_
 refine Br ?_ ?_<;>intro h53
 ·refine Bt H1 ?_
  exact .ret (fin H1 ([],17) ⟨Ae _,fun r h=>(by cases h),fun h=>absurd h (by decide),fun r h=>(by cases h),by decide⟩)
 refine Bp<|.H H1<|.seq ?_
 refine Bt H1<|.block ?_
 refine Cg 15 166 5 (by decide) (k':=5) (by simp[go_sem]) ?_
 simp[go_sem,-Prod.exists]
 refine Cj (fun (y1:(List G3)×Int)=>⟨[(2,.mI l),(4,.li now),(5,.ptr 0 0),(6,.ptr 1 0),(12,.ptr 2 0),(15,.own 3 y1.1.length),(16,.li y1.2)],[.box 30 (cfg.a false),.box 70 (x.a false),.box 216 [.li (Y1.1.id),.li (Y1.1.cls)],.row 166 5 false false (Ie y1.1)]⟩) (fun y1=>3<=y1.2/\y1.1.length<=y1.2/\y1.2<=2000) (fun y1=>(l.length - y1.2).toNat) ([],3) (wk H1 [0,1,2,3]) (⟨by omega,by simp,by dsimp only;omega⟩) fun y1 hy1=>?_
 refine Ca ?_
 have hw2:=Dx (y1.2+3:Int)
 refine Bt (Fa H1 hw2) ?_
 refine Br ?_ ?_<;>intro h58
 ·refine Bp<|.seq<|.block ?_
  obtain⟨e3,H3⟩:=gx l y1.2.toNat
  have hw4:=Dx (y1.2+1:Int)
  obtain⟨e5,H5⟩:=gx l ((y1.2+1).toNat)
  refine C3 (X9 H1 hw2 H3 hw4 H5)<|.seq ?_
  by_cases hc12:e3<cfg.juns.length
  ·have hnj:¬(cfg.juns.length:Int)<=e3:=by omega
   have h0e:=hn e3 (Ac H3)
   have h0f:=hn e5 (Ac H5)
   obtain⟨e6,H6⟩:=gx cfg.juns e3.toNat
   refine B3 (fun K kk=>by simp[go_sem,H1,hw2,H3,hw4,H5,hc12,hnj,H6];repeat first | exact kk | refine aK ?_) ?_
   refine Br ?_ ?_<;>intro h85
   ·refine B3 (fun K kk=>by simp[go_sem,H1,hw2,H3,hw4,H5,hc12,hnj,H6];exact kk) ?_
    refine Bz (Fj ?_);simp[go_sem,H1,hw2,H3,hw4,H5,hc12,hnj,H6]
    exact⟨([],8),by rfl,⟨Ae _,fun r h=>(by cases h),fun h=>absurd h (by decide),fun r h=>(by cases h),by decide⟩⟩
   refine Bp ?_
   have hw7:=Dx (y1.2+2:Int)
   obtain⟨e8,H8⟩:=gx l ((y1.2+2).toNat)
   obtain⟨e9,H9⟩:=gx l ((y1.2+3).toNat)
   refine Cy (fun K kk=>by simp[go_sem,H1,hw2,H3,hw4,H5,hc12,hnj,H6,hw7,H8,H9];(repeat refine aK ?_);refine .l (Zb e3 e5 e8 e9 now) ?_;simp[go_sem,H1,hw2,H3,hw4,H5,hc12,hnj,H6,hw7,H8,H9];exact kk)<|.seq ?_
   refine B3 (fun K kk=>by simp[go_sem,H1,hw2,H3,hw4,H5,hc12,hnj,H6,hw7,H8,H9];exact kk) ?_
   refine Br ?_ ?_<;>intro h104
   ·refine B3 (fun K kk=>by simp[go_sem,H1,hw2,H3,hw4,H5,hc12,hnj,H6,hw7,H8,H9];exact kk) ?_
    refine Bz (Fj ?_);simp[go_sem,H1,hw2,H3,hw4,H5,hc12,hnj,H6,hw7,H8,H9]
    exact⟨([],8),by rfl,⟨Ae _,fun r h=>(by cases h),fun h=>absurd h (by decide),fun r h=>(by cases h),by decide⟩⟩
   refine Bp<|.S1 (fun K kk=>by simp[go_sem,H1,hw2,H3,hw4,H5,hc12,hnj,H6,hw7,H8,H9];repeat first | exact kk | refine aK ?_) ?_
   have hw10:=Dx (y1.2+4:Int)
   refine Ck (fun K kk=>by simp[go_sem,H1,hw2,H3,hw4,H5,hc12,hnj,H6,hw7,H8,H9,hw10];exact kk) ?_
   refine⟨(y1.1++([(Nv e3 e5 e8 e9 now).1]),(y1.2+4)),?_,?_,wQ [0,1,2,3] ?_ ?_⟩
   ·omega
   ·exact⟨by dsimp only;omega,by simp;omega,by dsimp only;omega⟩
   all_goals simp[go_sem,H1,hw2,H3,hw4,H5,hc12,hnj,H6,hw7,H8,H9,hw10]
  have hnj:(cfg.juns.length:Int)<=e3:=by omega
  have h0e:=hn e3 (Ac H3)
  have h0f:=hn e5 (Ac H5)
  refine B3 (fun K kk=>by simp[go_sem,H1,hw2,H3,hw4,H5,hc12,hnj];repeat first | exact kk | refine aK ?_) ?_
  refine Cs ?_ ?_<;>intro h85<;>simp[go_sem] at h85
  refine B3 (fun K kk=>by simp[go_sem,H1,hw2,H3,hw4,H5,hc12,hnj];exact kk) ?_
  refine Bz (Fj ?_);simp[go_sem,H1,hw2,H3,hw4,H5,hc12,hnj]
  exact⟨([],8),by rfl,⟨Ae _,fun r h=>(by cases h),fun h=>absurd h (by decide),fun r h=>(by cases h),by decide⟩⟩
 refine Bu<|.Z (Fa H1 hw2) 3 ?_
 obtain⟨e11,H11⟩:=gx l 0
 obtain⟨e12,H12⟩:=gx l 2
 refine Db (Tf H1 hw2 H11 H12) (Acm x.reqs x.reg.ag.rq e11 (Y1.1) e12 y1.1 now hd.reqs hd.b.legs (by omega) hd.rq) ?_
 exact .ret (fin (Tf H1 hw2 H11 H12) ((Fw x.reqs x.reg.ag.rq e11 (Y1.1) e12 y1.1 now hd.reqs hd.b.legs (by omega) hd.rq).1,(Fw x.reqs x.reg.ag.rq e11 (Y1.1) e12 y1.1 now hd.reqs hd.b.legs (by omega) hd.rq).2) (by have h:=(Acw x.reqs x.reg.ag.rq e11 Y1.1 e12 y1.1 now hd.reqs hd.b.legs (by omega) hd.rq).2;exact⟨h.1,h.2.1,fun e=>(by have:=h.2.2.1 e;dsimp only;omega),h.2.2.2.1 hd.rk,h.2.2.2.2⟩))
section
variable (cfg:E5) (x:Dy) (m:Ea) (slot:Int) (now:Int) (hd:Gg x) (h1:1<=m.args.length) (k6:m.kind=6->3<=m.args.length) (hl2:m.args.length<=1000) (hn:∀a∈m.args,0<=a) (s0:0<=slot) (s1:slot<x.reg.toks.length)
include cfg now hd h1 k6 hl2 hn s0 s1
theorem Zx:Ct 190 [cfg.g,x.g,m.g,.li slot,.li now] (fun d:List Ew×Int=>.tup [.mReq d.1,.li d.2]) (fun d=>d.1.length<=3/\(∀r∈d.1,r.legs.length<=1000000)/\(d.2=0->(d.1.length:Int)<=max 0 x.reg.ag.rq)/\(∀r∈d.1,Zs r)/\0<=d.2/\d.2<=99):=by
 refine Ex Tryz.func190 ?_
 refine Bq ?_
 obtain⟨e1,H1⟩:=gx m.args 0
 refine Bt H1<|.seq ?_
 refine Bt H1<|.block ?_
 refine Bt H1 ?_
 refine Cs ?_ ?_<;>intro h21<;>simp[go_sem] at h21
 obtain⟨Y1,cY1,qY1⟩:=Ep (Aif cfg x m.args slot now hd (k6 h21) hl2 hn s0 s1)
 ·refine B8 H1 cY1 ?_
  exact .ret (fin H1 (Y1.1,Y1.2) qY1)
 refine Bt H1 ?_
 refine Br ?_ ?_<;>intro h32
 ·refine Bt H1<|.seq ?_
  refine Bt H1<|.block ?_
  refine Cg 13 122 2 (by decide) (k':=2) (by simp[go_sem]) ?_
  simp[go_sem,-Prod.exists]
  refine Cj (fun (y1:(List (Int×Int))×Int)=>⟨[(4,.li now),(6,.ptr 0 0),(7,.ptr 1 0),(12,.li e1),(13,.own 2 y1.1.length),(14,.li y1.2)],[.box 70 (x.a false),.box 56 (m.a false),.row 122 2 false false (Agm y1.1)]⟩) (fun y1=>1<=y1.2/\y1.1.length<=y1.2/\y1.2<=2000) (fun y1=>(m.args.length - y1.2).toNat) ([],1) (wk H1 [1,2,3]) (⟨by omega,by simp,by dsimp only;omega⟩) fun y1 hy1=>?_
  refine Ca ?_
  have hw2:=Dx (y1.2+1:Int)
  refine Bt (Fa H1 hw2) ?_
  refine Br ?_ ?_<;>intro h39
  ·refine Bp<|.seq<|.block ?_
   obtain⟨e3,H3⟩:=gx m.args y1.2.toNat
   obtain⟨e4,H4⟩:=gx m.args ((y1.2+1).toNat)
   refine VX.G1 (Tf H1 hw2 H3 H4) ?_
   have hw5:=Dx (y1.2+2:Int)
   refine B0 (X9 H1 hw2 H3 H4 hw5) ?_
   refine⟨(y1.1++([(e3,e4)]),(y1.2+2)),?_,?_,wQ [0,1,2] ?_ ?_⟩
   ·omega
   ·exact⟨by dsimp only;omega,by simp;omega,by dsimp only;omega⟩
   all_goals simp[go_sem,H1,hw2,H3,H4,hw5]
  refine Bu<|.Z (Fa H1 hw2) 2 ?_
  obtain⟨Y2,cY2,qY2⟩:=Ep (Ab5 x.reqs e1 y1.1 now hd.reqs hd.b.legs (by omega))
  refine B8 (Fa H1 hw2) cY2 ?_
  exact .ret (fin (Fa H1 hw2) (Y2.1,Y2.2) (by have h:=qY2;have:=hd.rl;exact⟨h.1,h.2.1,fun _=>(by have:=h.2.2.1;dsimp only;omega),h.2.2.2.1 hd.rk,h.2.2.2.2⟩))
 obtain⟨Y3,cY3,qY3⟩:=Ep (Acb x.reqs e1 hd.b.reqs hd.b.legs)
 refine Bp<|.L H1 cY3 ?_
 exact .ret (fin H1 (Y3.1,Y3.2) (by have hq:=qY3;have:=hd.rl;exact⟨Ak hq.1 hd.reqs,hq.2.1,fun _=>(by have:=hq.1;dsimp only;omega),hq.2.2.1 hd.rk,hq.2.2.2⟩))
def Ia:List Ew×Int:=(Ep (Zx cfg x m slot now hd h1 k6 hl2 hn s0 s1)).choose
theorem Aqj:PP 190 [] [cfg.g,x.g,m.g,.li slot,.li now] [] (.tup [.imm false 5 (Hn (Ia cfg x m slot now hd h1 k6 hl2 hn s0 s1).1),.lit (.int .i64 (Ia cfg x m slot now hd h1 k6 hl2 hn s0 s1).2)]):=(Ep (Zx cfg x m slot now hd h1 k6 hl2 hn s0 s1)).choose_spec.1
theorem Ag3:(Ia cfg x m slot now hd h1 k6 hl2 hn s0 s1).1.length<=3/\(∀r∈(Ia cfg x m slot now hd h1 k6 hl2 hn s0 s1).1,r.legs.length<=1000000)/\((Ia cfg x m slot now hd h1 k6 hl2 hn s0 s1).2=0->((Ia cfg x m slot now hd h1 k6 hl2 hn s0 s1).1.length:Int)<=max 0 x.reg.ag.rq)/\(∀r∈(Ia cfg x m slot now hd h1 k6 hl2 hn s0 s1).1,Zs r)/\0<=(Ia cfg x m slot now hd h1 k6 hl2 hn s0 s1).2/\(Ia cfg x m slot now hd h1 k6 hl2 hn s0 s1).2<=99:=(Ep (Zx cfg x m slot now hd h1 k6 hl2 hn s0 s1)).choose_spec.2
end
end Go.Proofs.YtkkimgjinbaemaaGreat
