/- The walk. -/
import Derived.Test.YtkkimgjinbaemaaGreatKae
noncomputable section
namespace Go.Proofs.YtkkimgjinbaemaaGreat
open Go.RowKit
set_option linter.unusedVariables false
set_option linter.unusedSimpArgs false
set_option linter.defProp false
set_option linter.unusedSectionVars false
set_option maxRecDepth 100000
set_option maxHeartbeats 4000000
def Nb (s:F3) (c:E7):Int:=if c.ph<0\/(s.ended.length:Int)<=c.ph then -1 else (s.ended[c.ph.toNat]?).getD 0
def Pw (n d:Int):Int :=
 if d=0 then 0
 else if n.tmod d≠0/\(decide (n<0) != decide (d<0))=true then IntKind.i64.wrap (IntKind.i64.wrap (n.tdiv d) - 1) else IntKind.i64.wrap (n.tdiv d)
def Rx (s:F3) (c:E7):Int:=if Nb s c > c.si then Nb s c else c.si
def Aj0 (cap per:Int) (s:F3) (c:E7) (now:Int):Int :=
 if IntKind.i64.wrap (c.cls+Pw (IntKind.i64.wrap (now - Rx s c)) per)<cap then IntKind.i64.wrap (c.cls+Pw (IntKind.i64.wrap (now - Rx s c)) per) else cap
def Z3 (lock:Int) (s:F3) (c:E7) (now:Int):Bool:=!Oi c&&(Nb s c != -1)&&decide (IntKind.i64.wrap (now - Nb s c)<=lock)
theorem Zo (s:F3) (c:E7):PP 216 [] [s.g,c.g] [] (.li (Nb s c)):=by
 refine Ei Tryz.func216 ?_
 refine Bw<|.seq ?_
 refine Bw ?_
 refine B7 ?_ ?_<;>intro h15
 ·refine Bw ?_
  refine B6 ?_
  first
   | (simp[go_sem,Nb,h15];done)
   | (simp[go_sem,Nb, *];done)
   | (simp[go_sem];unfold Nb;(repeat' split)<;>first | (simp_all;done) | (simp_all;omega) | (simp at *;omega))
 have hx:s.ended[c.ph.toNat]? = some s.ended[c.ph.toNat]:=Aa (by omega)
 generalize s.ended[c.ph.toNat]=e at hx
 refine Bv<|.H hx ?_
 refine B6 ?_
 first
  | (simp[go_sem,Nb,h15];done)
  | (simp[go_sem,Nb, *];done)
  | (simp[go_sem];unfold Nb;(repeat' split)<;>first | (simp_all;done) | (simp_all;omega))
theorem Ade (n d:Int):PP 246 [] [.li n,.li d] [] (.li (Pw n d)):=by
 refine Ei Tryz.func246 ?_
 refine Bw<|.seq ?_
 refine Bw ?_
 refine B7 ?_ ?_<;>intro h7
 ·refine Bw ?_
  refine B6 ?_
  first
   | (simp[go_sem,Pw,h7];done)
   | (simp[go_sem,Pw, *];done)
   | (simp[go_sem];unfold Pw;(repeat' split)<;>first | (simp_all;done) | (simp_all;omega) | (simp at *;omega))
 refine Bv<|.H Dy<|.seq ?_
 refine VW.H Dy ?_
 refine B7 ?_ ?_<;>intro h21
 ·refine Cm ?_
  refine Bw ?_
  refine B6 ?_
  first
   | (simp[go_sem,Pw,h7,h21];done)
   | (simp[go_sem,Pw, *];done)
   | (simp[go_sem];unfold Pw;(repeat' split)<;>first | (simp_all;done) | (simp_all;omega) | (simp at *;omega))
 refine Bv<|.R ?_
 refine B6 ?_
 first
  | (simp[go_sem,Pw,h7,h21];done)
  | (simp[go_sem,Pw, *];done)
  | (simp[go_sem];unfold Pw;(repeat' split)<;>(simp_all;done))
theorem M6 (s:F3) (c:E7):PP 218 [] [s.g,c.g] [] (.li (Rx s c)):=by
 refine Ei Tryz.func218 ?_
 refine Bw ?_
 refine VW.M Dy (Zo s c) ?_
 refine B6 ?_
 simp[go_sem,Rx]
theorem Zp (g:Fc) (s:F3) (c:E7) (now:Int):PP 217 [] [g.g,s.g,c.g,.li now] [] (.li (Aj0 g.cap g.per s c now)):=by
 refine Ei Tryz.func217 ?_
 refine Bw ?_
 refine VW.E (fun K kk=>by simp[go_sem];refine .l (M6 s c) ?_;simp[go_sem];refine .lo (Ade _ _) rfl (by simp) ?_;simp[go_sem];exact kk) ?_
 refine B6 ?_
 simp[go_sem,Aj0]
theorem Ag6 (g:Fc) (s:F3) (c:E7) (now:Int):PP 199 [] [g.g,s.g,c.g,.li now] [] (.lb (Z3 g.lock s c now)):=by
 refine Ei Tryz.func199 ?_
 refine Bw ?_
 refine Di Dy (Zo s c) ?_
 refine Di Dy (Ji c) ?_
 refine B6 ?_
 simp[go_sem,Z3]
def Yz (cap per:Int) (s:F3) (now:Int) (u:Bool) (c:E7):Int:=if u then c.cls else Aj0 cap per s c now
def Hc (cap per:Int) (s:F3) (now:Int) (a b:E7):Bool :=
 if Oi a != Oi b then Oi a
 else if Yz cap per s now (Oi a) a≠Yz cap per s now (Oi a) b then decide (Yz cap per s now (Oi a) b<Yz cap per s now (Oi a) a)
 else if Rx s a≠Rx s b then decide (Rx s a<Rx s b)
 else if a.ag≠b.ag then decide (a.ag<b.ag) else decide (a.id<b.id)
theorem Aca (g:Fc) (s:F3) (now:Int) (a b:E7):PP 200 [] [g.g,s.g,.li now,a.g,b.g] [] (.lb (Hc g.cap g.per s now a b)):=by
 refine Ei Tryz.func200 ?_
 refine Bw ?_
 refine Di Dy (Ji a)<|.seq ?_
 refine Di Dy (Ji b) ?_
 refine B7 ?_ ?_<;>intro h21
 ·refine Bw ?_
  refine B6 ?_
  first
   | (simp[go_sem,Hc,Yz,h21];done)
   | (simp[go_sem,Hc,Yz, *];done)
   | (simp[go_sem];unfold Hc Yz;(repeat' split)<;>first | (simp_all;done) | (simp_all;omega) | (simp at *;omega))
 refine Bv<|.D<|.seq ?_
 refine Bw ?_
 refine B7 ?_ ?_<;>intro h28
 ·refine VW.E1 (fun K kk=>by simp[go_sem];refine .l (Zp g s a now) ?_;simp[go_sem];refine .l (Zp g s b now) ?_;simp[go_sem];exact kk)<|.seq ?_
  refine Bw ?_
  refine B7 ?_ ?_<;>intro h41
  ·refine Bw ?_
   refine B6 ?_
   first
    | (simp[go_sem,Hc,Yz,h21,h28,h41];done)
    | (simp[go_sem,Hc,Yz, *];done)
    | (simp[go_sem];unfold Hc Yz;(repeat' split)<;>(simp_all;done))
  refine Bv<|.E (fun K kk=>by simp[go_sem];refine .l (M6 s a) ?_;simp[go_sem];refine .l (M6 s b) ?_;simp[go_sem];exact kk)<|.seq ?_
  refine Bw ?_
  refine B7 ?_ ?_<;>intro h53
  ·refine Bw ?_
   refine B6 ?_
   first
    | (simp[go_sem,Hc,Yz,h21,h28,h41,h53];done)
    | (simp[go_sem,Hc,Yz, *];done)
    | (simp[go_sem];unfold Hc Yz;(repeat' split)<;>(simp_all;done))
  refine Bv<|.seq<|.R ?_
  refine B7 ?_ ?_<;>intro h61
  ·refine Bw ?_
   refine B6 ?_
   first
    | (simp[go_sem,Hc,Yz,h21,h28,h41,h53,h61];done)
    | (simp[go_sem,Hc,Yz, *];done)
    | (simp[go_sem];unfold Hc Yz;(repeat' split)<;>(simp_all;done))
  refine Bv<|.R ?_
  refine B6 ?_
  first
   | (simp[go_sem,Hc,Yz,h21,h28,h41,h53,h61];done)
   | (simp[go_sem,Hc,Yz, *];done)
   | (simp[go_sem];unfold Hc Yz;(repeat' split)<;>(simp_all;done))
 refine Bv<|.seq<|.R ?_
 refine B7 ?_ ?_<;>intro h41
 ·refine Bw ?_
  refine B6 ?_
  first
   | (simp[go_sem,Hc,Yz,h21,h28,h41];done)
   | (simp[go_sem,Hc,Yz, *];done)
   | (simp[go_sem];unfold Hc Yz;(repeat' split)<;>(simp_all;done))
 refine Bv<|.E (fun K kk=>by simp[go_sem];refine .l (M6 s a) ?_;simp[go_sem];refine .l (M6 s b) ?_;simp[go_sem];exact kk)<|.seq ?_
 refine Bw ?_
 refine B7 ?_ ?_<;>intro h53
 ·refine Bw ?_
  refine B6 ?_
  first
   | (simp[go_sem,Hc,Yz,h21,h28,h41,h53];done)
   | (simp[go_sem,Hc,Yz, *];done)
   | (simp[go_sem];unfold Hc Yz;(repeat' split)<;>(simp_all;done))
 refine Bv<|.seq<|.R ?_
 refine B7 ?_ ?_<;>intro h61
 ·refine Bw ?_
  refine B6 ?_
  first
   | (simp[go_sem,Hc,Yz,h21,h28,h41,h53,h61];done)
   | (simp[go_sem,Hc,Yz, *];done)
   | (simp[go_sem];unfold Hc Yz;(repeat' split)<;>(simp_all;done))
 refine Bv<|.R ?_
 refine B6 ?_
 first
  | (simp[go_sem,Hc,Yz,h21,h28,h41,h53,h61];done)
  | (simp[go_sem,Hc,Yz, *];done)
  | (simp[go_sem];unfold Hc Yz;(repeat' split)<;>(simp_all;done))
def G8 (cap per lock:Int) (s:F3) (now:Int) (l:List E7):Nat->Int
 | 0=>-1
 | i+1=>match l[i]? with
  | none=>G8 cap per lock s now l i
  | some c=>if Z3 lock s c now then G8 cap per lock s now l i
   else if G8 cap per lock s now l i<0 then i
   else match l[(G8 cap per lock s now l i).toNat]? with
    | none=>i
    | some b=>if Hc cap per s now c b then i else G8 cap per lock s now l i
theorem Lo {cap per lock:Int} {s:F3} {now:Int} {l:List E7} {i:Nat} {c:E7} (h:l[i]? = some c):G8 cap per lock s now l (i+1)=if Z3 lock s c now then G8 cap per lock s now l i
 else if G8 cap per lock s now l i<0 then i
  else match l[(G8 cap per lock s now l i).toNat]? with
   | none=>(i:Int)
   | some b=>if Hc cap per s now c b then i else G8 cap per lock s now l i:=by
 simp only[G8,h]
def Aj1 (cap per lock:Int) (s:F3) (now:Int) (l:List E7):Int:=G8 cap per lock s now l l.length
theorem Acm (cap per lock:Int) (s:F3) (now:Int) (l:List E7):∀i,i<=l.length -> -1<=G8 cap per lock s now l i/\G8 cap per lock s now l i<l.length
 | 0,h=>by simp only[G8];omega
 | i+1,h=>by
  have ih:=Acm cap per lock s now l i (by omega)
  simp only[G8]
  repeat' split
  all_goals omega
theorem Acb (g:Fc) (s:F3) (now:Int) (l:List E7) (hl:l.length<=1000000):PP 174 [] [g.g,s.g,.li now,.mClaim l] [] (.li (Aj1 g.cap g.per g.lock s now l)):=by
 refine Ei Tryz.func174 ?_
 refine Bw ?_
 refine Bw<|.seq ?_
 refine Bw<|.block ?_
 refine Cb l.length (fun i1=>⟨[(2,.li now),(3,.mClaim l),(4,.ptr 0 0),(5,.ptr 1 0),(9,.li (G8 g.cap g.per g.lock s now l i1)),(12,.mClaim l),(13,.li l.length),(14,.li i1)],[.box 30 (g.a false),.box 138 (s.a false)]⟩) (wQ [0,1] ?_ ?_) fun i1 hi1=>?_
 ·simp[go_sem,G8]
 ·simp[go_sem,G8]
 refine Bw<|.seq ?_
 refine B7 ?_ ?_<;>intro h15
 ·have hx:l[i1]? = some l[i1]:=Aa h15
  generalize l[i1]=c at hx
  refine Bv<|.seq<|.block<|.H hx<|.seq ?_
  refine Di hx (Ag6 g s c now) ?_
  refine B7 ?_ ?_<;>intro h23
  ·refine B5<|.R1 ?_
   refine⟨by omega,wQ [0,1] ?_ ?_⟩
   ·simp[go_sem,Dw ((i1:Int)+1),Lo hx,h15,h23]
   simp[go_sem]
  refine Bv ?_
  have hbt:=Acm g.cap g.per g.lock s now l i1 hi1
  have hsu:=Lo (cap:=g.cap) (per:=g.per) (lock:=g.lock) (s:=s) (now:=now) hx
  generalize hB:G8 g.cap g.per g.lock s now l i1=B at *
  rcases (by omega:B<0\/0<=B) with hy | hb
  ·refine VW.draw_seq (by kernel_rfl) (by rfl) (by kernel_rfl) fun K1 hK1=>?_
   simp[go_sem,hx,hy]
   repeat' with_reducible refine Ax ?_ ?_
   all_goals try (intros;(repeat' refine Ax ?_ ?_)<;>omega)
   refine Oq (by simp[go_sem]) (by simp[go_sem]) ?_
   simp[go_sem,hx,hy]
   first | refine .lo (Aca g s now c y) rfl (by simp) ?_ | refine .skip ?_
   simp[go_sem,hx,hy]
   refine hK1 _ _ (by kernel_rfl) ?_;clear hK1
   refine C8 ?_ ?_<;>intro h36<;>simp[go_sem] at h36
   try (simp only[hnb,false_or] at h36)
   refine Cm ?_
   refine Cm ?_
   refine⟨by omega,wQ [0,1] ?_ ?_⟩
   ·simp[go_sem,Dw ((i1:Int)+1),Lo hx,hB,hy,h15,h23,h36]
   simp[go_sem]
  have hnb:¬B<0:=by omega
  have hy:l[B.toNat]? = some l[B.toNat]:=Aa (by omega)
  generalize l[B.toNat]=y at hy
  refine VW.draw_seq (by kernel_rfl) (by rfl) (by kernel_rfl) fun K1 hK1=>?_
  simp[go_sem,hx,hy]
  repeat' with_reducible refine Ax ?_ ?_
  all_goals try (intros;(repeat' refine Ax ?_ ?_)<;>omega)
  refine Oq (by simp[go_sem]) (by simp[go_sem]) ?_
  simp[go_sem,hx,hy]
  refine .lo (Aca g s now c y) rfl (by simp) ?_
  simp[go_sem,hx,hy]
  refine hK1 _ _ (by kernel_rfl) ?_;clear hK1
  refine B7 ?_ ?_<;>intro h36
  ·try (simp only[hnb,false_or] at h36)
   refine Cm ?_
   refine Cm ?_
   refine⟨by omega,wQ [0,1] ?_ ?_⟩
   ·simp[go_sem,Dw ((i1:Int)+1),Lo hx,hB,hy,hnb,h15,h23,h36]
   simp[go_sem]
  refine Bv<|.R1 ?_
  refine⟨by omega,wQ [0,1] ?_ ?_⟩
  ·simp[go_sem,Dw ((i1:Int)+1),Lo hx,hB,hy,hnb,h15,h23,h36]
  simp[go_sem]
 have he:i1=l.length:=by omega
 subst he
 refine B5<|.R ?_
 refine B6 ?_
 first
  | (simp[go_sem,Aj1,h15];done)
  | (simp[go_sem,Aj1, *];done)
  | (simp[go_sem];unfold Aj1;(repeat' split)<;>first | (simp_all;done) | (simp_all;omega) | (simp at *;omega))
section
variable {ob:List Ob} {t a:Nat} {k:IntKind}
section
variable {P:Program} {n m:Nat} {K:Exit->St->Prop}
theorem VW.slots {sl sl':List (Nat×AV)} {c:Code} (h:∀t,Le (Ez sl t) (Ez sl' t)) (hv:VW P n m c ⟨sl',ob⟩ K):VW P n m c ⟨sl,ob⟩ K:=fun E F hE hF β a w r =>
 hv E F hE hF β a w ⟨r.sz,fun t=>h t _ _ (r.sl t),r.df,r.ob,r.inj,r.rng,r.kp,r.ct,r.kb,r.dk⟩
inductive OrC (n t a:Nat) (k:IntKind):Code->List Int->List Nat->Prop
  | one {id d:Nat} {x:Int} {ty ty1 ty2:TypeId} {p1 p2:String} {a1 a2:Array Edge}:d<n->(d == t)=false->(d == a)=false->OrC n t a k (.region id #[⟨some d,.binOp .eql ty (.tmp a) (.const (.int k x)) ty,ty1,p1,a1,none⟩,⟨some t,.assign (.tmp d),ty2,p2,a2,none⟩] false) [x] [d]
  | more {id d:Nat} {x:Int} {ty ty1 ty2:TypeId} {p1 p2:String} {a1 a2:Array Edge} {X:Code} {xs:List Int} {ds:List Nat}:d<n->(d == t)=false->(d == a)=false->OrC n t a k X xs ds->OrC n t a k (.seq (.region id #[⟨some d,.binOp .eql ty (.tmp a) (.const (.int k x)) ty,ty1,p1,a1,none⟩,⟨some t,.assign (.tmp d),ty2,p2,a2,none⟩] false) (.cond (.tmp t) .skip X)) (x::xs) (d::ds)
theorem Auj {v:Int} (ht:t<n) (hta:(t == a)=false):∀{X:Code} {xs:List Int} {ds:List Nat},OrC n t a k X xs ds->∀(sl:List (Nat×AV)) (b:Bool),Ez sl t=.lb b->Ez sl a=.lit (.int k v) ->
 (∀sl',(∀u,(∀d∈ds,u≠d)->Le (Ez sl' u) (Ez ((t,.lb (b||xs.any fun x=>v == x))::sl) u))->K .normal ⟨sl',ob⟩)->VW P n m (.cond (.tmp t) .skip X) ⟨sl,ob⟩ K:=by
 intro X xs ds h
 induction h with
 | @one id d x ty ty1 ty2 p1 p2 a1 a2 hd hdt hda =>
  intro sl b hb ha hK
  refine .cond (by simp[go_sem,hb]) (by simp[go_sem,hb]) (fun h=>?_) fun h=>?_
  ·simp[go_sem,hb] at h
   refine .skip (hK sl fun u _=>?_)
   simp only[Ez]
   by_cases e:t=u
   ·subst e;simp[hb,h,Uu]
   have:(t == u)=false:=by simp[e]
   simp[this,Uu]
  simp[go_sem,hb] at h
  refine VW.region1 (l:=[⟨some d,.binOp .eql ty (.tmp a) (.const (.int k x)) ty,ty1,p1,a1,none⟩,⟨some t,.assign (.tmp d),ty2,p2,a2,none⟩]) (by simp[Ft,ht,hd]) fun K1 hK1=>?_
  simp[go_sem,ha]
  refine hK1 _ (hK _ fun u hu=>?_)
  have hud:(d == u)=false:=by have:=hu d (by simp);simp[Ne.symm this]
  simp only[Ez,hud,cond_false]
  by_cases e:t=u
  ·subst e;simp[h,Uu]
  have:(t == u)=false:=by simp[e]
  simp[this,Uu]
 | @more id d x ty ty1 ty2 p1 p2 a1 a2 X xs ds hd hdt hda _ ih =>
  intro sl b hb ha hK
  refine .cond (by simp[go_sem,hb]) (by simp[go_sem,hb]) (fun h=>?_) fun h=>?_
  ·simp[go_sem,hb] at h
   refine .skip (hK sl fun u _=>?_)
   simp only[Ez]
   by_cases e:t=u
   ·subst e;simp[hb,h,Uu]
   have:(t == u)=false:=by simp[e]
   simp[this,Uu]
  simp[go_sem,hb] at h
  refine Bx (l:=[⟨some d,.binOp .eql ty (.tmp a) (.const (.int k x)) ty,ty1,p1,a1,none⟩,⟨some t,.assign (.tmp d),ty2,p2,a2,none⟩]) (by simp[Ft,ht,hd]) fun K1 hK1=>?_
  simp[go_sem,ha]
  refine hK1 _ (ih _ (v == x) (by simp[Ez]) (by simp[Ez,hta,hda,ha]) fun sl' hsl=>hK sl' fun u hu=>?_)
  have hq:=hsl u fun d' hd'=>hu d' (by simp[hd'])
  have hud:(d == u)=false:=by have:=hu d (by simp);simp[Ne.symm this]
  simp only[Ez,hud,cond_false] at hq ⊢
  by_cases e:t=u
  ·subst e;simpa[h] using hq
  have:(t == u)=false:=by simp[e]
  simpa[this] using hq
theorem VW.orcases1 {v:Int} {sl:List (Nat×AV)} {b:Bool} {X y:Code} {xs:List Int} {ds:List Nat} (h:OrC n t a k X xs ds) (ht:t<n) (hta:(t == a)=false) (hb:Ez sl t=.lb b) (ha:Ez sl a=.lit (.int k v)) (hds:∀d∈ds,Ez ((t,.lb (b||xs.any fun x=>v == x))::sl) d=.any) (hy:VW P n m y ⟨(t,.lb (b||xs.any fun x=>v == x))::sl,ob⟩ K):VW P n m (.cond (.tmp t) .skip X) ⟨sl,ob⟩ (Exit.vthen (fun s=>VW P n m y s K) K) :=
 Auj ht hta h sl b hb ha fun sl' hsl=>.slots (fun u=>by
  by_cases hu:u∈ds
  ·rw[hds u hu];exact Le.any _
  exact hsl u fun d hd e=>hu (e▸hd)) hy
abbrev Dq:=@VW.orcases1
end
end
def Gg (k:Int):Int :=
 if k=6\/k=7\/k=8 then 1 else if k=4\/k=5 then 2 else if k=2 then 4 else if k=3 then 8 else if k=10 then 16 else if k=11 then 32 else 0
def Aig (r k:Int):Bool:=Xf r&&(Ex .and .i64 r (Gg k) == Gg k)
theorem Ada (k:Int):PP 251 [] [.li k] [] (.li (Gg k)):=by
 refine Ei Tryz.func251 ?_
 refine Bw<|.seq ?_
 refine Bw<|.block<|.seq ?_
 refine Bw ?_
 refine Dq (.more (by decide) rfl rfl (.one (by decide) rfl rfl)) (by decide) rfl (by simp[go_sem];rfl) (by simp[go_sem];rfl) (by simp[go_sem]) ?_
 refine B7 ?_ ?_<;>intro h4
 ·refine Bw ?_
  refine B6 ?_
  first
   | (simp[go_sem,Gg,h4];done)
   | (simp[go_sem,Gg, *];done)
   | (simp[go_sem];unfold Gg;(repeat' split)<;>first | (simp_all;done) | (simp_all;omega) | (simp at *;omega))
 refine Du<|.R ?_
 refine Dq (.one (by decide) rfl rfl) (by decide) rfl (by simp[go_sem];rfl) (by simp[go_sem];rfl) (by simp[go_sem]) ?_
 refine B7 ?_ ?_<;>intro h8
 ·refine Bw ?_
  refine B6 ?_
  first
   | (simp[go_sem,Gg,h4,h8];done)
   | (simp[go_sem,Gg, *];done)
   | (simp[go_sem];unfold Gg;(repeat' split)<;>first | (simp_all;done) | (simp_all;omega) | (simp at *;omega))
 refine Bw ?_
 refine B7 ?_ ?_<;>intro h11
 ·refine Bw ?_
  refine B6 ?_
  first
   | (simp[go_sem,Gg,h4,h8,h11];done)
   | (simp[go_sem,Gg, *];done)
   | (simp[go_sem];unfold Gg;(repeat' split)<;>first | (simp_all;done) | (simp_all;omega) | (simp at *;omega))
 refine Bw ?_
 refine B7 ?_ ?_<;>intro h13
 ·refine Bw ?_
  refine B6 ?_
  first
   | (simp[go_sem,Gg,h4,h8,h11,h13];done)
   | (simp[go_sem,Gg, *];done)
   | (simp[go_sem];unfold Gg;(repeat' split)<;>first | (simp_all;done) | (simp_all;omega) | (simp at *;omega))
 refine Bw ?_
 refine B7 ?_ ?_<;>intro h15
 ·refine Bw ?_
  refine B6 ?_
  first
   | (simp[go_sem,Gg,h4,h8,h11,h13,h15];done)
   | (simp[go_sem,Gg, *];done)
   | (simp[go_sem];unfold Gg;(repeat' split)<;>first | (simp_all;done) | (simp_all;omega) | (simp at *;omega))
 refine Bw ?_
 refine B7 ?_ ?_<;>intro h17
 ·refine Bw ?_
  refine B6 ?_
  first
   | (simp[go_sem,Gg,h4,h8,h11,h13,h15,h17];done)
   | (simp[go_sem,Gg, *];done)
   | (simp[go_sem];unfold Gg;(repeat' split)<;>first | (simp_all;done) | (simp_all;omega) | (simp at *;omega))
 refine Bv<|.R ?_
 refine B6 ?_
 first
  | (simp[go_sem,Gg,h4,h8,h11,h13,h15,h17];done)
  | (simp[go_sem,Gg, *];done)
  | (simp[go_sem];unfold Gg;(repeat' split)<;>first | (simp_all;done) | (simp_all;omega) | (simp at *;omega))
theorem Aa4 (r k:Int):PP 230 [] [.li r,.li k] [] (.lb (Aig r k)):=by
 refine Ei Tryz.func230 ?_
 refine Bw ?_
 refine Di Dy (Ada k) ?_
 refine Di Dy (M3 r) ?_
 refine B6 ?_
 simp[go_sem,Aig]
def Uc:F6:=⟨false,[],-1,0,0,0⟩
def Al4 (t:F6):Bool:=!t.used&&((t.sec.length:Int) == 0)&&(t.par == -1)&&(t.ri == 0)&&(t.cls == 0)&&(t.unt == 0)
def Aqa (a b:Int):Bool:=(b != 0)&&((a == 0)||decide (b<a))
def Ah5 (t:F6) (now:Int):Bool:=(t.unt != 0)&&decide (t.unt<now)
def Ap9 (t:F6):Bool:=((t.sec.length:Int) == 8)&&Xf t.ri&&decide (0<=t.cls)&&decide (t.cls<=3)&&decide (0<=t.unt)&&decide (t.unt<=2147483648)
theorem T5  : PP 143 [] [] [] (Uc.g):=by
 refine Ei Tryz.func143 ?_
 iterate 2 refine Bw ?_
 refine B6 ?_
 simp[go_sem,Uc]
theorem Aes (t:F6):PP 271 [] [t.g] [] (.lb (Al4 t)):=by
 refine Ei Tryz.func271 ?_
 iterate 2 refine Bw ?_
 refine B6 ?_
 simp[go_sem,Al4]
theorem Sg (a b:Int):PP 273 [] [.li a,.li b] [] (.lb (Aqa a b)):=by
 refine Ei Tryz.func273 ?_
 refine Bw ?_
 refine Cc (fun K kk=>by simp +contextual[go_sem];exact kk) ?_
 refine B6 ?_
 simp[go_sem,Aqa]
theorem U2 (t:F6) (now:Int):PP 185 [] [t.g,.li now] [] (.lb (Ah5 t now)):=by
 refine Ei Tryz.func185 ?_
 iterate 2 refine Bw ?_
 refine B6 ?_
 simp[go_sem,Ah5]
theorem Xx (t:F6):PP 270 [] [t.g] [] (.lb (Ap9 t)):=by
 refine Ei Tryz.func270 ?_
 refine Bw ?_
 refine Bx (by rfl) fun K1 hK1=>?_
 simp[go_sem]
 refine P3 ?_
 simp[go_sem]
 refine .lo (M3 t.ri) rfl (by simp) ?_
 simp[go_sem]
 refine hK1 _ ?_;clear hK1
 refine B6 ?_
 simp[go_sem,Ap9]
def Im (l:List F6) (s:Int):Bool:=decide (0<=s)&&match l[s.toNat]? with
 | some t=>t.used
 | none=>false
theorem P8 (l:List F6) (s:Int):PP 207 [] [.mTok l,.li s] [] (.lb (Im l s)):=by
 refine Ei Tryz.func207 ?_
 refine Bw ?_
 rcases (by omega:s<0\/(0<=s/\(l.length:Int)<=s)\/(0<=s/\s<l.length)) with hs | hs | hs
 ·replace hs:¬0<=s:=by omega
  refine Cc (fun K kk=>by simp[go_sem,hs];repeat first | exact kk | refine aK ?_) ?_
  refine B6 ?_
  first | (simp[go_sem,Im,hs,hx];done) | (simp[go_sem,Im,hs];done)
 ·refine Cc (fun K kk=>by simp[go_sem,hs];repeat first | exact kk | refine aK ?_) ?_
  refine B6 ?_
  first | (simp[go_sem,Im,hs,hx];done) | (simp[go_sem,Im,hs];done)
 have hx:l[s.toNat]? = some l[s.toNat]:=Aa (by omega)
 generalize l[s.toNat]=t at hx
 refine Cc (fun K kk=>by simp[go_sem,hs];repeat first | exact kk | refine aK ?_) ?_
 refine B6 ?_
 (simp[go_sem,Im,hs,hx];done)
section
section
variable {P:Program} {n m:Nat} {st:St} {K:Exit->St->Prop} {c:Code}
theorem VW.rangeI (N:Nat) (f:Nat->St) (Inv:Nat->Prop) (h0:Yb m st (f 0)) (hi0:Inv 0) (round:∀i,i<=N->Inv i->VW P n m c (f i) (Exit.vthen (fun s'=>i<N/\Inv (i+1)/\Yb m s' (f (i+1))) K)):VW P n m (.loop c) st K:=by
 obtain⟨sel,h1,h2⟩:=h0
 refine .loop_w (fun z s=>∃i,i+z=N/\Inv i/\s=f i) ⟨N,sel,f 0,h1,h2,0,by omega,hi0,rfl⟩ ?_
 rintro z s ⟨i,hi,hI,rfl⟩
 refine (round i (by omega) hI).mono fun e s=>?_
 cases e with
 | normal =>
  rintro⟨h3,h6,sel,h4,h5⟩
  exact⟨z - 1,by omega,sel,_,h4,h5,i+1,by omega,h6,rfl⟩
 | _=>exact fun h=>h
abbrev Df:=@VW.rangeI
end
structure Aaq (caps:List AV):Prop where
  ren:∀ρ,Nr ρ caps=caps
  pass:∀o,Jv o caps=caps
  passC:∀o,Jo o caps
  bor:Tm caps=false
  low:J6 caps=caps
def Gs {α:Type} (p:α->Bool):List α->Nat->Int
 | [],_=>-1
 | t::ts,i=>if p t then i else Gs p ts (i+1)
def Hx {α:Type} (p:α->Bool) (l:List α):Int:=Gs p l 0
variable {α:Type}
theorem K9 (p:α->Bool) {l:List α} {i:Nat} {x:α} (h:l[i]? = some x):Gs p (l.drop i) i=if p x then (i:Int) else Gs p (l.drop (i+1)) (i+1):=by
 obtain⟨hi,rfl⟩:=Ab.1 h
 rw[List.drop_eq_getElem_cons hi,Gs]
theorem Mp (p:α->Bool) (l:List α):Gs p (l.drop l.length) l.length = -1:=by simp[Gs]
theorem Rr (l:List F6) (fid:FuncId) (caps:List AV) (p:F6->Bool) (hl:l.length<=1000000) (hc:Aaq caps) (hp:∀t,PP fid [] (t.g::caps) [] (.lb (p t))):PP 274 [] [.mTok l,.fn fid caps] [] (.li (Hx p l)):=by
 refine Ei Tryz.func274 ?_
 refine Bw<|.seq ?_
 refine Bw<|.block ?_
 refine Df l.length (fun i1=>⟨[(0,.mTok l),(1,.fn fid caps),(7,.li l.length),(8,.li i1)],[]⟩) (fun i1=>Hx p l=Gs p (l.drop i1) i1) (wQ [] ?_ ?_) rfl fun i1 hi1 hI=>?_
 ·simp[go_sem,hc.ren]
 ·simp[go_sem,hc.ren]
 refine Bw<|.seq ?_
 refine B7 ?_ ?_<;>intro h9
 ·have hx:l[i1]? = some l[i1]:=Aa h9
  generalize l[i1]=t at hx
  rw[K9 p hx] at hI
  refine Bv<|.seq<|.block<|.R ?_
  refine Cc (fun K kk=>by simp[go_sem,hx,hc.pass,hc.passC,hc.bor,hc.low];(repeat refine aK ?_);refine .lo (hp t) (by simp[go_sem,hc.low]) (by simp) ?_;simp[go_sem,hx,hc.pass,hc.passC,hc.bor,hc.low];exact kk) ?_
  refine B7 ?_ ?_<;>intro h16
  ·rw[if_pos h16] at hI
   refine Bw ?_
   exact .ret (rL hI)
  rw[h16] at hI
  simp only[Bl,if_false] at hI
  refine Bv<|.R1 ?_
  refine⟨by omega,hI,wQ [] ?_ ?_⟩
  ·simp[go_sem,Dw ((i1:Int)+1),hc.ren,h9,h16]
  simp[go_sem]
 have he:i1=l.length:=by omega
 subst he
 rw[Mp] at hI
 refine B5<|.R ?_
 exact .ret (rL hI)
theorem Adk (l:List G0) (fid:FuncId) (caps:List AV) (p:G0->Bool) (hl:l.length<=1000000) (hc:Aaq caps) (hp:∀t,PP fid [] (t.g::caps) [] (.lb (p t))):PP 178 [] [.mLeg l,.fn fid caps] [] (.li (Hx p l)):=by
 refine Ei Tryz.func178 ?_
 refine Bw<|.seq ?_
 refine Bw<|.block ?_
 refine Df l.length (fun i1=>⟨[(0,.mLeg l),(1,.fn fid caps),(7,.li l.length),(8,.li i1)],[]⟩) (fun i1=>Hx p l=Gs p (l.drop i1) i1) (wQ [] ?_ ?_) rfl fun i1 hi1 hI=>?_
 ·simp[go_sem,hc.ren]
 ·simp[go_sem,hc.ren]
 refine Bw<|.seq ?_
 refine B7 ?_ ?_<;>intro h9
 ·have hx:l[i1]? = some l[i1]:=Aa h9
  generalize l[i1]=t at hx
  rw[K9 p hx] at hI
  refine Bv<|.seq<|.block<|.R ?_
  refine Cc (fun K kk=>by simp[go_sem,hx,hc.pass,hc.passC,hc.bor,hc.low];(repeat refine aK ?_);refine .lo (hp t) (by simp[go_sem,hc.low]) (by simp) ?_;simp[go_sem,hx,hc.pass,hc.passC,hc.bor,hc.low];exact kk) ?_
  refine B7 ?_ ?_<;>intro h16
  ·rw[if_pos h16] at hI
   refine Bw ?_
   exact .ret (rL hI)
  rw[h16] at hI
  simp only[Bl,if_false] at hI
  refine Bv<|.R1 ?_
  refine⟨by omega,hI,wQ [] ?_ ?_⟩
  ·simp[go_sem,Dw ((i1:Int)+1),hc.ren,h9,h16]
  simp[go_sem]
 have he:i1=l.length:=by omega
 subst he
 rw[Mp] at hI
 refine B5<|.R ?_
 exact .ret (rL hI)
theorem Zr (l:List E7) (fid:FuncId) (caps:List AV) (p:E7->Bool) (hl:l.length<=1000000) (hc:Aaq caps) (hp:∀t,PP fid [] (t.g::caps) [] (.lb (p t))):PP 215 [] [.mClaim l,.fn fid caps] [] (.li (Hx p l)):=by
 refine Ei Tryz.func215 ?_
 refine Bw<|.seq ?_
 refine Bw<|.block ?_
 refine Df l.length (fun i1=>⟨[(0,.mClaim l),(1,.fn fid caps),(7,.li l.length),(8,.li i1)],[]⟩) (fun i1=>Hx p l=Gs p (l.drop i1) i1) (wQ [] ?_ ?_) rfl fun i1 hi1 hI=>?_
 ·simp[go_sem,hc.ren]
 ·simp[go_sem,hc.ren]
 refine Bw<|.seq ?_
 refine B7 ?_ ?_<;>intro h9
 ·have hx:l[i1]? = some l[i1]:=Aa h9
  generalize l[i1]=t at hx
  rw[K9 p hx] at hI
  refine Bv<|.seq<|.block<|.R ?_
  refine Cc (fun K kk=>by simp[go_sem,hx,hc.pass,hc.passC,hc.bor,hc.low];(repeat refine aK ?_);refine .lo (hp t) (by simp[go_sem,hc.low]) (by simp) ?_;simp[go_sem,hx,hc.pass,hc.passC,hc.bor,hc.low];exact kk) ?_
  refine B7 ?_ ?_<;>intro h16
  ·rw[if_pos h16] at hI
   refine Bw ?_
   exact .ret (rL hI)
  rw[h16] at hI
  simp only[Bl,if_false] at hI
  refine Bv<|.R1 ?_
  refine⟨by omega,hI,wQ [] ?_ ?_⟩
  ·simp[go_sem,Dw ((i1:Int)+1),hc.ren,h9,h16]
  simp[go_sem]
 have he:i1=l.length:=by omega
 subst he
 rw[Mp] at hI
 refine B5<|.R ?_
 exact .ret (rL hI)
theorem Xr (l:List Ew) (fid:FuncId) (caps:List AV) (p:Ew->Bool) (hl:l.length<=1000000) (hc:Aaq caps) (hp:∀t,PP fid [] (t.g::caps) [] (.lb (p t))):PP 267 [] [.mReq l,.fn fid caps] [] (.li (Hx p l)):=by
 refine Ei Tryz.func267 ?_
 refine Bw<|.seq ?_
 refine Bw<|.block ?_
 refine Df l.length (fun i1=>⟨[(0,.mReq l),(1,.fn fid caps),(7,.li l.length),(8,.li i1)],[]⟩) (fun i1=>Hx p l=Gs p (l.drop i1) i1) (wQ [] ?_ ?_) rfl fun i1 hi1 hI=>?_
 ·simp[go_sem,hc.ren]
 ·simp[go_sem,hc.ren]
 refine Bw<|.seq ?_
 refine B7 ?_ ?_<;>intro h9
 ·have hx:l[i1]? = some l[i1]:=Aa h9
  generalize l[i1]=t at hx
  rw[K9 p hx] at hI
  refine Bv<|.seq<|.block<|.R ?_
  refine Cc (fun K kk=>by simp[go_sem,hx,hc.pass,hc.passC,hc.bor,hc.low];(repeat refine aK ?_);refine .lo (hp t) (by simp[go_sem,hc.low]) (by simp) ?_;simp[go_sem,hx,hc.pass,hc.passC,hc.bor,hc.low];exact kk) ?_
  refine B7 ?_ ?_<;>intro h16
  ·rw[if_pos h16] at hI
   refine Bw ?_
   exact .ret (rL hI)
  rw[h16] at hI
  simp only[Bl,if_false] at hI
  refine Bv<|.R1 ?_
  refine⟨by omega,hI,wQ [] ?_ ?_⟩
  ·simp[go_sem,Dw ((i1:Int)+1),hc.ren,h9,h16]
  simp[go_sem]
 have he:i1=l.length:=by omega
 subst he
 rw[Mp] at hI
 refine B5<|.R ?_
 exact .ret (rL hI)
theorem Zq (l:List Fy) (fid:FuncId) (caps:List AV) (p:Fy->Bool) (hl:l.length<=1000000) (hc:Aaq caps) (hp:∀t,PP fid [] (t.g::caps) [] (.lb (p t))):PP 269 [] [.mLight l,.fn fid caps] [] (.li (Hx p l)):=by
 refine Ei Tryz.func269 ?_
 refine Bw<|.seq ?_
 refine Bw<|.block ?_
 refine Df l.length (fun i1=>⟨[(0,.mLight l),(1,.fn fid caps),(7,.li l.length),(8,.li i1)],[]⟩) (fun i1=>Hx p l=Gs p (l.drop i1) i1) (wQ [] ?_ ?_) rfl fun i1 hi1 hI=>?_
 ·simp[go_sem,hc.ren]
 ·simp[go_sem,hc.ren]
 refine Bw<|.seq ?_
 refine B7 ?_ ?_<;>intro h9
 ·have hx:l[i1]? = some l[i1]:=Aa h9
  generalize l[i1]=t at hx
  rw[K9 p hx] at hI
  refine Bv<|.seq<|.block<|.R ?_
  refine Cc (fun K kk=>by simp[go_sem,hx,hc.pass,hc.passC,hc.bor,hc.low];(repeat refine aK ?_);refine .lo (hp t) (by simp[go_sem,hc.low]) (by simp) ?_;simp[go_sem,hx,hc.pass,hc.passC,hc.bor,hc.low];exact kk) ?_
  refine B7 ?_ ?_<;>intro h16
  ·rw[if_pos h16] at hI
   refine Bw ?_
   exact .ret (rL hI)
  rw[h16] at hI
  simp only[Bl,if_false] at hI
  refine Bv<|.R1 ?_
  refine⟨by omega,hI,wQ [] ?_ ?_⟩
  ·simp[go_sem,Dw ((i1:Int)+1),hc.ren,h9,h16]
  simp[go_sem]
 have he:i1=l.length:=by omega
 subst he
 rw[Mp] at hI
 refine B5<|.R ?_
 exact .ret (rL hI)
end
theorem Kn (l:List E7) (fid:FuncId) (caps:List AV) (p:E7->Bool) (hl:l.length<=1000000) (hc:Aaq caps) (hp:∀t,PP fid [] (t.g::caps) [] (.lb (p t))):PP 198 [] [.mClaim l,.fn fid caps] [] (.lb (decide (0<=Hx p l))):=by
 refine Ei Tryz.func198 ?_
 refine Cc (fun K kk=>by simp[go_sem,hc.pass,hc.passC,hc.bor,hc.low];exact kk) ?_
 refine Cc (fun K kk=>by simp[go_sem,hc.pass,hc.passC,hc.bor,hc.low];refine .lo (Zr l fid caps p hl hc hp) (by simp[go_sem,hc.low]) (by simp) ?_;simp[go_sem,hc.pass,hc.passC,hc.bor,hc.low];exact kk) ?_
 exact .ret (rL Dy)
theorem V6 (l:List Fy) (fid:FuncId) (caps:List AV) (p:Fy->Bool) (hl:l.length<=1000000) (hc:Aaq caps) (hp:∀t,PP fid [] (t.g::caps) [] (.lb (p t))):PP 249 [] [.mLight l,.fn fid caps] [] (.lb (decide (0<=Hx p l))):=by
 refine Ei Tryz.func249 ?_
 refine Cc (fun K kk=>by simp[go_sem,hc.pass,hc.passC,hc.bor,hc.low];exact kk) ?_
 refine Cc (fun K kk=>by simp[go_sem,hc.pass,hc.passC,hc.bor,hc.low];refine .lo (Zq l fid caps p hl hc hp) (by simp[go_sem,hc.low]) (by simp) ?_;simp[go_sem,hc.pass,hc.passC,hc.bor,hc.low];exact kk) ?_
 exact .ret (rL Dy)
def Al3 (l:List F6) (at':Int):Int:=match l[at'.toNat]? with
 | some t=>t.par
 | none=>0
def Q1 (l:List F6):Nat->Int->List Int
 | 0,_=>[]
 | n+1,x=>if Im l x then x::Q1 l n (Al3 l x) else []
def Vb (l:List F6) (s:Int):List Int:=Q1 l 8 s
def Adq (l:List F6) (s:Int):Nat->Int
 | 0=>s
 | k+1=>Al3 l (Adq l s k)
theorem Q0 {l:List F6} {s:Int} (h:Im l s=true):0<=s/\∃t,l[s.toNat]? = some t/\t.used=true:=by
 unfold Im at h
 simp only[Ah,decide_eq_true_eq] at h
 refine⟨h.1,?_⟩
 have h2:=h.2
 split at h2
 ·exact⟨_,by assumption,h2⟩
 cases h2
theorem V3 (l:List F6) (slot:Int):Yd Tryz.prog 206 [.iptr false [.li slot] 0,.iptr false [.sl 6 (O5 l)] 0] ((Vb l slot).map fun a=>[.li a]):=by
 refine Aeb Tryz.func206 rfl rfl rfl (by simp[Tryz.ntmps206]) rfl fun yl=>?_
 refine B9 (by rfl) fun K1 hK1=>?_
 simp[go_sem]
 refine hK1 _ ?_;clear hK1
 refine B9 (by rfl) fun K1 hK1=>?_
 simp[go_sem]
 refine hK1 _ ?_;clear hK1
 refine Cy ?_
 refine Dp 8 (fun k=>⟨[(0,.lit (.func (.yield yl) #[] #[])),(1,.iptr false [.li slot] 0),(2,.iptr false [.sl 6 (O5 l)] 0),(4,.li (Adq l slot k)),(6,.li k)],[]⟩) (fun k=>k)
  (fun k=>k<=(Vb l slot).length/\(Vb l slot).drop k=Q1 l (8 - k) (Adq l slot k)) (wQ [] ?_ ?_) ⟨rfl,rfl,by simp,rfl⟩ fun k hk ⟨hI1,hI2⟩=>?_
 ·simp[go_sem,Adq]
 ·simp[go_sem]
 refine B9 (by rfl) fun K1 hK1=>?_
 simp[go_sem]
 refine hK1 _ ?_;clear hK1
 refine C3 ?_
 refine VI.Q ?_ ?_<;>intro h7
 ·have hk8:k<8:=by omega
  have hsub:8 - k=(8 - (k+1))+1:=by omega
  rw[hsub,Q1] at hI2
  refine De ?_
  refine C3 ?_
  refine Cy ?_
  refine C3 ?_
  refine C3 (Dt ?_)
  refine Ut.first 7 (by rfl) fun K1 hK1=>?_
  cases hu:Im l (Adq l slot k) with
  | true =>
   rw[hu,if_pos rfl] at hI2
   obtain⟨h0,t,hx,_⟩:=Q0 hu
   have hlt:=(Ab.1 hx).1
   have hlen:k<(Vb l slot).length:=by
    have:=congrArg List.length hI2
    simp at this
    omega
   have hit:(Vb l slot)[k]? = some (Adq l slot k):=by
    have:=congrArg (fun l=>l[0]?) hI2
    simpa using this
   have hdr:(Vb l slot).drop (k+1)=Q1 l (8 - (k+1)) (Adq l slot (k+1)):=by
    have:=congrArg (List.drop 1) hI2
    rw[List.drop_drop] at this
    simpa[Adq] using this
   simp[go_sem]
   refine .l (P8 l (Adq l slot k)) ?_
   simp[go_sem,hu]
   refine hK1 _ ?_;clear hK1
   refine Ut.yield (vs:=[.li (Adq l slot k)]) (by simp[go_sem]) (by simp[go_sem]) (by decide) (by simp[go_sem]) (by simp[go_sem]) (by simp[go_sem]) (by simp[hit]) (by simp[go_sem]) rfl fun b=>?_
   refine Ut.rest (by rfl) fun K1 hK1=>?_
   cases b with
   | true =>
    simp[go_sem]
    refine hK1 _ ?_;clear hK1
    refine C5 (by simp[go_sem]) (by simp[go_sem]) (fun h17=>?_) (fun h17=>?_)<;>simp[go_sem] at h17
    exact VI.ret ⟨.inr rfl,fun h=>by cases h⟩
   | false =>
    simp[go_sem]
    refine hK1 _ ?_;clear hK1
    refine C5 (by simp[go_sem]) (by simp[go_sem]) (fun h17=>?_) (fun h17=>?_)<;>simp[go_sem] at h17
    refine De ?_
    refine Cs (by rfl) fun K1 hK1=>?_
    simp[go_sem,hx]
    repeat' with_reducible refine Ax ?_ ?_
    all_goals try (intros;(repeat' refine Ax ?_ ?_)<;>omega)
    refine hK1 _ ?_;clear hK1
    refine Cs (by rfl) fun K1 hK1=>?_
    simp[go_sem]
    refine hK1 _ ?_;clear hK1
    refine⟨by omega,rfl,rfl,⟨by omega,hdr⟩,wQ [] ?_ ?_⟩
    ·simp[go_sem,Dw ((k:Int)+1),Adq,Al3,hx]
    simp[go_sem]
  | false =>
   rw[hu,if_neg (by simp)] at hI2
   have hlen:k=(Vb l slot).length:=by
    have:=congrArg List.length hI2
    simp at this
    omega
   simp[go_sem]
   refine .l (P8 l (Adq l slot k)) ?_
   simp[go_sem,hu]
   refine hK1 _ ?_;clear hK1
   refine Ut.noyield (d:=15) rfl (by simp[go_sem]) (by simp[go_sem]) (by decide) ?_
   refine Ut.rest (by rfl) fun K1 hK1=>?_
   simp[go_sem]
   refine hK1 _ ?_;clear hK1
   refine C5 (by simp[go_sem]) (by simp[go_sem]) (fun h17=>?_) (fun h17=>?_)<;>simp[go_sem] at h17
   exact VI.ret ⟨.inr rfl,fun _=>by simp[hlen]⟩
 have hk8:k=8:=by omega
 subst hk8
 refine VI.exit ?_
 have:(Vb l slot).length=8:=by
  have:=congrArg List.length hI2
  simp[Q1] at this
  omega
 exact⟨.inl rfl,fun _=>by simp[this]⟩
theorem Rp (l:List F6) (slot:Int):PP 184 [] [.mTok l,.li slot] [] (.fn 206 [.iptr false [.li slot] 0,.iptr false [.sl 6 (O5 l)] 0]):=by
 refine Ey.boxes (σr:=[.box 61 [.mTok l],.box 3 [.li slot]]) (res:=.fn 206 [.ptr 1 0,.ptr 0 0]) ?_ (by simp[go_sem,St.o])
 refine Ei Tryz.func184 ?_
 iterate 2 refine Bw ?_
 exact .ret (rW Dy [0,1])
section
variable {β:Nat->Option Nat} {sl:List (Nat×AV)} {K:Exit->St->Prop} {ps:List Tmp} {asg:Code} {body:Code} {gf:FuncId} {caps:List AV} {items:List (List AV)} {n m:Nat}
section
variable {P:Program}
theorem Eo.rebase {E:Gi} {st:St} {a:Act} {w:World} (r:Eo E β st a w) {l:Nat} {o o':Obj} (hl:E.kb l=some o) (ho':Abn o'=false) (hld:l∉E.ds) (hlt:l<E.w0.heap.size) :
 Eo { E with w0:=E.w0.putObj l o',kb:=fun b=>if b=l then some o' else E.kb b } β st a (w.putObj l o'):=by
 obtain⟨hlw,hlo⟩:=r.kb l o hl
 have hltw:l<w.heap.size:=(Aw.1 hlw).1
 have hsz:(w.putObj l o').heap.size=w.heap.size:=by simp[World.putObj]
 have hsz0:(E.w0.putObj l o').heap.size=E.w0.heap.size:=by simp[World.putObj]
 have hfar:∀b,b≠l->(w.putObj l o').heap[b]? = w.heap[b]?:=fun b hb=>World.putObj_heap_other hb
 have hcell:∀b cur ty fz,w.heap[b]? = some (.cells cur ty fz)->b≠l:=fun b cur ty fz h e=>by
  subst e
  rw[h] at hlw
  rw[show o=.cells cur ty fz from (Option.some.inj hlw).symm] at hlo
  cases hlo
 have hC:({ E with w0:=E.w0.putObj l o',kb:=fun b=>if b=l then some o' else E.kb b }:Gi).C β st (w.putObj l o')=E.C β st (w.putObj l o'):=by
  show VC.mk _ _ _ _ _ _ _=VC.mk _ _ _ _ _ _ _
  rw[hsz0]
  rfl
 have s:W4 (E.C β st w) (E.C β st (w.putObj l o')) :=
  ⟨rfl,fun _ h=>h,fun _ h=>h,fun _ h=>h,Nat.le_of_eq hsz.symm,fun b _ h=>h,fun b cur ty fz _ _ h=>(hfar b (hcell b _ _ _ h)).trans h,fun id ty cs h=>⟨⟨cs,h⟩,rfl⟩,fun id ty k fr fz es h=>⟨fr,fz,es,h,Aj _,fun _=>⟨rfl,fun b cur hb hc=>⟨cur,(hfar b (hcell b _ _ _ hc)).trans hc,rfl⟩⟩⟩⟩
 refine⟨r.sz,fun t=>by rw[hC];exact (r.sl t).stepW s,r.df,fun id=>?_,r.inj,fun i b hi hb=>?_,?_,?_,fun b o h=>?_,r.dk.1,fun D hD=>?_⟩
 ·rw[hC]
  have hr:=r.ob id
  cases hq:st.o id with
  | gone=>trivial
  | box ty cs =>
   rw[hq] at hr
   refine hr.stepW s rfl fun b hb=>?_
   obtain⟨b',cur,q1,q2,_⟩:=hr
   have q1:β id=some b':=q1
   have hb:β id=some b:=hb
   rw[hb] at q1
   injection q1 with q1
   subst q1
   exact hfar b (hcell b _ _ _ q2)
  | row ty k fr fz es =>
   rw[hq] at hr
   refine hr.stepW s rfl fun b hb=>?_
   have h2:=hr.2
   rw[hb] at h2
   obtain⟨cur,c,q2,_⟩:=h2
   exact hfar b (hcell b _ _ _ q2)
 ·have:=r.rng i b hi hb
  refine⟨by rw[hsz];exact this.1,?_⟩
  show (E.w0.putObj l o').heap.size<=b\/E.M b
  rw[hsz0]
  exact this.2
 ·have h:=r.kp
  refine⟨h.os,h.tape,h.output,?_,fun b hb hm=>?_⟩
  ·show (E.w0.putObj l o').heap.size<=(w.putObj l o').heap.size
   rw[hsz,hsz0];exact h.size
  have hb:b<(E.w0.putObj l o').heap.size:=hb
  rw[hsz0] at hb
  show (w.putObj l o').heap[b]? = (E.w0.putObj l o').heap[b]?
  by_cases e:b=l
  ·rw[e,World.putObj_heap_same hltw,World.putObj_heap_same hlt]
  rw[hfar b e,World.putObj_heap_other e]
  exact h.block b hb hm
 ·rw[hC]
  have hct:=r.ct.stepW s
  refine⟨hct.box,fun id ty k fr fz es h=>?_⟩
  obtain⟨fr',fz',es',h1,h2,h3⟩:=hct.row id ty k fr fz es h
  refine⟨fr',fz',es',h1,h2,fun e=>?_⟩
  obtain⟨h4,h5⟩:=h3 e
  refine⟨h4,fun b cur hb hc=>?_⟩
  have hc:(E.w0.putObj l o').heap[b]? = some (.cells cur ty (0,0)):=hc
  by_cases e1:b=l
  ·rw[e1,World.putObj_heap_same hlt] at hc
   injection hc with hc
   rw[hc] at ho'
   cases ho'
  rw[World.putObj_heap_other e1] at hc
  exact h5 b cur hb hc
 ·have h:(if b=l then some o' else E.kb b)=some o:=h
  by_cases e:b=l
  ·rw[if_pos e] at h
   injection h with h
   subst h
   rw[e]
   exact⟨World.putObj_heap_same hltw,ho'⟩
  rw[if_neg e] at h
  exact⟨(hfar b e).trans (r.kb b o h).1,(r.kb b o h).2⟩
 have:=r.dk.2 D hD
 refine⟨?_,?_⟩
 ·show (if D=l then some o' else E.kb D)=_
  rw[if_neg fun e=>hld (by rw[<- e];exact hD)]
  exact this.1
 show (E.w0.putObj l o').heap.size<=D
 rw[hsz0];exact this.2
theorem Aow {n:Nat} (hit:Yd P gf caps items) (f:Nat->List Ob) (hlive:∀i id,(St.mk sl (f i)).o id≠.gone->((St.mk sl (f i)).o id).live) (hps:∀p∈ps,p<n) (sA:Nat->List AV->St) (hcl:∀vs∈items,vs.length=ps.length/\Nr (fun _=>none) vs=vs) (Inv:Nat->Prop) (hI0:Inv 0) (hasg:∀i vs,items[i]? = some vs->Inv i->VW P n (f i).length asg ⟨Sn ps vs sl,f i⟩ (fun e s=>e=.normal/\s=sA i vs)) (hround:∀i vs,items[i]? = some vs->Inv i->VW P n (f i).length body (sA i vs) (Jp (f i).length sl (f (i+1)) (Inv (i+1)) K)) (hdone:Inv items.length->K .normal ⟨sl,f items.length⟩) {E E1:Gi} {F:Fence} (hF:FOk E F) (hle:Hj E E1) (hn:E.n=n) {a:Act} {W:World} (r:Eo E1 β ⟨sl,f 0⟩ a W) {lb:Array Value} (hlb:Ea (E1.C β ⟨sl,f 0⟩ W) (.fn gf caps) (.func (.func gf) #[] lb)) {l:Nat} {rec:LoopState->Option Code->Loop} {fn:FuncId} {dd:Nat} (hrec:rec=fun st pe=>{ state:=st,pending:=pe,fn:=fn,tmps:=a.tmps,params:=ps.toArray,assign:=asg,body:=body,defers:=dd }) (hkl:E1.kb l=some (.loop (rec .ready none))) (hld:l∉E1.ds) (hlge:E1.w0.heap.size<=l) (hEl:E.kb l=none) :
  Calls P gf (#[.func (.yield l) #[] #[]]++lb) W fun e w3=>∃v,e=.returned v/\∃jump w4,(Instr.endLoop l).run P w3=.ok jump w4/\(match jump with
   | none=>Agk E K .normal a w4
   | some c=>c.wpIn F 0 P (Agk E K) a w4):=by
 have hn1:E1.n=n:=by obtain⟨⟨ds,kb,rfl⟩,_⟩:=hle;exact hn
 let up:Obj->Gi:=fun o=>{ E1 with kb:=fun b=>if b=l then some o else E1.kb b }
 have hup:up (.loop (rec .ready none))=E1:=by
  show ({ E1 with kb:=fun b=>if b=l then some (.loop (rec .ready none)) else E1.kb b }:Gi)=E1
  have:(fun b=>if b=l then some (Obj.loop (rec .ready none)) else E1.kb b)=E1.kb:=funext fun b=>by
   by_cases e:b=l
   ·rw[if_pos e,e,hkl]
   rw[if_neg e]
  rw[this]
 have hupup:∀o o',({ up o with kb:=fun b=>if b=l then some o' else (up o).kb b }:Gi)=up o':=fun o o'=>by
  show ({ E1 with kb:=_ }:Gi)={ E1 with kb:=_ }
  have:(fun b=>if b=l then some o' else (if b=l then some o else E1.kb b))=fun b=>if b=l then some o' else E1.kb b:=funext fun b=>by
   by_cases e:b=l
   ·rw[if_pos e,if_pos e]
   rw[if_neg e,if_neg e,if_neg e]
  rw[<- this]
 have hupl:∀o,(up o).kb l=some o:=fun o=>if_pos rfl
 have hupE:∀o,Hj E (up o):=fun o=>by
  obtain⟨⟨ds,kb,rfl⟩,h2⟩:=hle
  refine⟨⟨ds,_,rfl⟩,fun b o' h=>?_⟩
  show (if b=l then some o else _)=some o'
  rw[if_neg fun e=>by subst e;rw[hEl] at h;cases h]
  exact h2 b o' h
 have hput:∀{o:Obj} {β:Nat->Option Nat} {s:St} {W1:World} (o':Obj),Abn o'=false->Eo (up o) β s a W1->Eo (up o') β s a (W1.putObj l o'):=fun {o β s W1} o' ho' h=>by
  have:=h.putK (o:=o) (o':=o') (hupl o) ho' hld hlge
  rw[hupup] at this
  exact this
 let J:Nat->Bool->(Nat->Prop)->World->Prop:=fun i s L W'=>match s with
  | false=>Inv i/\∃β',Eo (up (.loop (rec .ready none))) β' ⟨sl,f i⟩ a W'/\(∀b,L b<->(E1.C β' ⟨sl,f i⟩ W').lives b)
  | true=>∃c e ob' β',Aze c e/\K e ⟨sl,ob'⟩/\Eo (up (.loop (rec .done (some c)))) β' ⟨sl,ob'⟩ a W'/\(∀b,L b<->(E1.C β' ⟨sl,ob'⟩ W').lives b)
 have h:=hit.2 (E1.C β ⟨sl,f 0⟩ W) lb W (Aj _) (fun _ _=>rfl) hlb l (fun b=>(E1.C β ⟨sl,f 0⟩ W).lives b) J (fun b ⟨id,h1,h2⟩=>(r.rng id b (fun e=>by have h2:((St.mk sl (f 0)).o id).live:=h2;rw[e] at h2;exact h2) h1).1) (fun b hb=>hb.2.1) ?_ ?_ ⟨hI0,β,by rw[hup];exact r,fun b=>Iff.rfl⟩
 ·refine h.mono ?_
  rintro e W' ⟨⟨v,rfl⟩,i,s,L',hJ,hs⟩
  refine⟨v,rfl,?_⟩
  cases s with
  | false =>
   obtain⟨hI,β',r',_⟩:=hJ
   have hi:=hs rfl
   subst hi
   have hh:=(r'.kb l _ (hupl _)).1
   refine⟨none,_,?_,⟨_,_,β',hupE (.loop { rec .ready none with state:=.exhausted }),hdone hI,hput _ rfl r'⟩⟩
   have:=run_endLoop (P:=P) hh (by rw[hrec];simp)
   rw[hrec] at this ⊢
   exact this
  | true =>
   obtain⟨c,e,ob',β',hj,hK,r',_⟩:=hJ
   have hh:=(r'.kb l _ (hupl _)).1
   refine⟨some c,W'.putObj l (.loop { rec .done (some c) with state:=.exhausted }),?_,?_⟩
   ·have:=run_endLoop (P:=P) hh (by rw[hrec];simp)
    rw[hrec] at this ⊢
    exact this
   have hp:Agk E K e a (W'.putObj l (.loop { rec .done (some c) with state:=.exhausted })):=⟨_,_,β',hupE _,hK,hput _ rfl r'⟩
   rcases hj with⟨rfl,rfl⟩ | ⟨id,rfl,rfl⟩ | ⟨t,rfl,rfl⟩
   ·exact wpIn_ret hp
   ·exact wpIn_exit hp
   exact wpIn_goto hp
 ·intro i s L W1 W2 hJ hk
  cases s with
  | false =>
   obtain⟨hI,β',r',hL⟩:=hJ
   exact⟨hI,β',r'.grow hk,hL⟩
  | true =>
   obtain⟨c,e,ob',β',hj,hK,r',hL⟩:=hJ
   exact⟨c,e,ob',β',hj,hK,r'.grow hk,hL⟩
 intro i L W1 vs us ⟨hI,βi,ri,hL⟩ hLs hvs hus hv
 have hh:=ri.kb l _ (hupl _)
 obtain⟨hlen,hren⟩:=hcl vs (Ac hvs)
 have hy:=run_yield (P:=P) (args:=us) hh.1 (by rw[hrec];simp[hus,hlen])
 have hvs':∀(j:Nat) (v:AV) (u:Value),vs[j]? = some v->us.toList[j]? = some u->Ea ((up (.loop (rec .ready none))).C βi ⟨sl,f i⟩ W1) v u:=fun j v u h1 h2=>by
  have h3:=hv j v u h1 (by simpa using h2)
  have h4:=Ea.ren (C:=VCZ W.heap.size ((E1.C β ⟨sl,f 0⟩ W).S false) L W1) (C':=(up (.loop (rec .ready none))).C βi ⟨sl,f i⟩ W1) (ρ:=fun _=>none) rfl (fun id j h=>by cases h) (fun fr b hb=>?_) h3
  ·have:v.ren (fun _=>none)=v:=by
    have h5:(Nr (fun _=>none) vs)[j]? = some v:=by rw[hren];exact h1
    rw[O9,h1] at h5
    simpa using h5
   rwa[this] at h4
  obtain⟨q1,q2,q3⟩:=hb
  rw[Aiy] at q2
  refine⟨q1,fun hl=>q2 ((hL b).2 hl),?_⟩
  have q3:W.heap.size<=b\/False\/((E1.C β ⟨sl,f 0⟩ W).S false b/\(fr=true->False)):=q3
  rcases q3 with q3 | q3 | ⟨q3,q4⟩
  ·have:=r.kp.size
   exact .inl (by show E1.w0.heap.size<=b;omega)
  ·exact q3.elim
  have q5:=q3.2.2
  cases fr with
  | true=>exact (q4 rfl).elim
  | false=>exact q5
 have hpar:=Aui (C:=(up (.loop (rec .ready none))).C βi ⟨sl,f i⟩ W1) (n:=n) ps vs us.toList sl a.tmps (ri.sz.trans hn1) hps hlen.symm (by simpa using hus) hvs' ri.sl
 have htm:(ps.toArray.zip us).foldl (fun tmps (t,a)=>tmps.setIfInBounds t a) a.tmps=(ps.zip us.toList).foldl (fun t (p,v)=>t.setIfInBounds p v) a.tmps:=by
  rw[<- Array.foldl_toList,Array.toList_zip]
 refine⟨fn,(ps.zip us.toList).foldl (fun t (p,v)=>t.setIfInBounds p v) a.tmps,asg,body,?_,?_⟩
 ·rw[hrec] at hy
  rw[<- htm]
  exact hy
 generalize hT:(ps.zip us.toList).foldl (fun t (p,v)=>t.setIfInBounds p v) a.tmps=T at hpar
 refine roundIn_of_wpIn trivial ?_
 have hbusy:({ rec .ready none with state:=.busy }:Loop)=rec .busy none:=by rw[hrec]
 have rb:=hput (.loop (rec .busy none)) rfl ri
 have hszb:(W1.putObj l (.loop (rec .busy none))).heap.size=W1.heap.size:=by simp[World.putObj]
 have hlt:l<W1.heap.size:=(Aw.1 hh.1).1
 have rin:=ri.inner (sl:=Sn ps vs sl) (tmps:=T) (hpar.1.trans hn1.symm) hpar.2
 refine wpIn_mono (hasg i vs hvs hI ((up (.loop (rec .ready none))).under βi ⟨sl,f i⟩ W1) (Fence.wide.inRound l) ⟨hn1,fun id hid=>Ha ⟨sl,f i⟩ id hid⟩ (.inr ⟨l,rec .ready none,rfl,hupl _⟩) βi ⟨T,[]⟩ W1 rin) ?_
 rintro e a2 W2 ⟨E2,s2,β2,hle2,⟨rfl,rfl⟩,r2⟩
 obtain⟨⟨ds2,kb2,rfl⟩,hk2⟩:=hle2
 have hkl2:kb2 l=some (.loop (rec .ready none)):=hk2 l _ (hupl _)
 have hW2:W2.heap[l]? = some (.loop (rec .ready none)):=(r2.kb l _ hkl2).1
 refine⟨_,run_beginRound hW2 (by rw[hrec]),?_⟩
 rw[hbusy]
 have hld2:l∉ds2:=fun h=>by
  have h1:kb2 l=some (.deferred (some [])):=(r2.dk.2 l h).1
  rw[hkl2] at h1
  injection h1 with h1
  cases h1
 have hS:∀g b,((up (.loop (rec .ready none))).C βi ⟨sl,f i⟩ W1).S g b<->((up (.loop (rec .busy none))).C βi ⟨sl,f i⟩ (W1.putObj l (.loop (rec .busy none)))).S g b:=fun g b=>by
  constructor
  ·exact fun h=>⟨by show b<(W1.putObj l (.loop (rec .busy none))).heap.size;rw[hszb];exact h.1,h.2.1,h.2.2⟩
  exact fun h=>⟨by have h1:b<(W1.putObj l (.loop (rec .busy none))).heap.size:=h.1;rw[hszb] at h1;exact h1,h.2.1,h.2.2⟩
 have r2b:=r2.rebase (l:=l) (o':=.loop (rec .busy none)) hkl2 rfl hld2 hlt
 have hEq:({ ({ (up (.loop (rec .ready none))).under βi ⟨sl,f i⟩ W1 with ds:=ds2,kb:=kb2 }:Gi) with w0:=W1.putObj l (.loop (rec .busy none)),kb:=fun b=>if b=l then some (.loop (rec .busy none)) else kb2 b }:Gi) =
  { (up (.loop (rec .busy none))).under βi ⟨sl,f i⟩ (W1.putObj l (.loop (rec .busy none))) with ds:=ds2,kb:=fun b=>if b=l then some (.loop (rec .busy none)) else kb2 b }:=by
  have e1:(fun b=>((up (.loop (rec .ready none))).C βi ⟨sl,f i⟩ W1).S false b)=fun b=>((up (.loop (rec .busy none))).C βi ⟨sl,f i⟩ (W1.putObj l (.loop (rec .busy none)))).S false b:=funext fun b=>propext (hS false b)
  have e2:(fun b=>((up (.loop (rec .ready none))).C βi ⟨sl,f i⟩ W1).S true b)=fun b=>((up (.loop (rec .busy none))).C βi ⟨sl,f i⟩ (W1.putObj l (.loop (rec .busy none)))).S true b:=funext fun b=>propext (hS true b)
  have key:∀(w:World) (o:Nat->Ob) (β x x' y y') (n:Nat) (ds:List Nat) (kb:Nat->Option Obj),x=x'->y=y'->Gi.mk w o β x y n ds kb=Gi.mk w o β x' y' n ds kb:=by
   rintro w o β x _ y _ n ds kb rfl rfl
   rfl
  exact key _ _ _ _ _ _ _ _ _ _ e1 e2
 have hr2b:Eo { (up (.loop (rec .busy none))).under βi ⟨sl,f i⟩ (W1.putObj l (.loop (rec .busy none))) with ds:=ds2,kb:=fun b=>if b=l then some (.loop (rec .busy none)) else kb2 b } β2 (sA i vs) a2 (W2.putObj l (.loop (rec .busy none))):=hEq▸r2b
 have hleb:Hj ((up (.loop (rec .busy none))).under βi ⟨sl,f i⟩ (W1.putObj l (.loop (rec .busy none)))) { (up (.loop (rec .busy none))).under βi ⟨sl,f i⟩ (W1.putObj l (.loop (rec .busy none))) with ds:=ds2,kb:=fun b=>if b=l then some (.loop (rec .busy none)) else kb2 b }:=by
  refine⟨⟨_,_,rfl⟩,fun b o h=>?_⟩
  have h:(if b=l then some (.loop (rec .busy none)) else E1.kb b)=some o:=h
  show (if b=l then some (.loop (rec .busy none)) else kb2 b)=some o
  by_cases e:b=l
  ·rw[if_pos e] at h ⊢;exact h
  rw[if_neg e] at h ⊢
  refine hk2 b o ?_
  show (if b=l then some (.loop (rec .ready none)) else E1.kb b)=some o
  rw[if_neg e]
  exact h
 have hwalk:=hround i vs hvs hI { (up (.loop (rec .busy none))).under βi ⟨sl,f i⟩ (W1.putObj l (.loop (rec .busy none))) with ds:=ds2,kb:=fun b=>if b=l then some (.loop (rec .busy none)) else kb2 b } (Fence.wide.inRound l) ⟨hn1,fun id hid=>Ha ⟨sl,f i⟩ id hid⟩ (.inr ⟨l,rec .busy none,rfl,if_pos rfl⟩) β2 a2 _ hr2b
 refine wpIn_mono hwalk ?_
 rintro e a3 W3 ⟨E3,s3,β3,hle3,hk,r3⟩
 have hle3:=hleb.trans hle3
 have hl3:W3.heap[l]? = some (.loop (rec .busy none)):=(r3.kb l _ (hle3.kb l _ (hupl _))).1
 have Ep:∀(ob':List Ob),Yb (f i).length s3 ⟨[],ob'⟩->∃β4,Eo (up (.loop (rec .busy none))) β4 ⟨sl,ob'⟩ a W3/\(∀b,b<W1.heap.size->¬L b->(b≠l->W3.heap[b]? = W1.heap[b]?)/\¬(E1.C β4 ⟨sl,ob'⟩ W3).lives b)/\W1.heap.size<=W3.heap.size:=fun ob' ⟨sel,hw,hm⟩=>by
  obtain⟨β4,r4⟩:=r3.weak hw fun id hid=>hm id (Nat.lt_of_not_le fun hle=>hid (by
   obtain⟨⟨ds,kb,rfl⟩,_⟩:=hle3
   exact Ha ⟨sl,f i⟩ id hle))
  obtain⟨h1,h2,h3⟩:=rb.outer (hlive i) hle3 r4
  have hsz:(W1.putObj l (.loop (rec .busy none))).heap.size=W1.heap.size:=by simp[World.putObj]
  refine⟨β4,h1,fun b hb hnl=>?_,by rw[hsz] at h3;exact h3⟩
  obtain⟨q1,q2⟩:=h2 b (by rw[hsz];exact hb) fun hl=>hnl ((hL b).2 hl)
  exact⟨fun hbl=>q1.trans (World.putObj_heap_other hbl),q2⟩
 have endr:∀(jump:Option Code),(Instr.endRound l jump).run P W3=.ok (.bool jump.isNone) (W3.putObj l (.loop (rec (if jump.isNone then .ready else .done) jump))):=fun jump=>by
  have:=run_endRound (P:=P) jump hl3
  rw[hrec] at this ⊢
  exact this
 have rest:∀(s:Bool) (jump:Option Code) (ob':List Ob),Yb (f i).length s3 ⟨[],ob'⟩->jump.isNone=(!s)->(∀β4 L',Eo (up (.loop (rec (if jump.isNone then .ready else .done) jump))) β4 ⟨sl,ob'⟩ a (W3.putObj l (.loop (rec (if jump.isNone then .ready else .done) jump)))->(∀b,L' b<->(E1.C β4 ⟨sl,ob'⟩ (W3.putObj l (.loop (rec (if jump.isNone then .ready else .done) jump)))).lives b)->J (i+1) s L' (W3.putObj l (.loop (rec (if jump.isNone then .ready else .done) jump)))) ->
  ∃v w',(Instr.endRound l jump).run P W3=.ok v w'/\Ak1 J i L W1 (.returned v) w':=fun s jump ob' hwk hs hJ=>by
  obtain⟨β4,r4,h2,h3⟩:=Ep ob' hwk
  have r5:=hput (.loop (rec (if jump.isNone then .ready else .done) jump)) rfl r4
  have hsz:(W3.putObj l (.loop (rec (if jump.isNone then .ready else .done) jump))).heap.size=W3.heap.size:=by simp[World.putObj]
  refine⟨_,_,endr jump,s,fun b=>(E1.C β4 ⟨sl,ob'⟩ W3).lives b,by rw[hs],hJ β4 _ r5 fun b=>Iff.rfl,fun b ⟨id,q1,q2⟩=>?_,by rw[hsz];exact h3,fun b cur ty fz hnl hc=>?_,fun b hb hnl=>(h2 b hb hnl).2⟩
  ·have q2:((St.mk sl ob').o id).live:=q2
   exact (r5.rng id b (fun e=>by rw[e] at q2;exact q2) q1).1
  have hbl:b≠l:=fun e=>by
   subst e
   rw[hh.1] at hc
   cases hc
  exact (World.putObj_heap_other hbl).trans (((h2 b (Aw.1 hc).1 hnl).1 hbl).trans hc)
 cases e with
 | normal=>exact rest false none _ hk.1 rfl fun β4 L' h1 h2=>⟨hk.2,β4,h1,h2⟩
 | ret =>
  obtain⟨ob',h1,h2⟩:=hk
  exact rest true (some .ret) ob' h1 rfl fun β4 L' h3 h4=>⟨.ret,.ret,ob',β4,.inl ⟨rfl,rfl⟩,h2,h3,h4⟩
 | exit id =>
  obtain⟨ob',h1,h2⟩:=hk
  exact rest true (some (.exit id)) ob' h1 rfl fun β4 L' h3 h4=>⟨_,_,ob',β4,.inr (.inl ⟨id,rfl,rfl⟩),h2,h3,h4⟩
 | goto t =>
  obtain⟨ob',h1,h2⟩:=hk
  exact rest true (some (.goto t)) ob' h1 rfl fun β4 L' h3 h4=>⟨_,_,ob',β4,.inr (.inr ⟨t,rfl,rfl⟩),h2,h3,h4⟩
 | panic ch=>exact hk.elim
 | outgrown=>exact hk.elim
theorem VW.rangeFnA {g:Tmp} (hit:Yd P gf caps items) (f:Nat->List Ob) (hg:Ez sl g=.fn gf caps) (hlive:∀i id,(St.mk sl (f i)).o id≠.gone->((St.mk sl (f i)).o id).live) (hps:∀p∈ps,p<n) (sA:Nat->List AV->St) (hcl:∀vs∈items,vs.length=ps.length/\Nr (fun _=>none) vs=vs) (Inv:Nat->Prop) (hI0:Inv 0) (hasg:∀i vs,items[i]? = some vs->Inv i->VW P n (f i).length asg ⟨Sn ps vs sl,f i⟩ (fun e s=>e=.normal/\s=sA i vs)) (hround:∀i vs,items[i]? = some vs->Inv i->VW P n (f i).length body (sA i vs) (Jp (f i).length sl (f (i+1)) (Inv (i+1)) K)) (hdone:Inv items.length->K .normal ⟨sl,f items.length⟩) :
  VW P n m (.rangeFunc (.tmp g) ps.toArray (asg) body) ⟨sl,f 0⟩ K:=fun E F hE hF β a w r=>by
 refine wpIn_rangeFunc ?_
 intro fn hfn
 have hr:=r.sl g
 rw[hg] at hr
 generalize hug:a.tmps.getD g undef=ug at hr
 cases hr with
 | fn gf' caps' lb hl hcr =>
 have hgv:Ea (E.C β ⟨sl,f 0⟩ w) (.fn gf caps) (.func (.func gf) #[] lb):=.fn gf caps lb hl hcr
 have hev:a.eval (.tmp g)=.func (.func gf) #[] lb:=hug
 have hkd:∀b o,E.kb b=some o->b<w.heap.size:=fun b o h=>(Aw.1 (r.kb b o h).1).1
 have hw0:=r.kp.size
 have core:∀(l:Nat) (mark:List Deferred) (W:World) (E1:Gi) (rec:LoopState->Option Code->Loop) (dd:Nat) (hrec:rec=fun st pe=>{ state:=st,pending:=pe,fn:=fn,tmps:=a.tmps,params:=ps.toArray,assign:=asg,body:=body,defers:=dd }),
  (Instr.enterLoop fn a.tmps ps.toArray (asg) body F.round).run P w=.ok (l,mark) W->Hj E E1->Eo E1 β ⟨sl,f 0⟩ { a with defers:=mark++a.defers } W->(∀b,b<w.heap.size->W.heap[b]? = w.heap[b]?)->w.heap.size<=W.heap.size ->
   E1.kb l=some (.loop (rec .ready none))->l∉E1.ds->w.heap.size<=l->∃(l:Nat) (mark:List Deferred) (w₁:World) (d:Deferred) (w₁':World) (f:FuncId) (args:Array Value) (w₂:World),
   (Instr.enterLoop fn a.tmps ps.toArray (asg) body F.round).run P w=.ok (l,mark) w₁ /\
   (resolve a.eval (rangeCall (.tmp g) l) 0).run P w₁=.ok d w₁' /\
   (∀f',Target.leads P w₁' d.target d.args=some f'->F.fn f') /\
   (invoke d.target d.args).run P w₁'=.ok (.enter f args) w₂ /\
   (F.depth.isSome=true->1<=0) /\
   CallsIn F (0 - 1) P f args w₂ (rangePost F 0 P l (Agk E K) { a with defers:=mark++a.defers }):=by
  intro l mark W E1 rec dd hrec hent hle r1 hWs hWz hkl hld hlge
  refine⟨l,mark,W,{ target:=.fn (.func gf) lb,args:=#[.func (.yield l) #[] #[]] },W,gf,#[.func (.yield l) #[] #[]]++lb,W,hent,?_,?_,?_,hF.depth,?_⟩
  ·simp only[resolve,hev]
   simp[go_sem]
  ·intro f' _;exact hF.fn f'
  ·have:=W6 hit.1 (us:=#[.func (.yield l) #[] #[]]++lb) (w:=W)
   simp[invoke,this]
  refine (hF.calls ?_)
  have hEl:E.kb l=none:=by
   cases hq:E.kb l with
   | none=>rfl
   | some o=>have:=hkd l o hq;omega
  have hE1w:E1.w0.heap.size<=l:=by
   obtain⟨⟨ds,kb,rfl⟩,_⟩:=hle
   show E.w0.heap.size<=l
   omega
  have hlb:Ea (E1.C β ⟨sl,f 0⟩ W) (.fn gf caps) (.func (.func gf) #[] lb):=by
   have s:Nu (E.C β ⟨sl,f 0⟩ w) (E1.C β ⟨sl,f 0⟩ W):=by
    obtain⟨⟨ds,kb,rfl⟩,_⟩:=hle
    exact⟨rfl,fun _ h=>h,fun _ h=>h,fun _ h=>h,hWz,fun b _ h=>h,fun b hb _=>hWs b hb,fun id ty cs h=>⟨⟨cs,h⟩,rfl⟩,fun id ty k' fr fz es h=>⟨fr,fz,es,h,Aj _,fun _=>⟨rfl,fun b cur hb hc=>⟨cur,(hWs b (r.rng id b (by have h:(St.mk sl (f 0)).o id=_:=h;rw[h];simp) hb).1).trans hc,rfl⟩⟩⟩⟩
   exact hgv.step s
  refine (Aow hit f hlive hps sA hcl Inv hI0 hasg hround hdone hF hle hE.1 (a:={ a with defers:=mark++a.defers }) r1 hlb (rec:=rec) (fn:=fn) (dd:=dd) hrec hkl hld hE1w hEl).mono ?_
  rintro e w3 ⟨v,rfl,h⟩
  exact h
 have hsz1:∀o:Obj,(w.alloc o).heap.size=w.heap.size+1:=fun o=>by simp
 rcases hF with rfl | ⟨l0,r0,rfl,hk0⟩
 ·obtain⟨r1,hle1⟩:=r.lay (o:=.deferred (some [])) rfl
  obtain⟨r2,hle2⟩:=r1.lay (o:=.loop { state:=.ready,pending:=none,fn:=fn,tmps:=a.tmps,params:=ps.toArray,assign:=asg,body:=body,defers:=w.heap.size }) rfl
  have hD:∀D∈E.ds,D<w.heap.size:=fun D h=>hkd D _ (r.dk.2 D h).1
  have hkD:(if w.heap.size=(w.alloc (.deferred (some []))).heap.size then some (Obj.loop { state:=.ready,pending:=none,fn:=fn,tmps:=a.tmps,params:=ps.toArray,assign:=asg,body:=body,defers:=w.heap.size }) else if w.heap.size=w.heap.size then some (.deferred (some [])) else E.kb w.heap.size)=some (.deferred (some [])):=by
   rw[hsz1,if_neg (by omega),if_pos rfl]
  have r3:=r2.mark (D:=w.heap.size) hkD (fun h=>by have:=hD _ h;omega) hw0
  refine core ((w.alloc (.deferred (some []))).heap.size) [dmk w.heap.size] _ _ (fun st pe=>{ state:=st,pending:=pe,fn:=fn,tmps:=a.tmps,params:=ps.toArray,assign:=asg,body:=body,defers:=w.heap.size }) w.heap.size rfl ?_ ?_ r3 (fun b hb=>?_) ?_ (if_pos rfl) ?_ (by rw[hsz1];omega)
  ·rw[hsz1]
   exact run_enterLoop_outer _ _ _ _ _
  ·exact⟨⟨_,_,rfl⟩,fun b o h=>(hle1.trans hle2).kb b o h⟩
  ·exact (Below.heap_alloc _ _ _ (by rw[hsz1];omega)).trans (Below.heap_alloc _ _ _ hb)
  ·rw[World.size_alloc,World.size_alloc];omega
  rw[hsz1]
  intro h
  rcases List.mem_cons.1 h with h | h
  ·omega
  have:=hD _ h;omega
 obtain⟨r1,hle1⟩:=r.lay (o:=.loop { state:=.ready,pending:=none,fn:=fn,tmps:=a.tmps,params:=ps.toArray,assign:=asg,body:=body,defers:=r0.defers }) rfl
 refine core w.heap.size [] _ _ (fun st pe=>{ state:=st,pending:=pe,fn:=fn,tmps:=a.tmps,params:=ps.toArray,assign:=asg,body:=body,defers:=r0.defers }) r0.defers rfl (run_enterLoop_inner (r.kb l0 _ hk0).1 _ _ _ _ _) hle1 r1 (fun b hb=>Below.heap_alloc _ _ _ hb) (by simp) (if_pos rfl) (fun h=>?_) (Aj _)
 have:=hkd _ _ (r.dk.2 _ h).1
 omega
end
section
variable {P:Program}
theorem VW.rangeFn {g:Tmp} {al:List Oper} {aid:Nat} (hit:Yd P gf caps items) (f:Nat->List Ob) (hg:Ez sl g=.fn gf caps) (hlive:∀i id,(St.mk sl (f i)).o id≠.gone->((St.mk sl (f i)).o id).live) (hps:∀p∈ps,p<n) (hal:Axn n al=true) (hcl:∀vs∈items,vs.length=ps.length/\Nr (fun _=>none) vs=vs) (Inv:Nat->Prop) (hI0:Inv 0) (hround:∀i vs,items[i]? = some vs->Inv i->VW P n (f i).length body (Aga al ⟨Sn ps vs sl,f i⟩) (Jp (f i).length sl (f (i+1)) (Inv (i+1)) K)) (hdone:Inv items.length->K .normal ⟨sl,f items.length⟩) :
  VW P n m (.rangeFunc (.tmp g) ps.toArray (.region aid al.toArray false) body) ⟨sl,f 0⟩ K :=
 VW.rangeFnA hit f hg hlive hps (fun i vs=>Aga al ⟨Sn ps vs sl,f i⟩) hcl Inv hI0 (fun i vs _ _ E F hE hF β a w r=>wpIn_region_lit (Avo hF al (by rw[hE.1];exact hal) _ _ _ r fun a' r'=>⟨E,_,β,Hj.refl E,⟨rfl,rfl⟩,r'⟩)) hround hdone
end
end
def Yv (l:List F6) (s top:Int):Bool:=(Vb l s).contains top
theorem Sy (l:List F6) (s top:Int):PP 258 [] [.mTok l,.li s,.li top] [] (.lb (Yv l s top)):=by
 refine Ei Tryz.func258 ?_
 refine Bw<|.seq ?_
 refine Di Dy (Rp l s)<|.block ?_
 refine VW.wkE (s':=⟨[(5,.ptr 0 0),(6,.ptr 1 0),(10,.fn 206 [.iptr false [.li s] 0,.iptr false [.sl 6 (O5 l)] 0])],[.box 3 [.li top],.box 4 [.lb false]]⟩) (wQ [0,1] ?_ ?_) ?_
 ·simp[go_sem]
 ·simp[go_sem]
 refine VW.rangeFn (V3 l s) (fun j1=>[.box 3 [.li top],.box 4 [.lb false]]) (by rfl) (fun _=>Qf rfl) (by decide) (by rfl) ?_ (fun j=>∀i x,i<j->(Vb l s)[i]? = some x->x≠top) ?_ (fun j1 vs hj1 hI1=>?_) (fun hI1=>?_)
 ·intro vs hvs
  obtain⟨a,_,rfl⟩:=A4.1 hvs
  simp[go_sem]
 ·intro i x h;omega
 ·
  obtain⟨a,ha,rfl⟩:=Ee hj1
  refine VW.block<|.R ?_
  refine B7 ?_ ?_<;>intro h14
  ·refine Bw ?_
   refine VW.ret ⟨[.box 3 [.li top],.box 4 [.lb true]],⟨[0,1],El (by decide) ?_ ?_,Fv rfl⟩,?_⟩
   ·simp[go_sem]
   ·simp[go_sem]
   refine (Aqg (by simp[go_sem]) ?_)
   have:Yv l s top=true:=by unfold Yv;rw[List.contains_iff_mem];exact h14▸Ac ha
   simp[go_sem,this]
  refine Bv ?_
  refine⟨⟨[0,1],El (by decide) ?_ ?_,Fv rfl⟩,?_⟩
  ·simp[go_sem]
  ·simp[go_sem]
  intro i x hi hx
  by_cases e:i=j1
  ·subst e;rw[ha] at hx;injection hx with hx;subst hx;exact h14
  exact hI1 i x (by omega) hx
 -- done
 refine Bw ?_
 refine B6 ?_
 have:Yv l s top=false:=by
  unfold Yv
  rw[List.contains_eq_any_beq,List.any_eq_false]
  intro x hx
  obtain⟨i,hi⟩:=A3.1 hx
  have h2:=hI1 i x (by simpa using (Ab.1 hi).1) hi
  simp only[beq_iff_eq]
  exact fun e=>h2 e.symm
 simp[go_sem,this]
section
variable {c:Code}
section
variable {F:Fence} {n:Nat} {P:Program} {b:Frame} {a:Act} {k:List Item} {cs:List Frame} {w:World} {Q:Exit->Act->World->Prop}
theorem Me:step P (lone (b.atR a (.code (.scope c)::k)) cs w)=.next (lone (b.atR a (.code c::.inScope c::k)) cs w) :=
 step_lone_go (by simp[stepG,stepG.exec,Frame.atR])
theorem Ahf:step P (lone (b.atR a (.inScope c::k)) cs w)=.next (lone (b.atR a k) cs w) :=
 step_lone_go (by simp[stepG,stepG.exec,Frame.atR])
theorem An8 (h:c.wpIn F n P (Exit.noGoto Q) a w):(Code.scope c).wpIn F n P Q a w:=by
 intro b k cs hro hb hr
 have h0:(lone (b.atR a (.code (.scope c)::k)) cs w).fenced P F:=fenced_calm hb hr rfl
 obtain⟨e,a₁,w₁,hq,harr⟩:=h b (.inScope c::k) cs hro hb hr
 cases e with
 | normal=>exact⟨.normal,a₁,w₁,hq,.head h0 Me (StepsIn.trans harr (.one (fenced_calm hb hr rfl) Ahf))⟩
 | exit id =>
  have hx:exitTo id (.inScope c::k)=exitTo id k:=by simp[exitTo]
  exact⟨_,a₁,w₁,hq,fun k' hk=>.head h0 Me (harr.1 k' (by rw[hx];exact hk)),fun hr' hk=>let ⟨k₁,h1,h2⟩:=harr.2 hr' (by rw[hx];exact hk);⟨k₁,h1,.head h0 Me h2⟩⟩
 | goto l=>exact hq.elim
 | ret=>exact⟨_,a₁,w₁,hq,.of_steps (.one h0 Me) harr⟩
 | panic ch=>exact⟨_,a₁,w₁,hq,.of_steps (.one h0 Me) harr⟩
 | outgrown=>exact⟨_,a₁,w₁,hq,.of_steps (.one h0 Me) harr⟩
end
section
variable {P:Program} {n m:Nat} {st:St} {K:Exit->St->Prop} {c:Code}
@[reducible] def Exit.vscope (K:Exit->St->Prop):Exit->St->Prop
 | .goto _,_=>False
 | e,s=>K e s
theorem VW.scope (h:VW P n m c st (Exit.vscope K)):VW P n m (.scope c) st K:=fun E F hE hF β a w r=>by
 refine An8 (wpIn_mono (h E F hE hF β a w r) fun e a w ⟨E',s,β,h0,h1,h2⟩=>?_)
 cases e with
 | goto l=>exact h1.elim
 | normal=>exact⟨E',s,β,h0,h1,h2⟩
 | exit id=>exact⟨E',s,β,h0,h1,h2⟩
 | ret=>exact⟨E',s,β,h0,h1,h2⟩
 | panic ch=>exact⟨E',s,β,h0,h1,h2⟩
 | outgrown=>exact⟨E',s,β,h0,h1,h2⟩
theorem VX.scope (h:VX P n m c st (Exit.vscope K)):VX P n m (.scope c) st K:=by
 obtain⟨e,s,h1,h2⟩:=h
 cases e with
 | goto l=>exact h2.elim
 | _ =>
  refine⟨_,s,.scope (h1.mono ?_),h2⟩
  rintro e' s' ⟨rfl,rfl⟩
  exact⟨rfl,rfl⟩
end
variable {γ:Type} {l:List Oper}
section
variable {P:Program} {n m:Nat} {st:St} {K:Exit->St->Prop} {c:Code}
theorem VX.rangeE (N:Nat) (f:Nat->γ->St) (Inv:Nat->γ->Prop) (x0:γ) (h0:Yb m st (f 0 x0)) (hi:Inv 0 x0) (round:∀i x,i<=N->Inv i x->VX P n m c (f i x) (Exit.vthen (fun s'=>i<N/\∃x',Inv (i+1) x'/\Yb m s' (f (i+1) x')) K)):VX P n m (.loop c) st K:=by
 obtain⟨sel,h1,h2⟩:=h0
 refine .loop_w (fun z s=>∃i x,i+z=N/\Inv i x/\s=f i x) ⟨N,sel,f 0 x0,h1,h2,0,x0,by omega,hi,rfl⟩ ?_
 rintro z s ⟨i,x,hi,hI,rfl⟩
 refine (round i x (by omega) hI).mono fun e s=>?_
 cases e with
 | normal =>
  rintro⟨h3,x',h4,sel,h5,h6⟩
  exact⟨z - 1,by omega,sel,_,h5,h6,i+1,x',by omega,h4,rfl⟩
 | _=>exact fun h=>h
abbrev Bs:=@VX.rangeE
theorem VX.whileE (f:γ->St) (Inv:γ->Prop) (μ:γ->Nat) (x0:γ) (h0:Yb m st (f x0)) (hi:Inv x0) (round:∀x,Inv x->VX P n m c (f x) (Exit.vthen (fun s'=>∃x',μ x'<μ x/\Inv x'/\Yb m s' (f x')) K)):VX P n m (.loop c) st K:=by
 obtain⟨sel,h1,h2⟩:=h0
 refine .loop_w (fun z s=>∃x,μ x=z/\Inv x/\s=f x) ⟨μ x0,sel,f x0,h1,h2,x0,rfl,hi,rfl⟩ ?_
 rintro z s ⟨x,rfl,hI,rfl⟩
 refine (round x hI).mono fun e s=>?_
 cases e with
 | normal =>
  rintro⟨x',h3,h4,sel,h5,h6⟩
  exact⟨_,h3,sel,_,h5,h6,x',rfl,h4,rfl⟩
 | _=>exact fun h=>h
abbrev Cj:=@VX.whileE
theorem VW.rangeE (N:Nat) (f:Nat->γ->St) (Inv:Nat->γ->Prop) (x0:γ) (h0:Yb m st (f 0 x0)) (hi:Inv 0 x0) (round:∀i x,i<=N->Inv i x->VW P n m c (f i x) (Exit.vthen (fun s'=>i<N/\∃x',Inv (i+1) x'/\Yb m s' (f (i+1) x')) K)):VW P n m (.loop c) st K:=by
 obtain⟨sel,h1,h2⟩:=h0
 refine .loop_w (fun z s=>∃i x,i+z=N/\Inv i x/\s=f i x) ⟨N,sel,f 0 x0,h1,h2,0,x0,by omega,hi,rfl⟩ ?_
 rintro z s ⟨i,x,hi,hI,rfl⟩
 refine (round i x (by omega) hI).mono fun e s=>?_
 cases e with
 | normal =>
  rintro⟨h3,x',h4,sel,h5,h6⟩
  exact⟨z - 1,by omega,sel,_,h5,h6,i+1,x',by omega,h4,rfl⟩
 | _=>exact fun h=>h
abbrev Cu:=@VW.rangeE
theorem VW.whileE (f:γ->St) (Inv:γ->Prop) (μ:γ->Nat) (x0:γ) (h0:Yb m st (f x0)) (hi:Inv x0) (round:∀x,Inv x->VW P n m c (f x) (Exit.vthen (fun s'=>∃x',μ x'<μ x/\Inv x'/\Yb m s' (f x')) K)):VW P n m (.loop c) st K:=by
 obtain⟨sel,h1,h2⟩:=h0
 refine .loop_w (fun z s=>∃x,μ x=z/\Inv x/\s=f x) ⟨μ x0,sel,f x0,h1,h2,x0,rfl,hi,rfl⟩ ?_
 rintro z s ⟨x,rfl,hI,rfl⟩
 refine (round x hI).mono fun e s=>?_
 cases e with
 | normal =>
  rintro⟨x',h3,h4,sel,h5,h6⟩
  exact⟨_,h3,sel,_,h5,h6,x',rfl,h4,rfl⟩
 | _=>exact fun h=>h
def A1l (P:Program) (n m:Nat) (t:Nat) (X y:Code) (K:Exit->St->Prop) (s:St):Prop :=
 ∃(sl:List (Nat×AV)) (ob:List Ob) (b:Bool) (a:Nat) (k:IntKind) (v:Int) (xs:List Int) (ds:List Nat),s=⟨sl,ob⟩/\OrC n t a k X xs ds/\t<n/\(t == a)=false/\Ez sl t=.lb b/\Ez sl a=.lit (.int k v)/\(∀d∈ds,Ez ((t,.lb (b||xs.any fun x=>v == x))::sl) d=.any) /\
  VX P n m y ⟨(t,.lb (b||xs.any fun x=>v == x))::sl,ob⟩ K
theorem VX.orcases2 {id:Nat} {t:Nat} {X y:Code} (hd:Ft n l=true) (h:∀K1:St->Prop,(∀s,A1l P n m t X y K s->K1 s)->runs P (Gc l) st K1):VX P n m (.seq (.seq (.region id l.toArray false) (.cond (.tmp t) .skip X)) y) st K:=by
 obtain⟨s,h1,sl,ob,b,a,k,v,xs,ds,rfl,h2,h3,h4,h5,h6,h7,e,s2,h8,h9⟩:=Qb _ _ (h _ fun _ h=>h)
 refine⟨e,s2,.seq (.region_seq hd fun K1 hK1=>K4 _ _ ?_ h1),h9⟩
 rintro s' rfl
 exact hK1 _ (Dq h2 h3 h4 h5 h6 h7 h8)
abbrev Ce:=@VX.orcases2
theorem VX.region1 {id:Nat} (hd:Ft n l=true) (h:∀K1:St->Prop,(∀s,K .normal s->K1 s)->runs P (Gc l) st K1):VX P n m (.region id l.toArray false) st K:=.region hd h
abbrev C4:=@VX.region1
end
variable {rs:List ResultVar} {Φ:AV->Prop}
section
variable {P:Program}
def Av3 (P:Program) (rs:List ResultVar) (Φ:AV->Prop) (e:Exit) (st:St):Prop:=∃res,Re P 0 rs [] res e st/\Φ res
theorem At7 {st:St} (hc:Vk P st rs) (h:Φ ((Kt P st rs).ren fun _=>none).low):Av3 P rs Φ .ret st:=⟨_,Aqg hc rfl,h⟩
theorem Axf {f:FuncId} {fn:Func} {args:List AV} (hf:P.funcs[f]? = some fn) (hb:fn.body=some c) (hn:(fn.name == "runtime.NumGoroutine")=false) (hrs:fn.results=rs.toArray) (hk:args.length<=fn.ntmps) (h:VX P fn.ntmps 0 c ⟨Hr 0 args,[]⟩ (Av3 P rs Φ)):∃res,Ey P f [] args [] res/\Φ res:=by
 obtain⟨e,s,h1,res,h2,h3⟩:=h
 refine⟨res,Ad9 hf hb hn hrs hk (h1.mono ?_),h3⟩
 rintro e' s' ⟨rfl,rfl⟩
 exact h2
def IsB (p:Bool->Prop) (r:AV):Prop:=∃b,r=.lb b/\p b
def IsI (p:Int->Prop) (r:AV):Prop:=∃n,r=.li n/\p n
theorem Axz {p:Bool->Prop} {b:Bool}:IsB p (.lb b)=p b:=by
 apply propext
 constructor
 ·rintro⟨b',h1,h2⟩
  injection h1 with h1
  injection h1 with h1
  subst h1
  exact h2
 exact fun h=>⟨b,rfl,h⟩
theorem Axy {p:Int->Prop} {n:Int}:IsI p (.li n)=p n:=by
 apply propext
 constructor
 ·rintro⟨b',h1,h2⟩
  injection h1 with h1
  injection h1 with _ h1
  subst h1
  exact h2
 exact fun h=>⟨n,rfl,h⟩
attribute [go_sem] Axz Axy
end
end
def IsD {D:Type} (form:D->AV) (Q:D->Prop) (r:AV):Prop:=∃d,r=form d/\Q d
theorem Em {P:Program} {f:FuncId} {args:List AV} {D:Type} {form:D->AV} {Q:D->Prop} (h:∃res,Ey P f [] args [] res/\IsD form Q res):∃d,Ey P f [] args [] (form d)/\Q d:=by
  obtain⟨res,h1,d,rfl,h2⟩:=h
  exact⟨d,h1,h2⟩
def Ct {D:Type} (f:FuncId) (args:List AV) (F:D->AV) (Q:D->Prop):Prop:=∃res,PP f [] args [] res/\IsD F Q res
section
variable {tr:Tr} {c:Operand}
section
variable {P:Program} {n m:Nat} {st s':St} {K:Exit->St->Prop} {id:Nat} {l:List Oper} {y:Code}
theorem VX.R (h:VX P n m y s' K) (hr:∀K1:St->Prop,K1 s'->runs P (Gc l) st K1:=by intro K k;simp[go_sem];exact k) (hd:Ft n l=true:=by rfl):VX P n m (.seq (.region id l.toArray false) y) st K:=.region_seq hd fun K1 h1=>hr K1 (h1 _ h)
abbrev Bq:=@VX.R
theorem VX.R1 (h:K .normal s') (hr:∀K1:St->Prop,K1 s'->runs P (Gc l) st K1:=by intro K k;simp[go_sem];exact k) (hd:Ft n l=true:=by rfl):VX P n m (.region id l.toArray false) st K:=.region1 hd fun K1 h1=>hr K1 (h1 _ h)
abbrev Ci:=@VX.R1
theorem VX.S (hr:∀K1:St->Prop,K1 s'->runs P (Gc l) st K1) (h:VX P n m y s' K) (hd:Ft n l=true:=by rfl):VX P n m (.seq (.region id l.toArray false) y) st K:=.region_seq hd fun K1 h1=>hr K1 (h1 _ h)
abbrev B3:=@VX.S
theorem VX.S1 (hr:∀K1:St->Prop,K1 s'->runs P (Gc l) st K1) (h:K .normal s') (hd:Ft n l=true:=by rfl):VX P n m (.region id l.toArray false) st K:=.region1 hd fun K1 h1=>hr K1 (h1 _ h)
abbrev Cg:=@VX.S1
theorem VX.D (h:VX P n m y s' K) (hr:∀K1:Tr->St->Prop,K1 tr s'->Gn P (Gc l) st [] K1:=by intro K k;simp[go_sem];exact k) (hm:P.follows .mixedOrders=true:=by kernel_rfl) (hd:Ft n l=true:=by rfl) (hs:Jc l=true:=by kernel_rfl) (hi:Rm l tr=true:=by kernel_rfl):VX P n m (.seq (.region id l.toArray true) y) st K:=.draw_seq hm hd hs fun K1 h1=>hr K1 (h1 _ _ hi h)
theorem VX.E (hr:∀K1:Tr->St->Prop,K1 tr s'->Gn P (Gc l) st [] K1) (h:VX P n m y s' K) (hm:P.follows .mixedOrders=true:=by kernel_rfl) (hd:Ft n l=true:=by rfl) (hs:Jc l=true:=by kernel_rfl) (hi:Rm l tr=true:=by kernel_rfl):VX P n m (.seq (.region id l.toArray true) y) st K:=.draw_seq hm hd hs fun K1 h1=>hr K1 (h1 _ _ hi h)
abbrev Cw:=@VX.E
theorem VX.E1 (hr:∀K1:Tr->St->Prop,K1 tr s'->Gn P (Gc l) st [] K1) (h:K .normal s') (hm:P.follows .mixedOrders=true:=by kernel_rfl) (hd:Ft n l=true:=by rfl) (hs:Jc l=true:=by kernel_rfl) (hi:Rm l tr=true:=by kernel_rfl):VX P n m (.region id l.toArray true) st K:=.draw1 hm hd hs fun K1 h1=>hr K1 (h1 _ _ hi h)
abbrev Dg:=@VX.E1
theorem VX.C {x:Code} (ht:Fe (st.raw c).sv=true->VX P n m x st K) (hf:Fe (st.raw c).sv=false->VX P n m y st K) (hb:Hw (st.raw c).sv=true:=by simp[go_sem]) (hs:(st.raw c).sb=true:=by simp[go_sem]):VX P n m (.cond c x y) st K:=.cond hb hs ht hf
abbrev Cl:=@VX.C
theorem VX.Q {x:Code} {p q:Prop} (ht:p->VX P n m x st K) (hf:q->VX P n m y st K) (hp:(Fe (st.raw c).sv=true)=p:=by simp[go_sem];exact Iff.rfl) (hq:(Fe (st.raw c).sv=false)=q:=by simp[go_sem];exact Iff.rfl) (hb:Hw (st.raw c).sv=true:=by simp[go_sem]) (hs:(st.raw c).sb=true:=by simp[go_sem]):VX P n m (.cond c x y) st K:=.cond hb hs (fun h=>ht (hp▸h)) fun h=>hf (hq▸h)
abbrev Br:=@VX.Q
theorem VX.F (id:Nat) (hv:VX P n m y (st.freeze id) K) (h:F5 (st.o id)=true:=by simp[go_sem,F5]):VX P n m y st K:=.freeze id h hv
abbrev Dm:=@VX.F
end
variable {P:Program} {f:FuncId} {args:List AV} {Φ:AV->Prop} {rs:List ResultVar}
theorem Er {fn:Func} {c:Code} (hf:P.funcs[f]? = some fn) (h:VX P fn.ntmps 0 c ⟨Hr 0 args,[]⟩ (Av3 P rs Φ)) (hb:fn.body=some c:=by rfl) (hn:(fn.name == "runtime.NumGoroutine")=false:=by rfl) (hrs:fn.results=rs.toArray:=by rfl) (hk:args.length<=fn.ntmps:=by exact Nat.le_of_ble_eq_true rfl):∃res,Ey P f [] args [] res/\Φ res:=Axf hf hb hn hrs hk h
theorem Fk {st:St} (h:Φ ((Kt P st rs).ren fun _=>none).low) (hc:Vk P st rs:=by simp[go_sem]):Av3 P rs Φ .ret st:=At7 hc h
variable {p:Prop} {σr:List Ob} {res:AV}
section
variable {P:Program} {n m:Nat} {st s':St} {K:Exit->St->Prop} {id:Nat} {l:List Oper} {y:Code}
theorem VX.H (e:p) (h:VX P n m y s' K) (hr:∀K1:St->Prop,p->K1 s'->runs P (Gc l) st K1:=by intro K e k;simp[go_sem,e];(repeat first | exact k | refine aK ?_)) (hd:Ft n l=true:=by rfl):VX P n m (.seq (.region id l.toArray false) y) st K:=.region_seq hd fun K1 h1=>hr K1 e (h1 _ h)
abbrev Bu:=@VX.H
theorem VX.L (e:p) (c:Ey P f [] args σr res) (h:VX P n m y s' K) (hr:∀K1:St->Prop,p->Ey P f [] args σr res->K1 s'->runs P (Gc l) st K1:=by intro K e c k;simp[go_sem,e];(repeat refine aK ?_);refine .l c ?_;simp[go_sem,e];(repeat first | exact k | refine aK ?_)) (hd:Ft n l=true:=by rfl):VX P n m (.seq (.region id l.toArray false) y) st K:=.region_seq hd fun K1 h1=>hr K1 e c (h1 _ h)
abbrev B8:=@VX.L
theorem VX.G (e:p) (h:VX P n m y s' K) (hr:∀K1:Tr->St->Prop,p->K1 tr s'->Gn P (Gc l) st [] K1:=by intro K e k;simp[go_sem,e];(repeat first | exact k | refine aK ?_)) (hm:P.follows .mixedOrders=true:=by kernel_rfl) (hd:Ft n l=true:=by rfl) (hs:Jc l=true:=by kernel_rfl) (hi:Rm l tr=true:=by kernel_rfl):VX P n m (.seq (.region id l.toArray true) y) st K:=.draw_seq hm hd hs fun K1 h1=>hr K1 e (h1 _ _ hi h)
abbrev C9:=@VX.G
theorem VX.M (e:p) (c:Ey P f [] args σr res) (h:VX P n m y s' K) (hr:∀K1:Tr->St->Prop,p->Ey P f [] args σr res->K1 tr s'->Gn P (Gc l) st [] K1:=by intro K e c k;simp[go_sem,e];(repeat refine aK ?_);refine .l c ?_;simp[go_sem,e];(repeat first | exact k | refine aK ?_)) (hm:P.follows .mixedOrders=true:=by kernel_rfl) (hd:Ft n l=true:=by rfl) (hs:Jc l=true:=by kernel_rfl) (hi:Rm l tr=true:=by kernel_rfl):VX P n m (.seq (.region id l.toArray true) y) st K:=.draw_seq hm hd hs fun K1 h1=>hr K1 e c (h1 _ _ hi h)
abbrev Dd:=@VX.M
theorem VX.H1 (e:p) (h:K .normal s') (hr:∀K1:St->Prop,p->K1 s'->runs P (Gc l) st K1:=by intro K e k;simp[go_sem,e];(repeat first | exact k | refine aK ?_)) (hd:Ft n l=true:=by rfl):VX P n m (.region id l.toArray false) st K:=.region1 hd fun K1 h1=>hr K1 e (h1 _ h)
abbrev B0:=@VX.H1
theorem VX.L1 (e:p) (c:Ey P f [] args σr res) (h:K .normal s') (hr:∀K1:St->Prop,p->Ey P f [] args σr res->K1 s'->runs P (Gc l) st K1:=by intro K e c k;simp[go_sem,e];(repeat refine aK ?_);refine .l c ?_;simp[go_sem,e];(repeat first | exact k | refine aK ?_)) (hd:Ft n l=true:=by rfl):VX P n m (.region id l.toArray false) st K:=.region1 hd fun K1 h1=>hr K1 e c (h1 _ h)
abbrev Dr:=@VX.L1
theorem VX.G1 (e:p) (h:K .normal s') (hr:∀K1:Tr->St->Prop,p->K1 tr s'->Gn P (Gc l) st [] K1:=by intro K e k;simp[go_sem,e];(repeat first | exact k | refine aK ?_)) (hm:P.follows .mixedOrders=true:=by kernel_rfl) (hd:Ft n l=true:=by rfl) (hs:Jc l=true:=by kernel_rfl) (hi:Rm l tr=true:=by kernel_rfl):VX P n m (.region id l.toArray true) st K:=.draw1 hm hd hs fun K1 h1=>hr K1 e (h1 _ _ hi h)
theorem VX.M1 (e:p) (c:Ey P f [] args σr res) (h:K .normal s') (hr:∀K1:Tr->St->Prop,p->Ey P f [] args σr res->K1 tr s'->Gn P (Gc l) st [] K1:=by intro K e c k;simp[go_sem,e];(repeat refine aK ?_);refine .l c ?_;simp[go_sem,e];(repeat first | exact k | refine aK ?_)) (hm:P.follows .mixedOrders=true:=by kernel_rfl) (hd:Ft n l=true:=by rfl) (hs:Jc l=true:=by kernel_rfl) (hi:Rm l tr=true:=by kernel_rfl):VX P n m (.region id l.toArray true) st K:=.draw1 hm hd hs fun K1 h1=>hr K1 e c (h1 _ _ hi h)
abbrev Cp:=@VX.M1
theorem Ep {D:Type} {F:D->AV} {Q:D->Prop} (e:p) (d:D) (hq:Q d) (hf:p->((Kt P st rs).ren fun _=>none).low=F d:=by intro e;simp[go_sem,e]) (hc:Vk P st rs:=by simp[go_sem]):Av3 P rs (IsD F Q) .ret st:=At7 hc ⟨d,hf e,hq⟩
end
section
variable {P:Program} {n m:Nat} {st s':St} {K:Exit->St->Prop} {y:Code}
theorem VX.Z (e:p) (id:Nat) (hv:VX P n m y s' K) (hs:p->st.freeze id=s':=by intro e;simp[go_sem,e];rfl) (h:F5 (st.o id)=true:=by simp[go_sem,F5]):VX P n m y st K:=.freeze id h (by rw[hs e];exact hv)
abbrev B2:=@VX.Z
end
end
section
def Nx (n:Nat) (f:Nat->Bool):Bool:=(List.range n).all f
variable {n:Nat} {f:Nat->Bool}
theorem Aao {i:Nat} (hi:i<n) (h:f i=false):Nx n f=false:=by
 unfold Nx
 rw[List.all_eq_false]
 exact⟨i,List.mem_range.2 hi,by simp[h]⟩
theorem Mq (h:∀i,i<n->f i=true):Nx n f=true:=by
 unfold Nx
 rw[Am]
 exact fun i hi=>h i (List.mem_range.1 hi)
theorem Ab0:Nx n f=true<->∀i,i<n->f i=true:=by
 unfold Nx
 rw[Am]
 exact⟨fun h i hi=>h i (List.mem_range.2 hi),fun h i hi=>h i (List.mem_range.1 hi)⟩
theorem Aq5 {p:Nat->Prop} {i:Nat} (h:∀k,k<i->p k) (hi:p i):∀k,k<i+1->p k:=fun k hk=>by
 by_cases e:k=i
 ·subst e;exact hi
 exact h k (by omega)
def Wr (row:Int) (q:Nat):Int:=Ex .and .i64 (row.fdiv (2 ^ min q 64)) 1
def So (c:List Int) (i:Nat):Int:=(c[i]?).getD 0
def Am0 (c:List Int) (p:Nat):Bool:=!(decide (So c p<0)||((So c p).fdiv (2 ^ min c.length 64) != 0)||(Wr (So c p) p != 0))&&Nx c.length fun q=>Wr (So c p) q == Wr (So c q) p
def Uo (c:List Int):Bool:=decide (1<=c.length)&&decide (c.length<=8)&&Nx c.length (Am0 c)
def Abo (c:List Int) (p q:Int):Bool:=decide (0<=p)&&decide (0<=q)&&decide (p<c.length)&&decide (q<c.length)&&(Wr (So c p.toNat) q.toNat == 1)
def A04 (s:Int) (p:Nat):Bool:=Ex .and .u64 ((IntKind.u64.wrap s).fdiv (2 ^ min p 64)) 1 == 1
theorem Aex (c:List Int) (hl:c.length<=1000000):PP 107 [] [.mI c] [] (.lb (Uo c)):=by
 refine Ei Tryz.func107 ?_
 refine Bw<|.seq ?_
 refine Bw ?_
 refine B7 ?_ ?_<;>intro h13
 ·refine Bw ?_
  refine B6 ?_
  simp[go_sem]
  rw[Bool.eq_false_iff];intro h;simp only[Uo,Ah,decide_eq_true_eq] at h;omega
 refine Bv<|.seq<|.R<|.block ?_
 refine Cu c.length (fun i1 (y1:Unit)=>⟨[(0,.mI c),(14,.mI c),(15,.li c.length),(16,.li i1)],[]⟩) (fun i1 y1=>∀k,k<i1->Am0 c k=true) (()) (wQ [] ?_ ?_) (by intro k h;omega) fun i1 y1 hi1 hy1=>?_
 ·simp[go_sem]
 ·simp[go_sem]
 refine Bw<|.seq ?_
 refine B7 ?_ ?_<;>intro h17
 ·have hx:c[i1]? = some c[i1]:=Aa (by omega)
  generalize c[i1]=x at hx
  have hxa:So c i1=x:=by simp[So,hx]
  refine Bv<|.seq<|.block<|.H hx<|.seq ?_
  refine VW.H Dy ?_
  refine B7 ?_ ?_<;>intro h36
  ·refine Bw ?_
   refine B6 ?_
   simp[go_sem]
   rw[Bool.eq_false_iff];intro h;simp only[Uo,Ah] at h;have h2:=Ab0.1 h.2 i1 h17;simp only[Am0,Ah,hxa,Bool.not_eq_true',Bool.or_eq_false_iff,decide_eq_false_iff_not,bne_eq_false_iff_eq] at h2;rcases h36 with (h36 | h36) | h36;exact h2.1.1.1 h36;exact h36 h2.1.1.2;exact h36 h2.1.2
  refine Bv<|.R<|.block ?_
  refine Cu c.length (fun i2 (y2:Unit)=>⟨[(0,.mI c),(3,.li i1),(4,.li x),(14,.mI c),(15,.li c.length),(16,.li i1),(38,.li c.length),(39,.li i2)],[]⟩) (fun i2 y2=>∀k,k<i2->(Wr (So c i1) k == Wr (So c k) i1)=true) (()) (wQ [] ?_ ?_) (by intro k h;omega) fun i2 y2 hi2 hy2=>?_
  ·simp[go_sem]
  ·simp[go_sem]
  refine Bw<|.seq ?_
  refine B7 ?_ ?_<;>intro h40
  ·have hz:c[i2]? = some c[i2]:=Aa (by omega)
   generalize c[i2]=z at hz
   have hza:So c i2=z:=by simp[So,hz]
   refine Bv<|.seq<|.block<|.R ?_
   refine VW.G (Fa hx hz) ?_
   refine B7 ?_ ?_<;>intro h53
   ·refine Bw ?_
    refine B6 ?_
    simp[go_sem]
    rw[Bool.eq_false_iff];intro h;simp only[Uo,Ah] at h;have h2:=Ab0.1 h.2 i1 h17;simp only[Am0,Ah] at h2;have h3:=Ab0.1 h2.2 i2 h40;rw[hxa,hza] at h3;exact h53 (by simpa[Wr] using h3)
   refine Bv<|.R1 ?_
   refine⟨by omega,(),?_,wQ [] ?_ ?_⟩
   ·refine Aq5 hy2 ?_;rw[hxa,hza];simpa[Wr] using h53
   ·simp[go_sem,Dw ((i2:Int)+1)]
   simp[go_sem]
  refine B5<|.R1 ?_
  refine⟨by omega,(),?_,wQ [] ?_ ?_⟩
  ·refine Aq5 hy1 ?_;simp only[Am0,hxa,Ah];refine⟨?_,Mq (by intro k hk;have:=hy2 k (by omega);rwa[hxa] at this)⟩;have hn:¬x<0:=(by omega);simp[Wr,hn,h36.1.2,h36.2]
  ·simp[go_sem,Dw ((i1:Int)+1)]
  simp[go_sem]
 refine B5<|.R ?_
 refine B6 ?_
 simp[go_sem]
 have he:i1=c.length:=by omega
 subst he
 simp only[Uo,Ah,decide_eq_true_eq];exact⟨⟨by omega,by omega⟩,Mq hy1⟩
theorem Acd (s:Int) (p:Nat):PP 247 [] [.li s,.li p] [] (.lb (A04 s p)):=by
 refine Ei Tryz.func247 ?_
 refine Bw ?_
 refine VW.H Dy ?_
 refine B6 ?_
 simp[go_sem,A04]
theorem Ia (c:List Int) (p q:Int) (hl:c.length<=1000000):PP 142 [] [.mI c,.li p,.li q] [] (.lb (Abo c p q)):=by
 refine Ei Tryz.func142 ?_
 refine Bw<|.seq ?_
 refine Bw ?_
 refine B7 ?_ ?_<;>intro h24
 ·refine Bw ?_
  refine B6 ?_
  simp[go_sem]
  first
   | (rw[Bool.eq_false_iff];intro h;simp only[Abo,Ah,decide_eq_true_eq] at h;omega)
   | (have h1:=h24.1.1.1;have h2:=h24.1.1.2;have h3:=h24.1.2;have h4:=h24.2;simp[Abo,Wr,hxa,h1,h2,h3,h4])
 have hx:c[p.toNat]? = some c[p.toNat]:=Aa (by omega)
 generalize c[p.toNat]=x at hx
 have hxa:So c p.toNat=x:=by simp only[So,hx,Bh]
 refine Bv<|.H hx ?_
 refine B6 ?_
 simp[go_sem]
 first
  | (rw[Bool.eq_false_iff];intro h;simp only[Abo,Ah,decide_eq_true_eq] at h;omega)
  | (have h1:=h24.1.1.1;have h2:=h24.1.1.2;have h3:=h24.1.2;have h4:=h24.2;simp[Abo,Wr,hxa,h1,h2,h3,h4])
def A27 (r:AV):Prop:=∃a b:Int,r=.tup [.li a,.li b]
theorem Aem (c:List Int) (s:Int) (hl:c.length<=1000000):∃res,PP 220 [] [.mI c,.li s] [] res/\A27 res:=by
 refine Er Tryz.func220 ?_
 refine Bq<|.seq ?_
 refine Bq<|.block ?_
 refine VX.range c.length (fun i1=>⟨[(0,.mI c),(1,.li s),(9,.li c.length),(10,.li i1)],[]⟩) (wk Dy []) fun i1 hi1=>?_
 refine Bq<|.seq ?_
 refine Br ?_ ?_<;>intro h11
 ·refine Bp<|.seq<|.block<|.R<|.seq ?_
  refine B8 Dy (Acd s i1) ?_
  refine Br ?_ ?_<;>intro h16
  ·refine Bt<|.R1 ?_
   refine⟨by omega,wQ [] ?_ ?_⟩
   ·simp[go_sem,Dw ((i1:Int)+1)]
   simp[go_sem]
  refine Bp<|.R<|.block ?_
  refine VX.range c.length (fun i2=>⟨[(0,.mI c),(1,.li s),(6,.li i1),(9,.li c.length),(10,.li i1),(18,.li c.length),(19,.li i2)],[]⟩) (wk Dy []) fun i2 hi2=>?_
  refine Bq<|.seq ?_
  refine Br ?_ ?_<;>intro h20
  ·refine Bp<|.seq<|.block<|.R ?_
   refine B4 (by rfl) fun K1 hK1=>?_
   simp[go_sem]
   refine P3 ?_
   simp[go_sem]
   refine .lo (Acd s i2) rfl (by simp) ?_
   simp[go_sem]
   refine P3 ?_
   simp[go_sem]
   refine .lo (Ia c i1 i2 hl) rfl (by simp) ?_
   simp[go_sem]
   refine hK1 _ ?_;clear hK1
   refine Br ?_ ?_<;>intro h35
   ·refine Bq ?_
    refine Bz (Fk ?_);simp[go_sem]
    exact⟨_,_,rfl⟩
   refine Bp<|.R1 ?_
   refine⟨by omega,wQ [] ?_ ?_⟩
   ·simp[go_sem,Dw ((i2:Int)+1)]
   simp[go_sem]
  refine Bt<|.R1 ?_
  refine⟨by omega,wQ [] ?_ ?_⟩
  ·simp[go_sem,Dw ((i1:Int)+1)]
  simp[go_sem]
 refine Bt<|.R ?_
 refine Bz (Fk ?_);simp[go_sem]
 exact⟨_,_,rfl⟩
end
section
def Ev (n lo hi:Int):Bool:=decide (lo<=n)&&decide (n<=hi)
def I9 (p:F4):Bool:=(Ev p.ring 0 1&&Ev p.grp 0 3)&&(Ev p.mi 1 60&&Ev p.ma 1 60&&Ev p.ye 1 60)&&(Ev p.re 0 60&&Ev p.wa 0 60&&Ev p.cl 0 60) &&
 (decide (p.mi<=p.ma)&&decide (IntKind.i64.wrap (p.wa+p.cl)<=p.ma)&&((p.wa == 0) == (p.cl == 0)))
variable {α:Type}
theorem Atd {l:List α} {p:α->Prop} {i:Nat} {y:α} (h:∀k x,k<i->l[k]? = some x->p x) (hy:l[i]? = some y) (hi:p y):∀k x,k<i+1->l[k]? = some x->p x:=fun k x hk hx=>by
 by_cases e:k=i
 ·subst e;rw[hy] at hx;injection hx with hx;subst hx;exact hi
 exact h k x (by omega) hx
def Ns (j:Ga) (p:Nat):F4:=(j.phs[p]?).getD ⟨0,0,0,0,0,0,0,0⟩
def Aac (j:Ga) (p q:Nat):Bool:=(p != q)&&((Ns j p).ring == (Ns j q).ring||(Ns j p).grp != (Ns j q).grp) && !Abo j.con p q
def Xh (j:Ga):Bool:=Nx j.phs.length fun p=>Nx j.phs.length fun q=>!Aac j p q
theorem Es (n lo hi:Int):PP 79 [] [.li n,.li lo,.li hi] [] (.lb (Ev n lo hi)):=by
 refine Ei Tryz.func79 ?_
 iterate 2 refine Bw ?_
 refine B6 ?_
 simp[go_sem,Ev]
theorem Ajj (p:F4):PP 108 [] [p.g] [] (.lb (I9 p)):=by
 refine Ei Tryz.func108 ?_
 refine Bw<|.seq ?_
 refine Bx (by rfl) fun K1 hK1=>?_
 simp[go_sem]
 refine .lo (Es _ _ _) rfl (by simp) ?_
 simp[go_sem]
 refine P3 ?_
 simp[go_sem]
 refine .lo (Es _ _ _) rfl (by simp) ?_
 simp[go_sem]
 refine hK1 _ ?_;clear hK1
 refine B7 ?_ ?_<;>intro h12
 ·refine Bw ?_
  refine B6 ?_
  simp[go_sem]
  unfold I9
  revert h12
  cases Ev p.ring 0 1<;>cases Ev p.grp 0 3<;>simp[I9]
 refine Bv<|.seq ?_
 refine Bx (by rfl) fun K1 hK1=>?_
 simp[go_sem]
 refine .lo (Es _ _ _) rfl (by simp) ?_
 simp[go_sem]
 refine P3 ?_
 simp[go_sem]
 refine .lo (Es _ _ _) rfl (by simp) ?_
 simp[go_sem]
 refine P3 ?_
 simp[go_sem]
 refine .lo (Es _ _ _) rfl (by simp) ?_
 simp[go_sem]
 refine hK1 _ ?_;clear hK1
 refine B7 ?_ ?_<;>intro h28
 ·refine Bw ?_
  refine B6 ?_
  simp[go_sem]
  unfold I9
  revert h28
  cases Ev p.mi 1 60<;>cases Ev p.ma 1 60<;>cases Ev p.ye 1 60<;>simp[I9]
 refine Bv<|.seq ?_
 refine Bx (by rfl) fun K1 hK1=>?_
 simp[go_sem]
 refine .lo (Es _ _ _) rfl (by simp) ?_
 simp[go_sem]
 refine P3 ?_
 simp[go_sem]
 refine .lo (Es _ _ _) rfl (by simp) ?_
 simp[go_sem]
 refine P3 ?_
 simp[go_sem]
 refine .lo (Es _ _ _) rfl (by simp) ?_
 simp[go_sem]
 refine hK1 _ ?_;clear hK1
 refine B7 ?_ ?_<;>intro h44
 ·refine Bw ?_
  refine B6 ?_
  simp[go_sem]
  unfold I9
  revert h44
  cases Ev p.re 0 60<;>cases Ev p.wa 0 60<;>cases Ev p.cl 0 60<;>simp[I9]
 refine Bv<|.R ?_
 refine B6 ?_
 simp[go_sem]
 simp_all[I9]
theorem Ajk (j:Ga) (h1:j.phs.length<=1000000) (h2:j.con.length<=1000000):PP 109 [] [j.g] [] (.lb (Xh j)):=by
 refine Ei Tryz.func109 ?_
 refine Bw ?_
 refine VW.scope ?_
 refine Bw<|.seq ?_
 refine VW.label ?_
 refine Du<|.R<|.block ?_
 refine Cu j.phs.length (fun i1 (y1:Unit)=>⟨[(1,.ptr 0 0),(3,.lb true),(9,.mPhase j.phs),(10,.li j.phs.length),(11,.li i1)],[.box 88 (j.a false)]⟩) (fun i1 y1=>∀k,k<i1->(Nx j.phs.length fun q=>!Aac j k q)=true) (()) (wQ [0] ?_ ?_) (by intro k h;omega) fun i1 y1 hi1 hy1=>?_
 ·simp[go_sem]
 ·simp[go_sem]
 refine Bw<|.seq ?_
 refine B7 ?_ ?_<;>intro h12
 ·have hxa:j.phs[i1]? = some j.phs[i1]:=Aa (by omega)
  generalize j.phs[i1]=a at hxa
  have haa:Ns j i1=a:=by simp only[Ns,hxa,Bh]
  refine Bv<|.seq<|.block<|.H hxa ?_
  refine Bw<|.block ?_
  refine Cu j.phs.length (fun i2 (y2:Unit)=>⟨[(1,.ptr 0 0),(3,.lb true),(4,.li i1),(5,.ptr 1 0),(9,.mPhase j.phs),(10,.li j.phs.length),(11,.li i1),(17,.mPhase j.phs),(18,.li j.phs.length),(19,.li i2)],[.box 88 (j.a false),.box 124 (a.a false)]⟩) (fun i2 y2=>∀k,k<i2->(!Aac j i1 k)=true) (()) (wQ [0,1] ?_ ?_) (by intro k h;omega) fun i2 y2 hi2 hy2=>?_
  ·simp[go_sem]
  ·simp[go_sem]
  refine Bw<|.seq ?_
  refine B7 ?_ ?_<;>intro h20
  ·have hxb:j.phs[i2]? = some j.phs[i2]:=Aa (by omega)
   generalize j.phs[i2]=b at hxb
   have hab:Ns j i2=b:=by simp only[Ns,hxb,Bh]
   refine Bv<|.seq<|.block<|.H hxb ?_
   refine Bx (by rfl) fun K1 hK1=>?_
   simp +contextual[go_sem]
   refine P3 ?_
   simp +contextual[go_sem]
   refine .lo (Ia j.con i1 i2 h2) rfl (by simp) ?_
   simp +contextual[go_sem]
   refine hK1 _ ?_;clear hK1
   refine B7 ?_ ?_<;>intro h48
   ·refine Bw<|.exit ?_
    refine Bw ?_
    refine B6 ?_
    simp[go_sem]
    have e:i1≠i2:=by omega
    have hb:Aac j i1 i2=true:=by simp[Aac,haa,hab,e,h48.2];exact h48.1.2
    exact Aao h12 (Aao h20 (by simp[hb]))
   refine Bv<|.R1 ?_
   refine⟨by omega,(),?_,wQ [0,1] ?_ ?_⟩
   ·refine Aq5 hy2 ?_;by_cases e:i1=i2;simp[Aac,e];have h:=h48 (by omega);by_cases c1:a.ring=b.ring\/¬a.grp=b.grp;simp[Aac,h c1];rw[not_or,Classical.not_not] at c1;simp[Aac,haa,hab,c1.1,c1.2]
   ·simp[go_sem,Dw ((i2:Int)+1)]
   simp[go_sem]
  refine B5<|.R1 ?_
  refine⟨by omega,(),?_,wQ [0] ?_ ?_⟩
  ·refine Aq5 hy1 (Mq (by intro k hk;exact hy2 k (by omega)))
  ·simp[go_sem,Dw ((i1:Int)+1)]
  simp[go_sem]
 refine B5<|.R ?_
 refine B6 ?_
 simp[go_sem]
 exact Mq fun k hk=>hy1 k (by omega)
def Aab (j:Ga):Nat->Int
 | 0=>0
 | i+1=>Ex .or .i64 (Aab j i) (IntKind.i64.wrap (1*2 ^ min (Ns j i).grp.toNat 64))
def Q8 (j:Ga):Bool:=decide (1<=j.phs.length)&&decide (j.phs.length<=8)&&decide (j.con.length=j.phs.length)&&Uo j.con&&Ev j.start 0 60&&Nx j.phs.length (fun p=>I9 (Ns j p)) &&
 (Ex .and .i64 (Aab j j.phs.length) (IntKind.i64.wrap (Aab j j.phs.length+1)) == 0)&&Xh j
theorem R0 {p:F4} (h:I9 p=true):0<=p.ring/\p.ring<=1/\0<=p.grp/\p.grp<=3:=by
 simp only[I9,Ev,Ah,decide_eq_true_eq] at h
 omega
theorem Pr (j:Ga) (h1:j.phs.length<=1000000) (h2:j.con.length<=1000000):PP 80 [] [j.g] [] (.lb (Q8 j)):=by
 refine Ei Tryz.func80 ?_
 refine Bw ?_
 refine Bw<|.seq ?_
 refine Bx (by rfl) fun K1 hK1=>?_
 simp[go_sem]
 refine P3 ?_
 simp[go_sem]
 refine .lo (Aex j.con h2) rfl (by simp) ?_
 simp[go_sem]
 refine hK1 _ ?_;clear hK1
 refine B7 ?_ ?_<;>intro h28
 ·refine Bw ?_
  refine B6 ?_
  simp[go_sem]
  rw[Bool.eq_false_iff];intro h;simp only[Q8,Ah,decide_eq_true_eq] at h;rcases h28 with ((h28 | h28) | h28) | h28<;>first | omega | simp_all
 refine Bv<|.seq<|.S (fun K kk=>by simp[go_sem];refine .lo (Es _ _ _) rfl (by simp) ?_;simp[go_sem];exact kk) ?_
 refine B7 ?_ ?_<;>intro h32
 ·refine Bw ?_
  refine B6 ?_
  simp[go_sem]
  simp[Q8,h32]
 refine Bv<|.R<|.seq ?_
 refine Bw<|.block ?_
 refine Cu j.phs.length (fun i1 (y1:Unit)=>⟨[(1,.ptr 0 0),(4,.li (Aab j i1)),(34,.mPhase j.phs),(35,.li j.phs.length),(36,.li i1)],[.box 88 (j.a false)]⟩) (fun i1 y1=>∀k,k<i1->I9 (Ns j k)=true) (()) (wQ [0] ?_ ?_) (by intro k h;omega) fun i1 y1 hi1 hy1=>?_
 ·simp[go_sem,Aab]
 ·simp[go_sem,Aab]
 refine Bw<|.seq ?_
 refine B7 ?_ ?_<;>intro h37
 ·have hxa:j.phs[i1]? = some j.phs[i1]:=Aa (by omega)
  generalize j.phs[i1]=a at hxa
  have haa:Ns j i1=a:=by simp only[Ns,hxa,Bh]
  refine Bv<|.seq<|.block<|.H hxa<|.seq ?_
  refine Di Dy (Ajj a) ?_
  refine B7 ?_ ?_<;>intro h42
  ·refine Bw ?_
   refine B6 ?_
   simp[go_sem]
   have ha:Nx j.phs.length (fun p=>I9 (Ns j p))=false:=Aao h37 (by simp[haa,h42])
   simp[Q8,ha]
  have hg:=R0 h42
  refine Bv<|.H1 Dy ?_
  refine Cm ?_
  refine⟨by omega,(),?_,wQ [0] ?_ ?_⟩
  ·refine Aq5 hy1 ?_;rw[haa];exact h42
  ·simp[go_sem,Dw ((i1:Int)+1),Aab,haa]
  simp[go_sem,Aab,haa]
 refine B5 ?_
 refine Bx (by rfl) fun K1 hK1=>?_
 simp[go_sem]
 refine P3 ?_
 simp[go_sem]
 refine .lo (Ajk j h1 h2) rfl (by simp) ?_
 simp[go_sem]
 refine hK1 _ ?_;clear hK1
 refine B6 ?_
 simp[go_sem]
 have he:i1=j.phs.length:=by omega
 subst he
 have ha:Nx j.phs.length (fun p=>I9 (Ns j p))=true:=Mq hy1
 have h3:=h28.1.1.1;have h4:=h28.1.1.2;have h5:=h28.1.2;have h6:1<=j.phs.length:=(by omega);have h7:j.phs.length<=8:=(by omega);have h8:j.con.length=j.phs.length:=(by omega)
 simp[Q8,ha,h32,h28.2,h6,h7,h8]
def Afq (a:H0):Bool:=decide (a.sec.length=8)&&decide (a.lims.length=4)&&Nx a.lims.length (fun i=>Ev (So a.lims i) 0 8)&&(Ev a.ri 0 63&&Ev a.cls 0 3&&Ev a.rq 0 4&&Ev a.se 1 2&&Ev a.bu 0 1000&&Ev a.ra 0 a.bu)
theorem Xz (a:H0) (h1:a.sec.length<=1000000) (h2:a.lims.length<=1000000):PP 81 [] [a.g] [] (.lb (Afq a)):=by
 refine Ei Tryz.func81 ?_
 refine Bw<|.seq ?_
 refine Bw ?_
 refine B7 ?_ ?_<;>intro h14
 ·refine Bw ?_
  refine B6 ?_
  simp[go_sem]
  have hh:¬(a.sec.length=8/\a.lims.length=4):=by omega
  rw[Bool.eq_false_iff];intro h;simp only[Afq,Ah,decide_eq_true_eq] at h;exact hh h.1.1
 refine Bv<|.seq<|.R<|.block ?_
 refine Cu a.lims.length (fun i1 (y1:Unit)=>⟨[(1,.ptr 0 0),(16,.mI a.lims),(17,.li a.lims.length),(18,.li i1)],[.box 60 (a.a false)]⟩) (fun i1 y1=>∀k,k<i1->Ev (So a.lims k) 0 8=true) (()) (wQ [0] ?_ ?_) (by intro k h;omega) fun i1 y1 hi1 hy1=>?_
 ·simp[go_sem]
 ·simp[go_sem]
 refine Bw<|.seq ?_
 refine B7 ?_ ?_<;>intro h19
 ·have hxx:a.lims[i1]? = some a.lims[i1]:=Aa (by omega)
  generalize a.lims[i1]=x at hxx
  have hax:So a.lims i1=x:=by simp only[So,hxx,Bh]
  refine Bv<|.seq<|.block<|.H hxx ?_
  refine Cc (fun K kk=>by simp[go_sem];refine .lo (Es _ _ _) rfl (by simp) ?_;simp[go_sem];exact kk) ?_
  refine B7 ?_ ?_<;>intro h24
  ·refine Bw ?_
   refine B6 ?_
   simp[go_sem]
   have ha:Nx a.lims.length (fun i=>Ev (So a.lims i) 0 8)=false:=Aao h19 (by simp[hax,h24])
   simp[Afq,ha]
  refine Bv<|.R1 ?_
  refine⟨by omega,(),?_,wQ [0] ?_ ?_⟩
  ·refine Aq5 hy1 ?_;rw[hax];exact h24
  ·simp[go_sem,Dw ((i1:Int)+1)]
  simp[go_sem]
 refine B5 ?_
 refine Bx (by rfl) fun K1 hK1=>?_
 simp[go_sem]
 refine .lo (Es _ _ _) rfl (by simp) ?_
 simp[go_sem]
 refine P3 ?_
 simp[go_sem]
 refine .lo (Es _ _ _) rfl (by simp) ?_
 simp[go_sem]
 refine P3 ?_
 simp[go_sem]
 refine .lo (Es _ _ _) rfl (by simp) ?_
 simp[go_sem]
 refine P3 ?_
 simp[go_sem]
 refine .lo (Es _ _ _) rfl (by simp) ?_
 simp[go_sem]
 refine P3 ?_
 simp[go_sem]
 refine .lo (Es _ _ _) rfl (by simp) ?_
 simp[go_sem]
 refine P3 ?_
 simp[go_sem]
 refine .lo (Es _ _ _) rfl (by simp) ?_
 simp[go_sem]
 refine hK1 _ ?_;clear hK1
 refine B6 ?_
 simp[go_sem]
 have he:i1=a.lims.length:=by omega
 subst he
 have ha:Nx a.lims.length (fun i=>Ev (So a.lims i) 0 8)=true:=Mq hy1
 have h6:a.sec.length=8:=(by omega);have h7:a.lims.length=4:=(by omega)
 simp only[Afq,ha,h6,decide_true,Bool.true_and]
 rw[decide_eq_true h7,Bool.true_and,Bool.true_and]
structure Ab4 (c:Fc):Prop where
  juns:c.juns.length<=1000000
  ags:c.ags.length<=1000000
  jun:∀j∈c.juns,j.phs.length<=1000000/\j.con.length<=1000000
  ag:∀a∈c.ags,a.sec.length<=1000000/\a.lims.length<=1000000
def Mo (c:Fc):Bool:=Ev c.juns.length 1 4&&Ev c.ags.length 1 4&&c.juns.all Q8&&c.ags.all Afq&&(Ev c.per 1 600&&Ev c.cap 0 100&&Ev c.hold 1 60&&Ev c.lock 0 600)
theorem Avq {l:List α} {f:α->Bool} {i:Nat} {x:α} (hx:l[i]? = some x) (h:f x=false):l.all f=false:=by
 rw[List.all_eq_false]
 exact⟨x,Ac hx,by simp[h]⟩
theorem Aqv {l:List α} {f:α->Bool} (h:∀i x,i<l.length->l[i]? = some x->f x=true):l.all f=true:=by
 rw[Am]
 intro x hx
 obtain⟨i,hi⟩:=A3.1 hx
 exact h i x (Ab.1 hi).1 hi
theorem Ag7 (c:Fc) (hb:Ab4 c):PP 53 [] [c.g] [] (.lb (Mo c)):=by
 refine Ei Tryz.func53 ?_
 have hb1:=hb.juns
 have hb2:=hb.ags
 refine Bw<|.seq ?_
 refine Bx (by rfl) fun K1 hK1=>?_
 simp[go_sem]
 refine .lo (Es _ _ _) rfl (by simp) ?_
 simp[go_sem]
 refine P3 ?_
 simp[go_sem]
 refine .lo (Es _ _ _) rfl (by simp) ?_
 simp[go_sem]
 refine hK1 _ ?_;clear hK1
 refine B7 ?_ ?_<;>intro h18
 ·refine Bw ?_
  refine B6 ?_
  simp[go_sem]
  rcases h18 with h | h<;>simp[Mo,h]
 refine Bv<|.seq<|.R<|.block ?_
 refine Cu c.juns.length (fun i1 (y1:Unit)=>⟨[(1,.ptr 0 0),(20,.mJun c.juns),(21,.li c.juns.length),(22,.li i1)],[.box 30 (c.a false)]⟩) (fun i1 y1=>∀k x,k<i1->c.juns[k]? = some x->Q8 x=true) (()) (wQ [0] ?_ ?_) (by intro k x h;omega) fun i1 y1 hi1 hy1=>?_
 ·simp[go_sem]
 ·simp[go_sem]
 refine Bw<|.seq ?_
 refine B7 ?_ ?_<;>intro h23
 ·have hxa:c.juns[i1]? = some c.juns[i1]:=Aa (by omega)
  generalize c.juns[i1]=a at hxa
  refine Bv<|.seq<|.block<|.H hxa ?_
  refine Di Dy (Pr a (hb.jun a (Ac hxa)).1 (hb.jun a (Ac hxa)).2) ?_
  refine B7 ?_ ?_<;>intro h28
  ·refine Bw ?_
   refine B6 ?_
   simp[go_sem]
   have ha:c.juns.all Q8=false:=Avq hxa h28
   simp[Mo,ha]
  refine Bv<|.R1 ?_
  refine⟨by omega,(),?_,wQ [0] ?_ ?_⟩
  ·exact Atd hy1 hxa (by first | exact h27 | exact h26 | exact h28)
  ·simp[go_sem,Dw ((i1:Int)+1)]
  simp[go_sem]
 refine B5<|.seq<|.R<|.block ?_
 refine Cu c.ags.length (fun i2 (y2:Unit)=>⟨[(1,.ptr 0 0),(31,.mAg c.ags),(32,.li c.ags.length),(33,.li i2)],[.box 30 (c.a false)]⟩) (fun i2 y2=>∀k x,k<i2->c.ags[k]? = some x->Afq x=true) (()) (wQ [0] ?_ ?_) (by intro k x h;omega) fun i2 y2 hi2 hy2=>?_
 ·simp[go_sem]
 ·simp[go_sem]
 refine Bw<|.seq ?_
 refine B7 ?_ ?_<;>intro h34
 ·have hxa:c.ags[i2]? = some c.ags[i2]:=Aa (by omega)
  generalize c.ags[i2]=a at hxa
  refine Bv<|.seq<|.block<|.H hxa ?_
  refine Di Dy (Xz a (hb.ag a (Ac hxa)).1 (hb.ag a (Ac hxa)).2) ?_
  refine B7 ?_ ?_<;>intro h39
  ·refine Bw ?_
   refine B6 ?_
   simp[go_sem]
   have ha:c.ags.all Afq=false:=Avq hxa h39
   simp[Mo,ha]
  refine Bv<|.R1 ?_
  refine⟨by omega,(),?_,wQ [0] ?_ ?_⟩
  ·exact Atd hy2 hxa (by first | exact h37 | exact h38 | exact h39)
  ·simp[go_sem,Dw ((i2:Int)+1)]
  simp[go_sem]
 refine B5 ?_
 refine Bx (by rfl) fun K1 hK1=>?_
 simp[go_sem]
 refine .lo (Es _ _ _) rfl (by simp) ?_
 simp[go_sem]
 refine P3 ?_
 simp[go_sem]
 refine .lo (Es _ _ _) rfl (by simp) ?_
 simp[go_sem]
 refine P3 ?_
 simp[go_sem]
 refine .lo (Es _ _ _) rfl (by simp) ?_
 simp[go_sem]
 refine P3 ?_
 simp[go_sem]
 refine .lo (Es _ _ _) rfl (by simp) ?_
 simp[go_sem]
 refine hK1 _ ?_;clear hK1
 refine B6 ?_
 simp[go_sem]
 have e1:i1=c.juns.length:=by omega
 have e2:i2=c.ags.length:=by omega
 subst e1 e2
 have h5:c.juns.all Q8=true:=Aqv hy1
 have h6:c.ags.all Afq=true:=Aqv hy2
 simp only[Mo,h18.1,h18.2,h5,h6,Bool.true_and]
def J5 (j:Ga) (r g:Int):Nat->List Int
 | 0=>[]
 | i+1=>if (Ns j i).ring=r/\(Ns j i).grp=g then J5 j r g i++[(i:Int)] else J5 j r g i
theorem Zb (j:Ga) (r g:Int):∀i,(J5 j r g i).length<=i
 | 0=>by simp[J5]
 | i+1=>by
  have:=Zb j r g i
  simp only[J5]
  split
  ·simp;omega
  omega
def Amt (j:Ga) (r g:Int):List Int:=J5 j r g j.phs.length
section
variable (j:Ga) (r g:Int) (h1:j.phs.length<=1000000)
include r g h1
theorem Alq:PP 224 [] [j.g,.li r,.li g] [.row 3 1 true false (tI (Amt j r g))] (.own 0 (Amt j r g).length):=by
 refine Ei Tryz.func224 ?_
 refine Bw ?_
 refine Bw<|.seq ?_
 refine Bw<|.block ?_
 refine Cn 7 3 1 (by decide) (k':=1) (by simp[go_sem]) ?_
 simp[go_sem]
 refine Cb j.phs.length (fun i1=>⟨[(1,.li r),(2,.li g),(7,.own 0 (J5 j r g i1).length),(11,.mPhase j.phs),(12,.li j.phs.length),(13,.li i1)],[.row 3 1 true false (tI (J5 j r g i1))]⟩) (wQ [1] ?_ ?_) fun i1 hi1=>?_
 ·simp[go_sem,J5]
 ·simp[go_sem,J5]
 refine Bw<|.seq ?_
 refine B7 ?_ ?_<;>intro h14
 ·have hxa:j.phs[i1]? = some j.phs[i1]:=Aa (by omega)
  generalize j.phs[i1]=a at hxa
  have haa:Ns j i1=a:=by simp only[Ns,hxa,Bh]
  have hln:=Zb j r g i1
  refine Bv<|.seq<|.block<|.H hxa ?_
  refine Bw ?_
  refine B7 ?_ ?_<;>intro h27
  ·have hOf:J5 j r g (i1+1)=J5 j r g i1++[(i1:Int)]:=by simp only[J5];rw[haa,if_pos h27]
   refine VW.H1 Dy ?_
   refine Cm ?_
   refine⟨by omega,wQ [0] ?_ ?_⟩
   ·simp[go_sem,Dw ((i1:Int)+1),hOf,h14,h27]
   simp[go_sem,hOf,h14,h27]
  have hOf:J5 j r g (i1+1)=J5 j r g i1:=by simp only[J5];rw[haa,if_neg (fun h=>h27 h.1 h.2)]
  refine Bv<|.R1 ?_
  refine⟨by omega,wQ [0] ?_ ?_⟩
  ·simp[go_sem,Dw ((i1:Int)+1),hOf,h14,h27]
  simp[go_sem,hOf,h14,h27]
 refine B5<|.R ?_
 have he:i1=j.phs.length:=by omega
 subst he
 refine VW.ret (Tb [0] (by simp[go_sem]) (by decide) (by simp) (by simp[go_sem,Amt]) ?_)
 repeat' (first | exact .nil | refine .cons (by simp[go_sem,Amt]) ?_)
theorem Aq4:PP 224 [] [j.g,.li r,.li g] [] (.mI (Amt j r g)):=(Alq j r g h1).frozA (by simp[go_sem])
end
end
section
def Apb (r:Int):Int:=if Ex .and .u32 r 1=1 then Ex .xor .u32 (r.fdiv (2 ^ min 1 32)) 3988292384 else r.fdiv (2 ^ min 1 32)
def Af6 (r:Int):Nat->Int
 | 0=>r
 | i+1=>Apb (Af6 r i)
def Tk (l:List Int) (i:Nat):Int:=(l[i]?).getD 0
def Adx (s:Int) (l:List Int):Nat->Int
 | 0=>Ex .xor .u32 IntKind.u32.max s
 | i+1=>Af6 (Ex .xor .u32 (Adx s l i) (IntKind.u32.wrap (Tk l i))) 8
def Ave (s:Int) (l:List Int):Int:=Ex .xor .u32 IntKind.u32.max (Adx s l l.length)
theorem Ib:(if IntKind.u32.signed=true then (-1:Int) else IntKind.u32.max)=IntKind.u32.max:=rfl
def Ww (l:List Int):Int:=Ave 0 l
theorem Ajr (s:Int) (l:List Int) (hl:l.length<=1000000):PP 181 [] [.lit (.int .u32 s),.mY l] [] (.lit (.int .u32 (Ave s l))):=by
 refine Ei Tryz.func181 ?_
 refine Bw ?_
 refine Bw<|.seq ?_
 refine Bw<|.block ?_
 refine Cb l.length (fun i1=>⟨[(5,.lit (.int .u32 (Adx s l i1))),(11,.mY l),(12,.li l.length),(13,.li i1)],[]⟩) (wQ [] ?_ ?_) fun i1 hi1=>?_
 ·simp[go_sem,Adx,Ib]
 ·simp[go_sem,Adx,Ib]
 refine Bw<|.seq ?_
 refine B7 ?_ ?_<;>intro h14
 ·have hxx:l[i1]? = some l[i1]:=Aa (by omega)
  generalize l[i1]=x at hxx
  have hax:Tk l i1=x:=by simp only[Tk,hxx,Bh]
  refine Bv<|.seq<|.block<|.H hxx ?_
  refine Bw ?_
  refine Bw<|.block ?_
  refine Cb 8 (fun i2=>⟨[(5,.lit (.int .u32 (Af6 (Ex .xor .u32 (Adx s l i1) (IntKind.u32.wrap x)) i2))),(11,.mY l),(12,.li l.length),(13,.li i1),(21,.li i2)],[]⟩) (wQ [] ?_ ?_) fun i2 hi2=>?_
  ·simp[go_sem,Af6]
  ·simp[go_sem,Af6]
  refine Bw<|.seq ?_
  refine B7 ?_ ?_<;>intro h22
  ·refine Bv<|.seq<|.block<|.R ?_
   refine VW.H Dy ?_
   refine Bw ?_
   refine B7 ?_ ?_<;>intro h28
   ·have hs:Af6 (Ex .xor .u32 (Adx s l i1) (IntKind.u32.wrap x)) (i2+1)=Ex .xor .u32 ((Af6 (Ex .xor .u32 (Adx s l i1) (IntKind.u32.wrap x)) i2).fdiv (2 ^ min 1 32)) 3988292384:=by simp only[Af6,Apb];rw[if_pos h28]
    refine Cm ?_
    refine Cm ?_
    refine⟨by omega,wQ [] ?_ ?_⟩
    ·simp[go_sem,Dw ((i2:Int)+1),hs,h14,h22,h28]
    simp[go_sem,hs,h14,h22,h28]
   have hs:Af6 (Ex .xor .u32 (Adx s l i1) (IntKind.u32.wrap x)) (i2+1)=(Af6 (Ex .xor .u32 (Adx s l i1) (IntKind.u32.wrap x)) i2).fdiv (2 ^ min 1 32):=by simp only[Af6,Apb];rw[if_neg h28]
   refine Bv<|.R1 ?_
   refine⟨by omega,wQ [] ?_ ?_⟩
   ·simp[go_sem,Dw ((i2:Int)+1),hs,h14,h22,h28]
   simp[go_sem,hs,h14,h22,h28]
  have he:i2=8:=by omega
  subst he
  refine B5<|.R1 ?_
  refine⟨by omega,wQ [] ?_ ?_⟩
  ·simp[go_sem,Dw ((i1:Int)+1),Adx,hax,h14,h22]
  simp[go_sem,Adx,hax,h14,h22]
 refine B5<|.R ?_
 have he:i1=l.length:=by omega
 subst he
 refine B6 ?_
 simp[go_sem]
 simp[Ave,Ib]
theorem Ah2 (l:List Int) (hl:l.length<=1000000):PP 162 [] [.mY l] [] (.lit (.int .u32 (Ww l))):=by
 refine Ei Tryz.func162 ?_
 refine Bw ?_
 refine Di Dy (Ajr 0 l hl) ?_
 refine B6 ?_
 simp[go_sem,Ww]
def Rl (l:List Int):Nat->Int
 | 0=>0
 | i+1=>Ex .or .u32 (IntKind.u32.wrap (Rl l i*2 ^ min 8 32)) (IntKind.u32.wrap (Tk l i))
def Arr (l:List Int):Int:=Rl l l.length
theorem Ae0 (l:List Int) (hl:l.length<=1000000):PP 163 [] [.mY l] [] (.lit (.int .u32 (Arr l))):=by
 refine Ei Tryz.func163 ?_
 refine Bw ?_
 refine Bw<|.seq ?_
 refine Bw<|.block ?_
 refine Cb l.length (fun i1=>⟨[(3,.lit (.int .u32 (Rl l i1))),(6,.mY l),(7,.li l.length),(8,.li i1)],[]⟩) (wQ [] ?_ ?_) fun i1 hi1=>?_
 ·simp[go_sem,Rl]
 ·simp[go_sem,Rl]
 refine Bw<|.seq ?_
 refine B7 ?_ ?_<;>intro h9
 ·have hxx:l[i1]? = some l[i1]:=Aa (by omega)
  generalize l[i1]=x at hxx
  have hax:Tk l i1=x:=by simp only[Tk,hxx,Bh]
  refine Bv<|.seq<|.block<|.H hxx ?_
  refine VW.H1 Dy ?_
  refine Cm ?_
  refine⟨by omega,wQ [] ?_ ?_⟩
  ·simp[go_sem,Dw ((i1:Int)+1),Rl,hax,h9]
  simp[go_sem,Rl,hax,h9]
 refine B5<|.R ?_
 have he:i1=l.length:=by omega
 subst he
 refine B6 ?_
 simp[go_sem]
 simp[Arr]
def Abu (n:Int):Int:=if n<0\/200<n then 0 else IntKind.i64.wrap (IntKind.i64.wrap (6+n)+4)
theorem Zs (n:Int):PP 161 [] [.li n] [] (.li (Abu n)):=by
 refine Ei Tryz.func161 ?_
 refine Bw<|.seq ?_
 refine Bw ?_
 refine B7 ?_ ?_<;>intro h8
 ·refine Bw ?_
  refine B6 ?_
  simp[go_sem]
  simp[Abu,h8]
 refine Bv<|.R ?_
 refine B6 ?_
 simp[go_sem]
 have hh:¬(n<0\/200<n):=by omega
 simp[Abu,hh]
def viN:Nat->Int->List Int
 | 0,n=>[IntKind.u8.wrap n]
 | f+1,n=>if 128<=n then Ex .or .u8 (IntKind.u8.wrap (Ex .and .i64 n 127)) 128::viN f (n.fdiv (2 ^ min 7 64)) else [IntKind.u8.wrap n]
def Gj (n:Int):List Int×Int:=if n<0\/4294967295<n then ([],8) else (viN 5 n,0)
def Alj (n:Int) (y:List Int×Int):Prop:=∃k:Nat,y.1.length+k=5/\y.1++viN k y.2=viN 5 n/\0<=y.2/\y.2<128 ^ k
variable {n:Int} {y:List Int×Int}
theorem Ah0 (h:Alj n y):y.1.length<=5:=by
 obtain⟨k,e1,_⟩:=h
 omega
theorem As8 (h:Alj n y) (h1:128<=y.2) (h2:1<=y.2.fdiv (2 ^ min 7 64)) (h3:y.2.fdiv (2 ^ min 7 64)*128<=y.2):Alj n (y.1++[Ex .or .u8 (IntKind.u8.wrap (Ex .and .i64 y.2 127)) 128],y.2.fdiv (2 ^ min 7 64)):=by
 obtain⟨k,e1,e2,e3,e4⟩:=h
 cases k with
 | zero=>simp at e4;omega
 | succ k =>
  have hp:(128:Int) ^ (k+1)=128 ^ k*128:=Int.pow_succ _ _
  refine⟨k,by simp;omega,?_,by simp only[];omega,by simp only[];omega⟩
  rw[<- e2,viN,if_pos h1]
  simp
theorem Awk (h:Alj n y) (h1:y.2<128):y.1++[IntKind.u8.wrap y.2]=viN 5 n:=by
 obtain⟨k,e1,e2,e3,e4⟩:=h
 rw[<- e2]
 cases k with
 | zero=>rfl
 | succ k=>rw[viN,if_neg (by omega)]
theorem A08 (h:128<=n):1<=n.fdiv (2 ^ min 7 64)/\n.fdiv (2 ^ min 7 64)*128<=n:=by
 have e:(2:Int) ^ min 7 64=128:=by decide
 rw[e,Int.fdiv_eq_ediv_of_nonneg _ (by omega)]
 omega
theorem Po (n:Int):PP 160 [] [.li n] [] (.tup [.imm false 1 (tY (Gj n).1),.lit (.int .i64 (Gj n).2)]):=by
 refine Ei Tryz.func160 ?_
 refine Bw<|.seq ?_
 refine Bw ?_
 refine B7 ?_ ?_<;>intro h10
 ·refine Bw ?_
  refine B6 ?_
  simp[go_sem]
  simp[Gj,h10]
 have h0:0<=n/\n<128 ^ 5:=by omega
 refine Bv<|.H Dy<|.seq<|.block ?_
 refine VW.whileE (fun y1:List Int×Int=>⟨[(0,.li y1.2),(4,.own 0 y1.1.length)],[.row 5 1 true false (tY y1.1)]⟩) (fun y1=>Alj n y1) (fun y1=>y1.2.toNat) (([],n)) (wQ [0] ?_ ?_) (by exact⟨5,rfl,rfl,h0⟩) fun y1 hy1=>?_
 ·simp[go_sem]
 ·simp[go_sem]
 refine Du<|.R ?_
 refine B7 ?_ ?_<;>intro h13
 ·obtain⟨q1,q2⟩:=A08 h13
  have hln:=Ah0 hy1
  refine Bv<|.block<|.H Dy ?_
  refine VW.H1 Dy ?_
  refine⟨(y1.1++[Ex .or .u8 (IntKind.u8.wrap (Ex .and .i64 y1.2 127)) 128],y1.2.fdiv (2 ^ min 7 64)),?_,?_,wQ [0] ?_ ?_⟩
  ·simp only[];omega
  ·exact As8 hy1 h13 q1 q2
  all_goals simp[go_sem]
 have hln:=Ah0 hy1
 refine B5<|.H Dy ?_
 refine Ch 0 (by simp[go_sem,F5]) ?_
 simp[go_sem]
 refine B6 ?_
 simp[go_sem]
 have hh:¬(n<0\/4294967295<n):=by omega
 have hd:=Awk hy1 h13
 simp[Gj,hh,<- hd]
def T4 (l:List Int):Nat->Int->Nat->Int×Int×Int
 | 0,_,_=>(0,0,6)
 | f+1,n,i=>match l[i]? with
  | none=>(0,0,6)
  | some x=>if i=5 then (0,0,6)
   else
    let n':=Ex .or .i64 n (IntKind.i64.wrap (IntKind.i64.wrap (Ex .and .u8 x 127)*2 ^ min (7*(i:Int)).toNat 64))
    if 128<=x then T4 l f n' (i+1)
    else if 4294967295<n'\/(0<i/\x=0) then (0,0,6) else (n',(i:Int)+1,0)
def Qw (l:List Int):Int×Int×Int:=T4 l 6 0 0
variable {l:List Int}
theorem Ad3 {i f:Nat} {n x:Int} (h:l[i]? = some x):T4 l (f+1) n i=if i=5 then (0,0,6)
 else if 128<=x then T4 l f (Ex .or .i64 n (IntKind.i64.wrap (IntKind.i64.wrap (Ex .and .u8 x 127)*2 ^ min (7*(i:Int)).toNat 64))) (i+1)
  else if 4294967295<Ex .or .i64 n (IntKind.i64.wrap (IntKind.i64.wrap (Ex .and .u8 x 127)*2 ^ min (7*(i:Int)).toNat 64))\/(0<i/\x=0) then (0,0,6) else (Ex .or .i64 n (IntKind.i64.wrap (IntKind.i64.wrap (Ex .and .u8 x 127)*2 ^ min (7*(i:Int)).toNat 64)),(i:Int)+1,0):=by
 rw[T4,h]
theorem Ata:∀(f:Nat) (n:Int),T4 l f n l.length=(0,0,6)
 | 0,n=>rfl
 | f+1,n=>by simp[T4]
theorem Ac8 (l:List Int) (hl:l.length<=1000000):PP 105 [] [.mY l] [] (.tup [.lit (.int .i64 (Qw l).1),.lit (.int .i64 (Qw l).2.1),.lit (.int .i64 (Qw l).2.2)]):=by
 refine Ei Tryz.func105 ?_
 refine Bw ?_
 refine Bw<|.seq ?_
 refine Bw<|.block ?_
 refine Cu l.length (fun i1 (y1:Int)=>⟨[(5,.li y1),(8,.mY l),(9,.li l.length),(10,.li i1)],[]⟩) (fun i1 y1=>i1<=5/\T4 l (6 - i1) y1 i1=Qw l) (0) (wQ [] ?_ ?_) ⟨by omega,rfl⟩ fun i1 y1 hi1 hy1=>?_
 ·simp[go_sem]
 ·simp[go_sem]
 refine Bw<|.seq ?_
 refine B7 ?_ ?_<;>intro h11
 ·have hxx:l[i1]? = some l[i1]:=Aa (by omega)
  generalize l[i1]=x at hxx
  have hax:Tk l i1=x:=by simp only[Tk,hxx,Bh]
  have hst:=Ad3 (l:=l) (f:=5 - i1) (n:=y1) hxx
  rw[show 5 - i1+1=6 - i1 by omega,hy1.2] at hst
  refine Bv<|.seq<|.block<|.H hxx<|.seq ?_
  refine Bw ?_
  refine B7 ?_ ?_<;>intro h16
  ·refine B5<|.R ?_
   refine B6 ?_
   simp[go_sem]
   rw[if_pos (by omega)] at hst
   simp[hst]
  have h7:=Dw (7*(i1:Int))
  have h1:=Dw ((i1:Int)+1)
  have hi5:¬i1=5:=by omega
  rw[if_neg hi5] at hst
  refine Bv<|.H h7<|.seq ?_
  refine Bw ?_
  refine B7 ?_ ?_<;>intro h26
  ·refine B5<|.R1 ?_
   refine⟨by omega,(Ex .or .i64 y1 (IntKind.i64.wrap (IntKind.i64.wrap (Ex .and .u8 x 127)*2 ^ min (7*(i1:Int)).toNat 64))),?_,wQ [] ?_ ?_⟩
   ·refine⟨by omega,?_⟩;rw[show 6 - (i1+1)=5 - i1 by omega,hst,if_pos h26]
   ·simp[go_sem,Dw ((i1:Int)+1)]
   simp[go_sem]
  refine Bv<|.seq<|.S (fun K kk=>by simp +contextual[go_sem];exact kk) ?_
  refine B7 ?_ ?_<;>intro h36
  ·refine B5<|.R ?_
   refine B6 ?_
   simp[go_sem]
   rw[if_neg (by omega),if_pos h36] at hst
   simp[hst]
  refine Bv<|.H h1 ?_
  refine B6 ?_
  simp[go_sem]
  rw[if_neg (by omega),if_neg (by omega)] at hst
  simp[hst,h1]
 refine B5<|.R ?_
 have he:i1=l.length:=by omega
 subst he
 refine B6 ?_
 simp[go_sem]
 rw[Ata] at hy1
 simp[<- hy1.2]
end
end Go.Proofs.YtkkimgjinbaemaaGreat
