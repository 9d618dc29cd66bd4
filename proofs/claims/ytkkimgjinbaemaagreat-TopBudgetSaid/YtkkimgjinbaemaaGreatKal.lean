/- The walk. -/
import Derived.Test.YtkkimgjinbaemaaGreatKak
noncomputable section
namespace Go.Proofs.YtkkimgjinbaemaaGreat
open Go.RowKit
set_option linter.unusedVariables false
set_option linter.unusedSimpArgs false
set_option linter.defProp false
set_option linter.unusedSectionVars false
set_option maxRecDepth 100000
set_option maxHeartbeats 4000000
section
variable {β:Nat->Option Nat} {w:World}
theorem Arx {P:Program} {E:Gi} {st:St} {a:Act} (r:Eo E β st a w) {nid:Nat} (hn:st.o nid=.gone) {t:TypeId} {l c:AV} {ul uc:Value} (hl:Ea (E.C β st w) l ul) (hcc:Ea (E.C β st w) c uc) (hc:(U0 P t l c nid).c) (hs1:Ge P (Eb P t)=1) (hz1:Mt P (Eb P t)=[.slice none 0 0]) :
 ∃u w' β',(Instr.makeSlice t ul uc).run P w=.ok u w'/\Eo E β' (st.set nid (.row (Eb P t) 1 true false (List.replicate (Fx l).toNat [.lit (.slice none 0 0)]))) a w'/\Ea (E.C β' (st.set nid (.row (Eb P t) 1 true false (List.replicate (Fx l).toNat [.lit (.slice none 0 0)]))) w') (.own nid (Fx l).toNat) u:=by
 obtain⟨h1,h2,h3,h4,h5,h6,h7,h8,h9⟩:=hc
 obtain⟨kl,rfl⟩:=Ie h1 hl
 obtain⟨kc,rfl⟩:=Ie h2 hcc
 obtain⟨i,z,hi,hz,hsz,hzs,htl,hcell⟩:=P7 h4
 have hby:i.bytes<=1000000:=by simpa[Jj,hi] using h9
 have hmul:(i.bytes:Int)*Fx c<=281474976710656:=by
  have a1:(i.bytes:Int)<=1000000:=by omega
  have a2:=Int.mul_le_mul a1 h8 (by omega) (by omega)
  omega
 have hrun:=run_make (P:=P) w t _ i z (Fu h3) hi hz kl kc (Fx l) (Fx c) h6 h7 hmul (by omega)
 have hms:=size_madeCells z.cells ((Fx c).toNat*i.size)
 rw[hsz] at hrun hms
 have hzc:z.cells.toList=[.slice none 0 0]:=by rw[<- hz1];simp[Mt,hi,hz]
 have hz0:z.cells = #[.slice none 0 0]:=by rw[<- hzc]
 obtain⟨q1,q2⟩:=Ajz (ty:=Eb P t) (fr:=true) r hn (es:=List.replicate (Fx l).toNat [.lit (.slice none 0 0)]) (k:=1) (cur:=madeCells z.cells ((Fx c).toNat*Ge P (Eb P t))) (c:=(Fx c).toNat) (by decide)
  (fun i e he=>by rw[List.getElem?_replicate] at he;split at he<;>simp at he;rw[<- he];rfl) (by rw[hms,hs1]) (by rw[List.length_replicate];omega) (by simp only[maxLen];omega) (fun i' e j x he hx=>by
   rw[List.getElem?_replicate] at he
   split at he
   ·rename_i hlt
    simp at he
    subst he
    have hj:j=0:=by
     have:=(Ab.1 hx).1
     simp at this;omega
    subst hj
    simp at hx
    subst hx
    refine⟨.slice none 0 0,?_,.lit _ rfl⟩
    have hlt2:i'*1+0<(Fx c).toNat*Ge P (Eb P t):=by rw[hs1];omega
    have h0:(0:Nat)<z.cells.size:=by rw[hz0];decide
    simp only[madeCells]
    rw[Array.getElem?_map,Array.getElem?_range,if_pos hlt2]
    have hmod:(i'*1+0) % z.cells.size=0:=by rw[hz0];show _ % 1=0;omega
    simp only[Ai,hmod]
    rw[getElem!_pos z.cells 0 h0]
    simp[hz0]
   cases he)
 rw[List.length_replicate] at q2
 exact⟨_,_,_,hrun,q1,q2⟩
variable {id0:Nat} {l:List Oper}
section
variable {P:Program} {n m:Nat} {st:St} {K:Exit->St->Prop} {c:Code}
theorem VW.region_mk (j:Nat) (o:Oper) (t:TypeId) (x y:Operand) (hd:Ft n l=true) (hj:l.drop j=o::l.drop (j+1)) (hop:o.op=.makeSlice t x y) (hg:Nl l.toArray o=.no) (hs1:Ge P (Eb P t)=1) (hz1:Mt P (Eb P t)=[.slice none 0 0]) (h:runs P ((Gc l).take j) st (fun s=>(s.raw x).sb=true/\(s.raw y).sb=true/\(U0 P t (s.raw x).sv (s.raw y).sv s.ob.length).c /\
  runs P ((Gc l).drop (j+1)) ((s.put o.dst (.own s.ob.length (Fx (s.raw x).sv).toNat)).set s.ob.length (.row (Eb P t) 1 true false (List.replicate (Fx (s.raw x).sv).toNat [.lit (.slice none 0 0)]))) (K .normal))):VW P n m (.region id0 l.toArray false) st K:=fun E F hE hF β a w r=>by
 have hd':∀o∈l,∀x,o.dst=some x->x<E.n:=fun o ho x hx=>by rw[hE.1];exact Oo hd o ho x hx
 refine wpIn_region_lit ?_
 have key:=Wh (P:=P) (Q:=Agk E K) hF (ops:=l.toArray) (l.drop j) (fun s β a w hs r=>?_) (l.take j) (fun o ho=>hd' o (Aq ho)) st β a w (by
  have:=h
  simp only[Gc,<- List.map_take] at this
  exact this) r
 ·rwa[List.take_append_drop] at key
 obtain⟨h1,h2,h3,h4⟩:=hs
 rw[hj]
 unfold wpListIn
 rw[W9 r l.toArray o (by rw[hg];trivial),hg]
 rw[if_pos (by rfl)]
 obtain⟨u,w',β',g1,g2,g3⟩:=Arx (P:=P) r (Ha s _ (Aj _)) ((L8 r x).sv.1 h1) ((L8 r y).sv.1 h2) h3 hs1 hz1
 refine Qv hF (by rw[hop];intro c e;cases e) ?_
 have ho:o∈l:=Ay (by rw[hj];exact List.mem_cons_self)
 unfold Oper.wp
 simp only[execOp,hop,Sem.run_bind,g1,Result.andThen_ok]
 have key2:Eo E β' ((s.put o.dst (.own s.ob.length (Fx (s.raw x).sv).toNat)).set s.ob.length (.row (Eb P t) 1 true false (List.replicate (Fx (s.raw x).sv).toNat [.lit (.slice none 0 0)]))) (a.put o.dst u) w':=by
  rw[St.put_set]
  exact g2.put g3 o.dst (hd' o ho)
 refine Zy hF (fun s β a w h1 h2=>⟨E,s,β,Hj.refl E,h1,h2⟩) (l.drop (j+1)) (fun o ho=>hd' o (Ay ho)) _ β' _ w' ?_ key2
 rw[List.map_drop]
 exact h4
theorem VX.region_mk (j:Nat) (o:Oper) (t:TypeId) (x y:Operand) (hd:Ft n l=true) (hj:l.drop j=o::l.drop (j+1)) (hop:o.op=.makeSlice t x y) (hg:Nl l.toArray o=.no) (hs1:Ge P (Eb P t)=1) (hz1:Mt P (Eb P t)=[.slice none 0 0]) (h:∀K1:St->Prop,(∀s,K .normal s->K1 s)->runs P ((Gc l).take j) st (fun s=>(s.raw x).sb=true/\(s.raw y).sb=true/\(U0 P t (s.raw x).sv (s.raw y).sv s.ob.length).c /\
  runs P ((Gc l).drop (j+1)) ((s.put o.dst (.own s.ob.length (Fx (s.raw x).sv).toNat)).set s.ob.length (.row (Eb P t) 1 true false (List.replicate (Fx (s.raw x).sv).toNat [.lit (.slice none 0 0)]))) K1)):VX P n m (.region id0 l.toArray false) st K:=by
 obtain⟨s,h1,h2,h3,h4,h5⟩:=Qb _ _ (h _ fun _ h=>h)
 obtain⟨s2,h6,h7⟩:=Qb _ _ h5
 refine⟨.normal,s2,.region_mk j o t x y hd hj hop hg hs1 hz1 (K4 _ _ ?_ h1),h7⟩
 rintro s' rfl
 exact⟨h2,h3,h4,K4 _ _ (by rintro s' rfl;exact⟨rfl,rfl⟩) h6⟩
theorem VX.region_mk_seq {y0:Code} (j:Nat) (o:Oper) (t:TypeId) (x y:Operand) (hd:Ft n l=true) (hj:l.drop j=o::l.drop (j+1)) (hop:o.op=.makeSlice t x y) (hg:Nl l.toArray o=.no) (hs1:Ge P (Eb P t)=1) (hz1:Mt P (Eb P t)=[.slice none 0 0]) (h:∀K1:St->Prop,(∀s,VX P n m y0 s K->K1 s)->runs P ((Gc l).take j) st (fun s=>(s.raw x).sb=true/\(s.raw y).sb=true/\(U0 P t (s.raw x).sv (s.raw y).sv s.ob.length).c /\
  runs P ((Gc l).drop (j+1)) ((s.put o.dst (.own s.ob.length (Fx (s.raw x).sv).toNat)).set s.ob.length (.row (Eb P t) 1 true false (List.replicate (Fx (s.raw x).sv).toNat [.lit (.slice none 0 0)]))) K1)):VX P n m (.seq (.region id0 l.toArray false) y0) st K :=
 .seq (.region_mk j o t x y hd hj hop hg hs1 hz1 fun K1 hK1=>h K1 hK1)
abbrev Dk:=@VX.region_mk_seq
end
variable {cs:List AV}
theorem Eo.cellTo {E:Gi} {st:St} {a:Act} (r:Eo E β st a w) {b i:Nat} {c0 c1:AV} {ty:TypeId} (hb:st.o b=.box ty cs) (hi:cs[i]? = some c0) (hn:∀u,Ea (E.C β st w) c0 u->Ea (E.C β st w) c1 u) :
 Eo E β (st.set b (.box ty (cs.set i (c1)))) a w:=by
 have ho':∀j,j≠b->(st.set b (.box ty (cs.set i (c1)))).o j=st.o j:=fun j hj=>by rw[St.set_o,if_neg hj]
 have ho:(st.set b (.box ty (cs.set i (c1)))).o b=.box ty (cs.set i (c1)):=by rw[St.set_o,if_pos rfl]
 have hng:∀j,(st.set b (.box ty (cs.set i (c1)))).o j≠.gone->st.o j≠.gone:=fun j hj=>by
  by_cases e:j=b
  ·subst e;rw[hb];simp
  rw[ho' j e] at hj;exact hj
 have s:Nu (E.C β st w) (E.C β (st.set b (.box ty (cs.set i (c1)))) w):=by
  refine⟨rfl,fun _ h=>h,fun _ h=>h,fun _ h=>h,Aj _,?_,fun _ _ _=>rfl,?_,?_⟩
  ·rintro x hx ⟨j,h1,h2⟩
   have h2:((st.set b (.box ty (cs.set i (c1)))).o j).live:=h2
   by_cases e:j=b
   ·subst e;exact⟨j,h1,by show (st.o j).live;rw[hb];trivial⟩
   rw[ho' j e] at h2;exact⟨j,h1,h2⟩
  ·intro j ty' cs' hj
   have hj:st.o j=.box ty' cs':=hj
   by_cases e:j=b
   ·subst e
    rw[hb] at hj
    injection hj with e1 e2
    subst e1
    exact⟨⟨_,ho⟩,rfl⟩
   exact⟨⟨cs',(ho' j e).trans hj⟩,rfl⟩
  intro j ty' k' fr' fz' es' hj
  have hj:st.o j=.row ty' k' fr' fz' es':=hj
  have e:j≠b:=fun e=>by subst e;rw[hb] at hj;cases hj
  exact⟨_,_,_,(ho' j e).trans hj,Aj _,fun _=>⟨rfl,fun b cc hb hc=>⟨cc,hc,rfl⟩⟩⟩
 refine r.move s rfl (fun j=>?_) (fun i j x hi hj=>r.inj i j x (hng i hi) (hng j hj)) (fun j x hj=>r.rng j x (hng j hj)) r.kp
 by_cases e:j=b
 ·subst e
  rw[ho]
  have h:=r.ob j
  rw[hb] at h
  obtain⟨x,cur,h1,h2,h3,h4⟩:=h
  refine⟨x,cur,h1,h2,by rw[List.length_set];exact h3,fun q c u hc hu=>?_⟩
  rw[List.getElem?_set] at hc
  split at hc
  ·rename_i e
   subst e
   split at hc
   ·injection hc with hc
    subst hc
    obtain⟨g1,g2⟩:=h4 i _ u hi hu
    exact⟨(hn u g1).step s,g2⟩
   cases hc
  exact⟨(h4 q c u hc hu).1.step s,(h4 q c u hc hu).2⟩
 rw[ho' j e]
 exact (r.ob j).step s rfl fun _ _=>rfl
variable {bt:TypeId}
section
variable {P:Program} {n m:Nat} {st:St} {K:Exit->St->Prop} {c:Code}
theorem VW.own0l (b i:Nat) (ty k:Nat) (hk:0<k) (hb:st.o b=.box bt cs) (hi:cs[i]? = some (.lit (.slice none 0 0))) (hv:VW P n m c ((st.set st.ob.length (.row ty k true false [])).set b (.box bt (cs.set i (.own st.ob.length 0)))) K):VW P n m c st K:=fun E F hE hF β a w r=>by
 obtain⟨r1,h1⟩:=r.empty (Ha st st.ob.length (Aj _)) ty hk true
 have hne:b≠st.ob.length:=fun e=>by
  have:=Ha st st.ob.length (Aj _)
  rw[<- e,hb] at this
  cases this
 exact hv E F hE hF _ a w (r1.cellTo (by rw[St.set_o,if_neg hne];exact hb) hi fun u hu=>by cases hu;exact h1 none)
theorem VX.own0l (b i:Nat) (ty k:Nat) (hk:0<k) (hb:st.o b=.box bt cs) (hi:cs[i]? = some (.lit (.slice none 0 0))) (hv:VX P n m c ((st.set st.ob.length (.row ty k true false [])).set b (.box bt (cs.set i (.own st.ob.length 0)))) K):VX P n m c st K:=by
 obtain⟨e,s,h1,h2⟩:=hv
 exact⟨e,s,.own0l b i ty k hk hb hi h1,h2⟩
end
end
section
def HdR (cfg:Fc) (x:Dx) (ses:Int) (it:Ff) (now:Int) (d:Dx×D0×Gk×Int):Prop:=∃hd hp,F7 cfg x ses it now hd hp=d
inductive ItR (cfg:Fc) (ses now:Int) (x:Dx):List Ff->Dx->List D0->List Gk->List Int->Prop
  | nil:ItR cfg ses now x [] x [] [] []
  | app {l:List Ff} {y z:Dx} {r:List D0} {e:List Gk} {s:List Int} {t:Ff} {m:D0} {n:Gk} {k:Int}:ItR cfg ses now x l y r e s->HdR cfg y ses t now (z,m,n,k)->ItR cfg ses now x (l++[t]) z (r++[m]) (e++[n]) (s++if 0<=k then [k] else [])
inductive SeR (cfg:Fc) (now:Int) (x:Dx):List Gv->Dx->List (List D0)->List Gk->List Int->Prop
  | nil:SeR cfg now x [] x [] [] []
  | closed {l:List Gv} {y:Dx} {r:List (List D0)} {e:List Gk} {s:List Int} {p:Gv}:SeR cfg now x l y r e s->p.op=false->SeR cfg now x (l++[p]) y (r++[[]]) e s
  | opened {l:List Gv} {y z:Dx} {r:List (List D0)} {e e':List Gk} {s s':List Int} {p:Gv} {q:List D0}:SeR cfg now x l y r e s->p.op=true->ItR cfg l.length now y p.items z q e' s'->SeR cfg now x (l++[p]) z (r++[q]) (e++e') (s++s')
variable {cfg:Fc} {x y:Dx} {e:List Gk} {s s':List Int} {i:Nat}
theorem ItR.next {ses now:Int} {l:List Ff} {r:List D0} {t:Ff} {d:Dx×D0×Gk×Int} (h:ItR cfg ses now x (l.take i) y r e s) (ht:l[i]? = some t) (hd:HdR cfg y ses t now d) (hs:s'=s++if 0<=d.2.2.2 then [d.2.2.2] else []):ItR cfg ses now x (l.take (i+1)) d.1 (r++[d.2.1]) (e++[d.2.2.1]) s':=by
 rw[List.take_add_one,ht,hs]
 exact h.app hd
variable {now:Int} {l:List Gv} {r:List (List D0)}
theorem SeR.shut {s:List Int} {p:Gv} (h:SeR cfg now x (l.take i) y r e s) (hp:l[i]? = some p) (ho:p.op=false):SeR cfg now x (l.take (i+1)) y (r++[[]]) e s:=by
 rw[List.take_add_one,hp]
 exact h.closed ho
theorem SeR.next {x y z:Dx} {e e':List Gk} {p:Gv} {q:List D0} (h:SeR cfg now x (l.take i) y r e s) (hp:l[i]? = some p) (ho:p.op=true) (hi:ItR cfg i now y p.items z q e' s'):SeR cfg now x (l.take (i+1)) z (r++[q]) (e++e') (s++s'):=by
 have hl:(l.take i).length=i:=by have:=(Ab.1 hp).1;rw[A5];omega
 rw[List.take_add_one,hp]
 exact h.opened ho (by rw[hl];exact hi)
def Avn (x y:List Bool):Prop:=∀k:Nat,y[k]? = x[k]? \/ y[k]? = some false
theorem Akl {x y:List Bool} (h:Avn x y) (i:Nat):Avn x (y.set i false):=fun k=>by
 by_cases hk:i=k
 ·subst hk
  by_cases hl:i<y.length
  ·exact .inr (Bg hl)
  rw[List.set_eq_of_length_le (by omega)];exact h _
 rw[A9 hk];exact h k
def Aiz (cfg:Fc) (x:Dx) (l:List Gv) (now:Int) (d:Dx×List (List D0)×List Gk×List Int):Prop:=∃(b:List Bool) (y:Dx) (r:List (List D0)) (h1:y.reqs.length<=3) (h2:∀q∈y.reqs,q.legs.length<=1000000),b.length=x.aud.length/\Avn x.aud b/\SeR cfg now ⟨x.reg,x.reqs,x.draws,b⟩ (l.take x.aud.length) y r d.2.2.1 d.2.2.2/\d.1=⟨y.reg,Jn y.reqs now h1 h2,y.draws,y.aud⟩/\d.2.1=r++List.replicate (x.aud.length - r.length) []
def Aqy (x:Dx) (d:Dx×List (List D0)×List Gk×List Int):Prop:=F8 d.1/\d.1.aud.length=x.aud.length/\d.1.reg.num=x.reg.num/\d.1.reg.ag=x.reg.ag/\d.2.1.length=x.aud.length/\(∀r∈d.2.1,r.length<=257/\∀m∈r,Hy m)/\d.2.2.1.length<=600/\d.2.2.2.length<=600
structure R4 (x y:Dx):Prop where
  d:F8 y
  aud:y.aud.length=x.aud.length
  num:y.reg.num=x.reg.num
  ag:y.reg.ag=x.reg.ag
theorem Oy {α:Type} {p:α->Prop} {l:List α} {x:α} (h:∀y∈l,p y) (hx:p x):∀y∈l++[x],p y:=fun y hy=>by
 rcases A0.1 hy with h1 | h1
 ·exact h y h1
 rw[An.1 h1];exact hx
theorem R4.next {x y z:Dx} {m:D0} (h:R4 x y) (q:Awb y z m):R4 x z:=⟨q.1,q.2.1.trans h.aud,q.2.2.1.trans h.num,q.2.2.2.1.trans h.ag⟩
theorem R4.marked (h:R4 x y) {rs:List Ew} (h1:rs.length=y.reqs.length) (h2:∀r∈rs,r.legs.length<=1000000):F8 ⟨y.reg,rs,y.draws,y.aud⟩:=⟨⟨h.d.b.reg,by rw[h1];exact h.d.b.reqs,h2,h.d.b.draws,h.d.b.draw,h.d.b.aud⟩,h.d.vehs,by rw[h1];exact h.d.reqs,h.d.dr,h.d.rq⟩
theorem R4.audited {x:Dx} (h:F8 x) {l:List Bool} (h1:l.length=x.aud.length):R4 x ⟨x.reg,x.reqs,x.draws,l⟩:=⟨⟨⟨h.b.reg,h.b.reqs,h.b.legs,h.b.draws,h.b.draw,by show l.length<=_;rw[h1];exact h.b.aud⟩,h.vehs,h.reqs,h.dr,h.rq⟩,h1,rfl,rfl⟩
theorem Agy (cfg:Fc) (x:Dx) (l:List Gv) (now:Int) (hd:F8 x) (hn:x.aud.length=1) (hl:l.length<=1000) (hi:∀p∈l,p.items.length<=257/\∀t∈p.items,t.pay.length<=1000):Ct 125 [cfg.g,x.g,.mInp l,.li now] (fun d:Dx×List (List D0)×List Gk×List Int=>.tup [d.1.g,.imm false 1 (Rw d.2.1),.mEnt d.2.2.1,.mI d.2.2.2]) (fun d=>Aqy x d/\Aiz cfg x l now d):=by
 refine Er Tryz.func125 ?_
 refine Bq ?_
 refine B3 (fun K kk=>by simp[go_sem,hn];refine .l (Pt x hd.b) ?_;simp[go_sem,hn];exact kk) ?_
 refine Dk 3 _ 152 (.tmp 27) (.tmp 27) (by rfl) rfl rfl rfl (by rfl) (by rfl) fun K1 hK1=>?_
 simp[go_sem,hn]
 refine hK1 _ ?_;clear hK1
 refine VX.toBox 4 rfl (by simp) (by simp) ?_
 simp[go_sem,hn,Pb,List.replicate]
 refine VX.own0l 4 0 56 4 (by decide) rfl rfl ?_
 simp[go_sem]
 iterate 2 refine Bq ?_
 refine Cf 13 248 3 (by decide) (k':=3) (by simp[go_sem]) ?_
 simp[go_sem]
 refine Cf 14 3 1 (by decide) (k':=1) (by simp[go_sem]) ?_
 simp[go_sem]
 obtain⟨lq,hlq⟩:∃lq,lq=l.take (min l.length 1):=⟨_,rfl⟩
 have hll:lq.length<=1:=by rw[hlq,A5];omega
 have hiq:∀p∈lq,p.items.length<=257/\∀t∈p.items,t.pay.length<=1000:=fun p hp=>hi p (Aq (by rw[hlq] at hp;exact hp))
 have hT:List.take (if (1:Int)<(l.length:Int) then (1:Int) else (l.length:Int)).toNat (List.map Gv.t l)=List.map Gv.t lq:=by rw[hlq,List.map_take];congr 1;split<;>omega
 refine B3 (fun K kk=>by simp[go_sem,hn,hT];repeat first | exact kk | refine aK ?_)<|.seq ?_
 refine B3 (fun K kk=>by simp[go_sem,hn];exact kk)<|.block ?_
 refine Bs 1 (fun i1 (y1:List Bool)=>⟨[(2,.mInp lq),(3,.li now),(4,.ptr 0 0),(5,.ptr 1 0),(8,.ptr 2 0),(9,.nil 1),(10,.nil 3),(11,.nil 1),(12,.bsl 4 1),(13,.own 6 0),(14,.own 7 0),(39,.li 1),(40,.li i1)],[.box 30 (cfg.a false),.box 70 [.li x.reg.num,.mY x.reg.ag.sec,.li x.reg.ag.ri,.li x.reg.ag.cls,.mI x.reg.ag.lims,.li x.reg.ag.rq,.li x.reg.ag.se,.li x.reg.ag.ra,.li x.reg.ag.bu,.mTok x.reg.toks,.mVeh x.reg.vehs,.li x.reg.bk.lv,.li x.reg.bk.ra,.li x.reg.bk.bu,.mReq x.reqs,.mYs x.draws,.own 3 1],.box 70 [.li 0,.nil 1,.li 0,.li 0,.nil 1,.li 0,.li 0,.li 0,.li 0,.nil 6,.nil 2,.li 0,.li 0,.li 0,.nil 5,.nil 1,.nil 1],.row 4 1 false false (tB y1),.box 80 [.own 5 0],.row 56 4 true false [],.row 248 3 true false [],.row 3 1 true false []]⟩) (fun i1 y1=>y1.length=1/\Avn x.aud y1) x.aud (wQ [0,1,2,3,4,5,6,7] ?_ ?_) ⟨hn,fun k=>.inl rfl⟩ fun i1 y1 hi1 hy1=>?_
 ·simp[go_sem,hn]
 ·simp[go_sem,hn]
 obtain⟨hy1,hya⟩:=hy1
 refine Bq<|.seq ?_
 refine Br ?_ ?_<;>intro h41
 ·
  refine Bp<|.seq<|.block<|.R ?_
  obtain⟨ax,hax⟩:∃e,y1[i1]? = some e:=⟨_,Aa (by omega)⟩
  by_cases hc:i1<lq.length
  ·obtain⟨p,hx⟩:∃e,lq[i1]? = some e:=⟨_,Aa hc⟩
   have hcq:¬((lq.length:Int)<=i1):=by omega
   refine B3 (fun K kk=>by simp[go_sem,hcq,hx,hc];repeat first | exact kk | refine aK ?_) ?_
   refine Br ?_ ?_<;>intro h54
   ·
    refine Cg (fun K kk=>by simp[go_sem,hax,hy1];repeat first | exact kk | refine aK ?_) ?_
    refine Ci ?_
    refine⟨by omega,y1.set i1 false,?_,wQ [0,1,2,3,4,5,6,7] ?_ ?_⟩
    ·exact⟨by simpa using hy1,Akl hya i1⟩
    ·simp[go_sem,Dw ((i1:Int)+1)]
    simp[go_sem,hy1,List.map_set]
   -- none
   refine Bp<|.R1 ?_
   refine⟨by omega,y1,?_,wQ [0,1,2,3,4,5,6,7] ?_ ?_⟩
   ·exact⟨by simpa using hy1,hya⟩
   ·simp[go_sem,Dw ((i1:Int)+1)]
   simp[go_sem,hy1,List.map_set]
  have hcq:(lq.length:Int)<=i1:=by omega
  refine B3 (fun K kk=>by simp[go_sem,hcq];exact kk) ?_
  refine Cl ?_ ?_<;>intro h54<;>simp[go_sem] at h54
  refine Cg (fun K kk=>by simp[go_sem,hax,hy1];repeat first | exact kk | refine aK ?_) ?_
  refine Ci ?_
  refine⟨by omega,y1.set i1 false,?_,wQ [0,1,2,3,4,5,6,7] ?_ ?_⟩
  ·exact⟨by simpa using hy1,Akl hya i1⟩
  ·simp[go_sem,Dw ((i1:Int)+1)]
  simp[go_sem,hy1,List.map_set]
 -- the end of the first loop
 refine Bt<|.F 3 ?_
 simp[go_sem,hy1]
 refine Ca<|.R<|.block ?_
 refine Bs lq.length (fun i3 (y3:Dx×List D0×List Gk×List Int)=>⟨[(2,.mInp lq),(3,.li now),(4,.ptr 0 0),(5,.ptr 1 0),(8,.ptr 2 0),(9,.nil 1),(10,.nil 3),(11,.nil 1),(12,.bsl 3 1),(13,.own 5 y3.2.2.1.length),(14,.own 6 y3.2.2.2.length),(61,.li lq.length),(62,.li i3)],[.box 30 (cfg.a false),.box 70 (y3.1.a false),.box 70 [.li 0,.nil 1,.li 0,.li 0,.nil 1,.li 0,.li 0,.li 0,.li 0,.nil 6,.nil 2,.li 0,.li 0,.li 0,.nil 5,.nil 1,.nil 1],.box 80 [.own 4 y3.2.1.length],.row 56 4 false false (Q4 y3.2.1),.row 248 3 false false (Ahe y3.2.2.1),.row 3 1 false false (tI y3.2.2.2)]⟩) (fun i3 y3=>R4 x y3.1/\(y3.2.1.length<=257/\(∀m∈y3.2.1,Hy m)/\(i3<=0->y3.2.1=[]))/\y3.2.2.1.length<=257*i3/\y3.2.2.2.length<=257*i3/\SeR cfg now ⟨x.reg,x.reqs,x.draws,y1⟩ (lq.take i3) y3.1 (([y3.2.1]:List (List D0)).take i3) y3.2.2.1 y3.2.2.2) (⟨x.reg,x.reqs,x.draws,y1⟩,[],[],[]) (wQ [0,1,2,4,5,6,7] ?_ ?_) (⟨R4.audited hd (by omega),⟨by simp,fun m hm=>by simp at hm,fun _=>rfl⟩,by simp,by simp,.nil⟩) fun i3 y3 hi3 hy3=>?_
 ·simp[go_sem,hy1]
 ·simp[go_sem,hy1]
 refine Bq<|.seq ?_
 refine Br ?_ ?_<;>intro h63
 ·
  obtain⟨p,hx⟩:∃e,lq[i3]? = some e:=⟨_,Aa (by omega)⟩
  have hp:=hiq p (Ac hx)
  refine Bp<|.seq<|.block<|.R<|.seq ?_
  refine B3 (fun K kk=>by simp[go_sem,hx];repeat first | exact kk | refine aK ?_) ?_
  refine Br ?_ ?_<;>intro h70
  ·
   have hs:=SeR.shut hy3.2.2.2.2 hx h70
   have hSx:SeR cfg now ⟨x.reg,x.reqs,x.draws,y1⟩ (lq.take (i3+1)) y3.1 (([y3.2.1]:List (List D0)).take (i3+1)) y3.2.2.1 y3.2.2.2:=by
    have hin:i3=0:=by omega
    subst hin
    have h0:=(hy3.2.1).2.2 (by omega)
    simpa[h0] using hs
   refine Bt<|.R1 ?_
   refine⟨by omega,y3,⟨hy3.1,⟨(hy3.2.1).1,(hy3.2.1).2.1,fun h=>(hy3.2.1).2.2 (by omega)⟩,by have:=hy3.2.2.1;omega,by have:=hy3.2.2.2.1;omega,hSx⟩,wQ [0,1,2,3,4,5,6] ?_ ?_⟩
   ·simp[go_sem,Dw ((i3:Int)+1)]
   simp[go_sem]
  refine Bp<|.S (fun K kk=>by simp[go_sem,hx];repeat first | exact kk | refine aK ?_)<|.block ?_
  have hin:i3=0:=by omega
  subst hin
  -- session 0
  have hr0:y3.2.1=[]:=(hy3.2.1).2.2 (by omega)
  refine Bs p.items.length (fun i4 (y4:Dx×List D0×List Gk×List Int)=>⟨[(2,.mInp lq),(3,.li now),(4,.ptr 0 0),(5,.ptr 1 0),(8,.ptr 2 0),(9,.nil 1),(10,.nil 3),(11,.nil 1),(12,.bsl 3 1),(13,.own 5 y4.2.2.1.length),(14,.own 6 y4.2.2.2.length),(61,.li lq.length),(62,.li 0),(16,.li 0),(75,.mItem p.items),(76,.li p.items.length),(77,.li i4)],[.box 30 (cfg.a false),.box 70 (y4.1.a false),.box 70 [.li 0,.nil 1,.li 0,.li 0,.nil 1,.li 0,.li 0,.li 0,.li 0,.nil 6,.nil 2,.li 0,.li 0,.li 0,.nil 5,.nil 1,.nil 1],.box 80 [.own 4 y4.2.1.length],.row 56 4 false false (Q4 y4.2.1),.row 248 3 false false (Ahe y4.2.2.1),.row 3 1 false false (tI y4.2.2.2)]⟩) (fun i4 y4=>R4 x y4.1/\y4.2.1.length=i4/\(∀m∈y4.2.1,Hy m)/\y4.2.2.1.length<=257*0+i4/\y4.2.2.2.length<=257*0+i4/\∃e' s',ItR cfg 0 now y3.1 (p.items.take i4) y4.1 y4.2.1 e' s'/\y4.2.2.1=y3.2.2.1++e'/\y4.2.2.2=y3.2.2.2++s') (y3.1,[],y3.2.2.1,y3.2.2.2) (wQ [0,1,2,3,4,5,6] ?_ ?_) ⟨hy3.1,rfl,fun m hm=>by simp at hm,by have:=hy3.2.2.1;dsimp only;omega,by have:=hy3.2.2.2.1;dsimp only;omega,[],[],.nil,by simp,by simp⟩ fun i4 y4 hi4 hy4=>?_
  ·simp[go_sem,hr0]
  ·simp[go_sem,hr0]
  refine Bq<|.seq ?_
  refine Br ?_ ?_<;>intro h78
  ·
   obtain⟨t,ht⟩:∃e,p.items[i4]? = some e:=⟨_,Aa (by omega)⟩
   have htp:=hp.2 t (Ac ht)
   have hG:=Si cfg y4.1 0 t now hy4.1.d htp
   have hq:=(Ox cfg y4.1 0 t now hy4.1.d htp).1
   have hGe:HdR cfg y4.1 0 t now (F7 cfg y4.1 0 t now hy4.1.d htp):=⟨_,_,rfl⟩
   generalize F7 cfg y4.1 0 t now hy4.1.d htp=G at hG hq hGe
   have hl1:y4.2.1.length<=257:=by have:=hp.1;have:=hy4.2.1;omega
   have hl2:y4.2.2.1.length<=600:=by have:=hp.1;have:=hy4.2.2.2.1;omega
   have hl3:y4.2.2.2.length<=600:=by have:=hp.1;have:=hy4.2.2.2.2.1;omega
   refine Bp<|.seq<|.block<|.S (fun K kk=>by simp[go_sem,ht];repeat first | exact kk | refine aK ?_) ?_
   refine B3 (fun K kk=>by simp[go_sem];refine .l (hG) ?_;simp[go_sem];exact kk) ?_
   refine Bq ?_
   refine Cw (fun K kk=>by simp[go_sem];repeat first | exact kk | refine aK ?_) ?_
   refine B3 (fun K kk=>by simp[go_sem];repeat first | exact kk | refine aK ?_) ?_
   refine Bq ?_
   refine Br ?_ ?_<;>intro h108
   ·
    refine Cg (fun K kk=>by simp[go_sem];repeat first | exact kk | refine aK ?_) ?_
    obtain⟨e',s',hI,he,hs⟩:=hy4.2.2.2.2.2
    have hIx:∃e'' s'',ItR cfg 0 now y3.1 (p.items.take (i4+1)) G.1 (y4.2.1++[G.2.1]) e'' s''/\y4.2.2.1++[G.2.2.1]=y3.2.2.1++e''/\y4.2.2.2++[G.2.2.2]=y3.2.2.2++s'':=⟨_,_,hI.next ht hGe rfl,(congrArg (fun v=>v++[G.2.2.1]) he).trans (List.append_assoc _ _ _),by rw[if_pos h108];exact (congrArg (fun v=>v++[G.2.2.2]) hs).trans (List.append_assoc _ _ _)⟩
    refine Ci ?_
    refine⟨by omega,(G.1,y4.2.1++[G.2.1],y4.2.2.1++[G.2.2.1],y4.2.2.2++[G.2.2.2]),⟨hy4.1.next hq,?_,Oy hy4.2.2.1 hq.2.2.2.2,?_,?_,hIx⟩,wQ [0,1,2,3,4,5,6] ?_ ?_⟩
    ·have:=hy4.2.1;simp;omega
    ·have:=hy4.2.2.2.1;simp;omega
    ·have:=hy4.2.2.2.2.1;simp;omega
    ·simp[go_sem,Dw ((i4:Int)+1)]
    simp[go_sem]
   -- none
   refine Bp ?_
   obtain⟨e',s',hI,he,hs⟩:=hy4.2.2.2.2.2
   have hIx:∃e'' s'',ItR cfg 0 now y3.1 (p.items.take (i4+1)) G.1 (y4.2.1++[G.2.1]) e'' s''/\y4.2.2.1++[G.2.2.1]=y3.2.2.1++e''/\y4.2.2.2=y3.2.2.2++s'':=⟨_,_,hI.next ht hGe rfl,(congrArg (fun v=>v++[G.2.2.1]) he).trans (List.append_assoc _ _ _),by rw[if_neg (by omega),List.append_nil];exact hs⟩
   refine Ci ?_
   refine⟨by omega,(G.1,y4.2.1++[G.2.1],y4.2.2.1++[G.2.2.1],y4.2.2.2),⟨hy4.1.next hq,?_,Oy hy4.2.2.1 hq.2.2.2.2,?_,?_,hIx⟩,wQ [0,1,2,3,4,5,6] ?_ ?_⟩
   ·have:=hy4.2.1;simp;omega
   ·have:=hy4.2.2.2.1;simp;omega
   ·have:=hy4.2.2.2.2.1;simp;omega
   ·simp[go_sem,Dw ((i4:Int)+1)]
   simp[go_sem]
  -- the end of the items
  obtain⟨e',s',hI,he,hs⟩:=hy4.2.2.2.2.2
  rw[Bf (by omega)] at hI
  have hSx:SeR cfg now ⟨x.reg,x.reqs,x.draws,y1⟩ (lq.take (0+1)) y4.1 (([y4.2.1]:List (List D0)).take (0+1)) y4.2.2.1 y4.2.2.2:=by
   have hS:=SeR.next hy3.2.2.2.2 hx h70 hI
   rw[he,hs]
   simpa using hS
  refine Bt<|.R1 ?_
  refine⟨by omega,(y4.1,y4.2.1,y4.2.2.1,y4.2.2.2),⟨hy4.1,⟨by have:=hp.1;have:=hy4.2.1;dsimp only;omega,hy4.2.2.1,fun h=>absurd h (by omega)⟩,by have:=hp.1;have:=hy4.2.2.2.1;dsimp only;omega,by have:=hp.1;have:=hy4.2.2.2.2.1;dsimp only;omega,hSx⟩,wQ [0,1,2,3,4,5,6] ?_ ?_⟩
  ·simp[go_sem,Dw (1:Int)]
  simp[go_sem]
 -- the end
 refine Bt ?_
 have hre:=hy3.1.d.reqs
 have hle:=hy3.1.d.b.legs
 have hqm:=Wk y3.1.reqs now hre hle
 refine B3 (fun K kk=>by simp[go_sem];refine .l (V1 y3.1.reqs now hre hle) ?_;simp[go_sem];exact kk) ?_
 refine Bq ?_
 refine Dm 4 ?_
 simp[go_sem]
 refine C7 3 1 (Rw [y3.2.1]) rfl rfl (by simp) (by simp) ?_
 simp[go_sem]
 refine Dm 5 ?_
 simp[go_sem]
 refine Dm 6 ?_
 simp[go_sem]
 refine Bz (Fk ?_);simp[go_sem]
 refine⟨(⟨y3.1.reg,Jn y3.1.reqs now hre hle,y3.1.draws,y3.1.aud⟩,[y3.2.1],y3.2.2.1,y3.2.2.2),by simp[go_sem],⟨hy3.1.marked hqm.1 hqm.2,hy3.1.aud,hy3.1.num,hy3.1.ag,hn.symm,fun r hr=>by simp only[List.mem_cons,A8,or_false] at hr;subst hr<;>first | exact⟨(hy3.2.1).1,(hy3.2.1).2.1⟩,?_,?_⟩,y1,y3.1,([y3.2.1]:List (List D0)).take i3,hre,hle,by omega,hya,?_,rfl,?_⟩
 ·have:=hy3.2.2.1;dsimp only;omega
 ·have:=hy3.2.2.2.1;dsimp only;omega
 ·have hS:=hy3.2.2.2.2
  rw[hn,show l.take 1=lq.take i3 by rw[Bf (l:=lq) (i:=i3) (by omega),hlq,List.take_eq_take_iff];omega]
  exact hS
 have hin:i3=0\/i3=1:=by omega
 rcases hin with rfl | rfl<;>simp[hn,List.replicate,(hy3.2.1).2.2]
theorem Agx (cfg:Fc) (x:Dx) (l:List Gv) (now:Int) (hd:F8 x) (hn:x.aud.length=2) (hl:l.length<=1000) (hi:∀p∈l,p.items.length<=257/\∀t∈p.items,t.pay.length<=1000):Ct 125 [cfg.g,x.g,.mInp l,.li now] (fun d:Dx×List (List D0)×List Gk×List Int=>.tup [d.1.g,.imm false 1 (Rw d.2.1),.mEnt d.2.2.1,.mI d.2.2.2]) (fun d=>Aqy x d/\Aiz cfg x l now d):=by
 refine Er Tryz.func125 ?_
 refine Bq ?_
 refine B3 (fun K kk=>by simp[go_sem,hn];refine .l (Pt x hd.b) ?_;simp[go_sem,hn];exact kk) ?_
 refine Dk 3 _ 152 (.tmp 27) (.tmp 27) (by rfl) rfl rfl rfl (by rfl) (by rfl) fun K1 hK1=>?_
 simp[go_sem,hn]
 refine hK1 _ ?_;clear hK1
 refine VX.toBox 4 rfl (by simp) (by simp) ?_
 simp[go_sem,hn,Pb,List.replicate]
 refine VX.own0l 4 0 56 4 (by decide) rfl rfl ?_
 simp[go_sem]
 refine VX.own0l 4 1 56 4 (by decide) rfl rfl ?_
 simp[go_sem]
 iterate 2 refine Bq ?_
 refine Cf 13 248 3 (by decide) (k':=3) (by simp[go_sem]) ?_
 simp[go_sem]
 refine Cf 14 3 1 (by decide) (k':=1) (by simp[go_sem]) ?_
 simp[go_sem]
 obtain⟨lq,hlq⟩:∃lq,lq=l.take (min l.length 2):=⟨_,rfl⟩
 have hll:lq.length<=2:=by rw[hlq,A5];omega
 have hiq:∀p∈lq,p.items.length<=257/\∀t∈p.items,t.pay.length<=1000:=fun p hp=>hi p (Aq (by rw[hlq] at hp;exact hp))
 have hT:List.take (if (2:Int)<(l.length:Int) then (2:Int) else (l.length:Int)).toNat (List.map Gv.t l)=List.map Gv.t lq:=by rw[hlq,List.map_take];congr 1;split<;>omega
 refine B3 (fun K kk=>by simp[go_sem,hn,hT];repeat first | exact kk | refine aK ?_)<|.seq ?_
 refine B3 (fun K kk=>by simp[go_sem,hn];exact kk)<|.block ?_
 refine Bs 2 (fun i1 (y1:List Bool)=>⟨[(2,.mInp lq),(3,.li now),(4,.ptr 0 0),(5,.ptr 1 0),(8,.ptr 2 0),(9,.nil 1),(10,.nil 3),(11,.nil 1),(12,.bsl 4 2),(13,.own 7 0),(14,.own 8 0),(39,.li 2),(40,.li i1)],[.box 30 (cfg.a false),.box 70 [.li x.reg.num,.mY x.reg.ag.sec,.li x.reg.ag.ri,.li x.reg.ag.cls,.mI x.reg.ag.lims,.li x.reg.ag.rq,.li x.reg.ag.se,.li x.reg.ag.ra,.li x.reg.ag.bu,.mTok x.reg.toks,.mVeh x.reg.vehs,.li x.reg.bk.lv,.li x.reg.bk.ra,.li x.reg.bk.bu,.mReq x.reqs,.mYs x.draws,.own 3 2],.box 70 [.li 0,.nil 1,.li 0,.li 0,.nil 1,.li 0,.li 0,.li 0,.li 0,.nil 6,.nil 2,.li 0,.li 0,.li 0,.nil 5,.nil 1,.nil 1],.row 4 1 false false (tB y1),.box 80 [.own 5 0,.own 6 0],.row 56 4 true false [],.row 56 4 true false [],.row 248 3 true false [],.row 3 1 true false []]⟩) (fun i1 y1=>y1.length=2/\Avn x.aud y1) x.aud (wQ [0,1,2,3,4,5,6,7,8] ?_ ?_) ⟨hn,fun k=>.inl rfl⟩ fun i1 y1 hi1 hy1=>?_
 ·simp[go_sem,hn]
 ·simp[go_sem,hn]
 obtain⟨hy1,hya⟩:=hy1
 refine Bq<|.seq ?_
 refine Br ?_ ?_<;>intro h41
 ·
  refine Bp<|.seq<|.block<|.R ?_
  obtain⟨ax,hax⟩:∃e,y1[i1]? = some e:=⟨_,Aa (by omega)⟩
  by_cases hc:i1<lq.length
  ·obtain⟨p,hx⟩:∃e,lq[i1]? = some e:=⟨_,Aa hc⟩
   have hcq:¬((lq.length:Int)<=i1):=by omega
   refine B3 (fun K kk=>by simp[go_sem,hcq,hx,hc];repeat first | exact kk | refine aK ?_) ?_
   refine Br ?_ ?_<;>intro h54
   ·
    refine Cg (fun K kk=>by simp[go_sem,hax,hy1];repeat first | exact kk | refine aK ?_) ?_
    refine Ci ?_
    refine⟨by omega,y1.set i1 false,?_,wQ [0,1,2,3,4,5,6,7,8] ?_ ?_⟩
    ·exact⟨by simpa using hy1,Akl hya i1⟩
    ·simp[go_sem,Dw ((i1:Int)+1)]
    simp[go_sem,hy1,List.map_set]
   -- none
   refine Bp<|.R1 ?_
   refine⟨by omega,y1,?_,wQ [0,1,2,3,4,5,6,7,8] ?_ ?_⟩
   ·exact⟨by simpa using hy1,hya⟩
   ·simp[go_sem,Dw ((i1:Int)+1)]
   simp[go_sem,hy1,List.map_set]
  have hcq:(lq.length:Int)<=i1:=by omega
  refine B3 (fun K kk=>by simp[go_sem,hcq];exact kk) ?_
  refine Cl ?_ ?_<;>intro h54<;>simp[go_sem] at h54
  refine Cg (fun K kk=>by simp[go_sem,hax,hy1];repeat first | exact kk | refine aK ?_) ?_
  refine Ci ?_
  refine⟨by omega,y1.set i1 false,?_,wQ [0,1,2,3,4,5,6,7,8] ?_ ?_⟩
  ·exact⟨by simpa using hy1,Akl hya i1⟩
  ·simp[go_sem,Dw ((i1:Int)+1)]
  simp[go_sem,hy1,List.map_set]
 -- the end of the first loop
 refine Bt<|.F 3 ?_
 simp[go_sem,hy1]
 refine Ca<|.R<|.block ?_
 refine Bs lq.length (fun i3 (y3:Dx×List D0×List D0×List Gk×List Int)=>⟨[(2,.mInp lq),(3,.li now),(4,.ptr 0 0),(5,.ptr 1 0),(8,.ptr 2 0),(9,.nil 1),(10,.nil 3),(11,.nil 1),(12,.bsl 3 2),(13,.own 6 y3.2.2.2.1.length),(14,.own 7 y3.2.2.2.2.length),(61,.li lq.length),(62,.li i3)],[.box 30 (cfg.a false),.box 70 (y3.1.a false),.box 70 [.li 0,.nil 1,.li 0,.li 0,.nil 1,.li 0,.li 0,.li 0,.li 0,.nil 6,.nil 2,.li 0,.li 0,.li 0,.nil 5,.nil 1,.nil 1],.box 80 [.own 4 y3.2.1.length,.own 5 y3.2.2.1.length],.row 56 4 false false (Q4 y3.2.1),.row 56 4 false false (Q4 y3.2.2.1),.row 248 3 false false (Ahe y3.2.2.2.1),.row 3 1 false false (tI y3.2.2.2.2)]⟩) (fun i3 y3=>R4 x y3.1/\(y3.2.1.length<=257/\(∀m∈y3.2.1,Hy m)/\(i3<=0->y3.2.1=[]))/\(y3.2.2.1.length<=257/\(∀m∈y3.2.2.1,Hy m)/\(i3<=1->y3.2.2.1=[]))/\y3.2.2.2.1.length<=257*i3/\y3.2.2.2.2.length<=257*i3/\SeR cfg now ⟨x.reg,x.reqs,x.draws,y1⟩ (lq.take i3) y3.1 (([y3.2.1,y3.2.2.1]:List (List D0)).take i3) y3.2.2.2.1 y3.2.2.2.2) (⟨x.reg,x.reqs,x.draws,y1⟩,[],[],[],[]) (wQ [0,1,2,4,5,6,7,8] ?_ ?_) (⟨R4.audited hd (by omega),⟨by simp,fun m hm=>by simp at hm,fun _=>rfl⟩,⟨by simp,fun m hm=>by simp at hm,fun _=>rfl⟩,by simp,by simp,.nil⟩) fun i3 y3 hi3 hy3=>?_
 ·simp[go_sem,hy1]
 ·simp[go_sem,hy1]
 refine Bq<|.seq ?_
 refine Br ?_ ?_<;>intro h63
 ·
  obtain⟨p,hx⟩:∃e,lq[i3]? = some e:=⟨_,Aa (by omega)⟩
  have hp:=hiq p (Ac hx)
  refine Bp<|.seq<|.block<|.R<|.seq ?_
  refine B3 (fun K kk=>by simp[go_sem,hx];repeat first | exact kk | refine aK ?_) ?_
  refine Br ?_ ?_<;>intro h70
  ·
   have hs:=SeR.shut hy3.2.2.2.2.2 hx h70
   have hSx:SeR cfg now ⟨x.reg,x.reqs,x.draws,y1⟩ (lq.take (i3+1)) y3.1 (([y3.2.1,y3.2.2.1]:List (List D0)).take (i3+1)) y3.2.2.2.1 y3.2.2.2.2:=by
    have hin:i3=0\/i3=1:=by omega
    rcases hin with rfl | rfl
    ·have h0:=(hy3.2.1).2.2 (by omega)
     simpa[h0] using hs
    have h0:=(hy3.2.2.1).2.2 (by omega)
    simpa[h0] using hs
   refine Bt<|.R1 ?_
   refine⟨by omega,y3,⟨hy3.1,⟨(hy3.2.1).1,(hy3.2.1).2.1,fun h=>(hy3.2.1).2.2 (by omega)⟩,⟨(hy3.2.2.1).1,(hy3.2.2.1).2.1,fun h=>(hy3.2.2.1).2.2 (by omega)⟩,by have:=hy3.2.2.2.1;omega,by have:=hy3.2.2.2.2.1;omega,hSx⟩,wQ [0,1,2,3,4,5,6,7] ?_ ?_⟩
   ·simp[go_sem,Dw ((i3:Int)+1)]
   simp[go_sem]
  refine Bp<|.S (fun K kk=>by simp[go_sem,hx];repeat first | exact kk | refine aK ?_)<|.block ?_
  have hin:i3=0\/i3=1:=by omega
  rcases hin with rfl | rfl
  ·
   have hr0:y3.2.1=[]:=(hy3.2.1).2.2 (by omega)
   refine Bs p.items.length (fun i4 (y4:Dx×List D0×List Gk×List Int)=>⟨[(2,.mInp lq),(3,.li now),(4,.ptr 0 0),(5,.ptr 1 0),(8,.ptr 2 0),(9,.nil 1),(10,.nil 3),(11,.nil 1),(12,.bsl 3 2),(13,.own 6 y4.2.2.1.length),(14,.own 7 y4.2.2.2.length),(61,.li lq.length),(62,.li 0),(16,.li 0),(75,.mItem p.items),(76,.li p.items.length),(77,.li i4)],[.box 30 (cfg.a false),.box 70 (y4.1.a false),.box 70 [.li 0,.nil 1,.li 0,.li 0,.nil 1,.li 0,.li 0,.li 0,.li 0,.nil 6,.nil 2,.li 0,.li 0,.li 0,.nil 5,.nil 1,.nil 1],.box 80 [.own 4 y4.2.1.length,.own 5 y3.2.2.1.length],.row 56 4 false false (Q4 y4.2.1),.row 56 4 false false (Q4 y3.2.2.1),.row 248 3 false false (Ahe y4.2.2.1),.row 3 1 false false (tI y4.2.2.2)]⟩) (fun i4 y4=>R4 x y4.1/\y4.2.1.length=i4/\(∀m∈y4.2.1,Hy m)/\y4.2.2.1.length<=257*0+i4/\y4.2.2.2.length<=257*0+i4/\∃e' s',ItR cfg 0 now y3.1 (p.items.take i4) y4.1 y4.2.1 e' s'/\y4.2.2.1=y3.2.2.2.1++e'/\y4.2.2.2=y3.2.2.2.2++s') (y3.1,[],y3.2.2.2.1,y3.2.2.2.2) (wQ [0,1,2,3,4,5,6,7] ?_ ?_) ⟨hy3.1,rfl,fun m hm=>by simp at hm,by have:=hy3.2.2.2.1;dsimp only;omega,by have:=hy3.2.2.2.2.1;dsimp only;omega,[],[],.nil,by simp,by simp⟩ fun i4 y4 hi4 hy4=>?_
   ·simp[go_sem,hr0]
   ·simp[go_sem,hr0]
   refine Bq<|.seq ?_
   refine Br ?_ ?_<;>intro h78
   ·
    obtain⟨t,ht⟩:∃e,p.items[i4]? = some e:=⟨_,Aa (by omega)⟩
    have htp:=hp.2 t (Ac ht)
    have hG:=Si cfg y4.1 0 t now hy4.1.d htp
    have hq:=(Ox cfg y4.1 0 t now hy4.1.d htp).1
    have hGe:HdR cfg y4.1 0 t now (F7 cfg y4.1 0 t now hy4.1.d htp):=⟨_,_,rfl⟩
    generalize F7 cfg y4.1 0 t now hy4.1.d htp=G at hG hq hGe
    have hl1:y4.2.1.length<=257:=by have:=hp.1;have:=hy4.2.1;omega
    have hl2:y4.2.2.1.length<=600:=by have:=hp.1;have:=hy4.2.2.2.1;omega
    have hl3:y4.2.2.2.length<=600:=by have:=hp.1;have:=hy4.2.2.2.2.1;omega
    refine Bp<|.seq<|.block<|.S (fun K kk=>by simp[go_sem,ht];repeat first | exact kk | refine aK ?_) ?_
    refine B3 (fun K kk=>by simp[go_sem];refine .l (hG) ?_;simp[go_sem];exact kk) ?_
    refine Bq ?_
    refine Cw (fun K kk=>by simp[go_sem];repeat first | exact kk | refine aK ?_) ?_
    refine B3 (fun K kk=>by simp[go_sem];repeat first | exact kk | refine aK ?_) ?_
    refine Bq ?_
    refine Br ?_ ?_<;>intro h108
    ·
     refine Cg (fun K kk=>by simp[go_sem];repeat first | exact kk | refine aK ?_) ?_
     obtain⟨e',s',hI,he,hs⟩:=hy4.2.2.2.2.2
     have hIx:∃e'' s'',ItR cfg 0 now y3.1 (p.items.take (i4+1)) G.1 (y4.2.1++[G.2.1]) e'' s''/\y4.2.2.1++[G.2.2.1]=y3.2.2.2.1++e''/\y4.2.2.2++[G.2.2.2]=y3.2.2.2.2++s'':=⟨_,_,hI.next ht hGe rfl,(congrArg (fun v=>v++[G.2.2.1]) he).trans (List.append_assoc _ _ _),by rw[if_pos h108];exact (congrArg (fun v=>v++[G.2.2.2]) hs).trans (List.append_assoc _ _ _)⟩
     refine Ci ?_
     refine⟨by omega,(G.1,y4.2.1++[G.2.1],y4.2.2.1++[G.2.2.1],y4.2.2.2++[G.2.2.2]),⟨hy4.1.next hq,?_,Oy hy4.2.2.1 hq.2.2.2.2,?_,?_,hIx⟩,wQ [0,1,2,3,4,5,6,7] ?_ ?_⟩
     ·have:=hy4.2.1;simp;omega
     ·have:=hy4.2.2.2.1;simp;omega
     ·have:=hy4.2.2.2.2.1;simp;omega
     ·simp[go_sem,Dw ((i4:Int)+1)]
     simp[go_sem]
    -- none
    refine Bp ?_
    obtain⟨e',s',hI,he,hs⟩:=hy4.2.2.2.2.2
    have hIx:∃e'' s'',ItR cfg 0 now y3.1 (p.items.take (i4+1)) G.1 (y4.2.1++[G.2.1]) e'' s''/\y4.2.2.1++[G.2.2.1]=y3.2.2.2.1++e''/\y4.2.2.2=y3.2.2.2.2++s'':=⟨_,_,hI.next ht hGe rfl,(congrArg (fun v=>v++[G.2.2.1]) he).trans (List.append_assoc _ _ _),by rw[if_neg (by omega),List.append_nil];exact hs⟩
    refine Ci ?_
    refine⟨by omega,(G.1,y4.2.1++[G.2.1],y4.2.2.1++[G.2.2.1],y4.2.2.2),⟨hy4.1.next hq,?_,Oy hy4.2.2.1 hq.2.2.2.2,?_,?_,hIx⟩,wQ [0,1,2,3,4,5,6,7] ?_ ?_⟩
    ·have:=hy4.2.1;simp;omega
    ·have:=hy4.2.2.2.1;simp;omega
    ·have:=hy4.2.2.2.2.1;simp;omega
    ·simp[go_sem,Dw ((i4:Int)+1)]
    simp[go_sem]
   -- the end of the items
   obtain⟨e',s',hI,he,hs⟩:=hy4.2.2.2.2.2
   rw[Bf (by omega)] at hI
   have hSx:SeR cfg now ⟨x.reg,x.reqs,x.draws,y1⟩ (lq.take (0+1)) y4.1 (([y4.2.1,y3.2.2.1]:List (List D0)).take (0+1)) y4.2.2.1 y4.2.2.2:=by
    have hS:=SeR.next hy3.2.2.2.2.2 hx h70 hI
    rw[he,hs]
    simpa using hS
   refine Bt<|.R1 ?_
   refine⟨by omega,(y4.1,y4.2.1,y3.2.2.1,y4.2.2.1,y4.2.2.2),⟨hy4.1,⟨by have:=hp.1;have:=hy4.2.1;dsimp only;omega,hy4.2.2.1,fun h=>absurd h (by omega)⟩,⟨(hy3.2.2.1).1,(hy3.2.2.1).2.1,fun h=>(hy3.2.2.1).2.2 (by omega)⟩,by have:=hp.1;have:=hy4.2.2.2.1;dsimp only;omega,by have:=hp.1;have:=hy4.2.2.2.2.1;dsimp only;omega,hSx⟩,wQ [0,1,2,3,4,5,6,7] ?_ ?_⟩
   ·simp[go_sem,Dw (1:Int)]
   simp[go_sem]
  -- session 1
  have hr0:y3.2.2.1=[]:=(hy3.2.2.1).2.2 (by omega)
  refine Bs p.items.length (fun i4 (y4:Dx×List D0×List Gk×List Int)=>⟨[(2,.mInp lq),(3,.li now),(4,.ptr 0 0),(5,.ptr 1 0),(8,.ptr 2 0),(9,.nil 1),(10,.nil 3),(11,.nil 1),(12,.bsl 3 2),(13,.own 6 y4.2.2.1.length),(14,.own 7 y4.2.2.2.length),(61,.li lq.length),(62,.li 1),(16,.li 1),(75,.mItem p.items),(76,.li p.items.length),(77,.li i4)],[.box 30 (cfg.a false),.box 70 (y4.1.a false),.box 70 [.li 0,.nil 1,.li 0,.li 0,.nil 1,.li 0,.li 0,.li 0,.li 0,.nil 6,.nil 2,.li 0,.li 0,.li 0,.nil 5,.nil 1,.nil 1],.box 80 [.own 4 y3.2.1.length,.own 5 y4.2.1.length],.row 56 4 false false (Q4 y3.2.1),.row 56 4 false false (Q4 y4.2.1),.row 248 3 false false (Ahe y4.2.2.1),.row 3 1 false false (tI y4.2.2.2)]⟩) (fun i4 y4=>R4 x y4.1/\y4.2.1.length=i4/\(∀m∈y4.2.1,Hy m)/\y4.2.2.1.length<=257*1+i4/\y4.2.2.2.length<=257*1+i4/\∃e' s',ItR cfg 1 now y3.1 (p.items.take i4) y4.1 y4.2.1 e' s'/\y4.2.2.1=y3.2.2.2.1++e'/\y4.2.2.2=y3.2.2.2.2++s') (y3.1,[],y3.2.2.2.1,y3.2.2.2.2) (wQ [0,1,2,3,4,5,6,7] ?_ ?_) ⟨hy3.1,rfl,fun m hm=>by simp at hm,by have:=hy3.2.2.2.1;dsimp only;omega,by have:=hy3.2.2.2.2.1;dsimp only;omega,[],[],.nil,by simp,by simp⟩ fun i4 y4 hi4 hy4=>?_
  ·simp[go_sem,hr0]
  ·simp[go_sem,hr0]
  refine Bq<|.seq ?_
  refine Br ?_ ?_<;>intro h78
  ·
   obtain⟨t,ht⟩:∃e,p.items[i4]? = some e:=⟨_,Aa (by omega)⟩
   have htp:=hp.2 t (Ac ht)
   have hG:=Si cfg y4.1 1 t now hy4.1.d htp
   have hq:=(Ox cfg y4.1 1 t now hy4.1.d htp).1
   have hGe:HdR cfg y4.1 1 t now (F7 cfg y4.1 1 t now hy4.1.d htp):=⟨_,_,rfl⟩
   generalize F7 cfg y4.1 1 t now hy4.1.d htp=G at hG hq hGe
   have hl1:y4.2.1.length<=257:=by have:=hp.1;have:=hy4.2.1;omega
   have hl2:y4.2.2.1.length<=600:=by have:=hp.1;have:=hy4.2.2.2.1;omega
   have hl3:y4.2.2.2.length<=600:=by have:=hp.1;have:=hy4.2.2.2.2.1;omega
   refine Bp<|.seq<|.block<|.S (fun K kk=>by simp[go_sem,ht];repeat first | exact kk | refine aK ?_) ?_
   refine B3 (fun K kk=>by simp[go_sem];refine .l (hG) ?_;simp[go_sem];exact kk) ?_
   refine Bq ?_
   refine Cw (fun K kk=>by simp[go_sem];repeat first | exact kk | refine aK ?_) ?_
   refine B3 (fun K kk=>by simp[go_sem];repeat first | exact kk | refine aK ?_) ?_
   refine Bq ?_
   refine Br ?_ ?_<;>intro h108
   ·
    refine Cg (fun K kk=>by simp[go_sem];repeat first | exact kk | refine aK ?_) ?_
    obtain⟨e',s',hI,he,hs⟩:=hy4.2.2.2.2.2
    have hIx:∃e'' s'',ItR cfg 1 now y3.1 (p.items.take (i4+1)) G.1 (y4.2.1++[G.2.1]) e'' s''/\y4.2.2.1++[G.2.2.1]=y3.2.2.2.1++e''/\y4.2.2.2++[G.2.2.2]=y3.2.2.2.2++s'':=⟨_,_,hI.next ht hGe rfl,(congrArg (fun v=>v++[G.2.2.1]) he).trans (List.append_assoc _ _ _),by rw[if_pos h108];exact (congrArg (fun v=>v++[G.2.2.2]) hs).trans (List.append_assoc _ _ _)⟩
    refine Ci ?_
    refine⟨by omega,(G.1,y4.2.1++[G.2.1],y4.2.2.1++[G.2.2.1],y4.2.2.2++[G.2.2.2]),⟨hy4.1.next hq,?_,Oy hy4.2.2.1 hq.2.2.2.2,?_,?_,hIx⟩,wQ [0,1,2,3,4,5,6,7] ?_ ?_⟩
    ·have:=hy4.2.1;simp;omega
    ·have:=hy4.2.2.2.1;simp;omega
    ·have:=hy4.2.2.2.2.1;simp;omega
    ·simp[go_sem,Dw ((i4:Int)+1)]
    simp[go_sem]
   -- none
   refine Bp ?_
   obtain⟨e',s',hI,he,hs⟩:=hy4.2.2.2.2.2
   have hIx:∃e'' s'',ItR cfg 1 now y3.1 (p.items.take (i4+1)) G.1 (y4.2.1++[G.2.1]) e'' s''/\y4.2.2.1++[G.2.2.1]=y3.2.2.2.1++e''/\y4.2.2.2=y3.2.2.2.2++s'':=⟨_,_,hI.next ht hGe rfl,(congrArg (fun v=>v++[G.2.2.1]) he).trans (List.append_assoc _ _ _),by rw[if_neg (by omega),List.append_nil];exact hs⟩
   refine Ci ?_
   refine⟨by omega,(G.1,y4.2.1++[G.2.1],y4.2.2.1++[G.2.2.1],y4.2.2.2),⟨hy4.1.next hq,?_,Oy hy4.2.2.1 hq.2.2.2.2,?_,?_,hIx⟩,wQ [0,1,2,3,4,5,6,7] ?_ ?_⟩
   ·have:=hy4.2.1;simp;omega
   ·have:=hy4.2.2.2.1;simp;omega
   ·have:=hy4.2.2.2.2.1;simp;omega
   ·simp[go_sem,Dw ((i4:Int)+1)]
   simp[go_sem]
  -- the end of the items
  obtain⟨e',s',hI,he,hs⟩:=hy4.2.2.2.2.2
  rw[Bf (by omega)] at hI
  have hSx:SeR cfg now ⟨x.reg,x.reqs,x.draws,y1⟩ (lq.take (1+1)) y4.1 (([y3.2.1,y4.2.1]:List (List D0)).take (1+1)) y4.2.2.1 y4.2.2.2:=by
   have hS:=SeR.next hy3.2.2.2.2.2 hx h70 hI
   rw[he,hs]
   simpa using hS
  refine Bt<|.R1 ?_
  refine⟨by omega,(y4.1,y3.2.1,y4.2.1,y4.2.2.1,y4.2.2.2),⟨hy4.1,⟨(hy3.2.1).1,(hy3.2.1).2.1,fun h=>(hy3.2.1).2.2 (by omega)⟩,⟨by have:=hp.1;have:=hy4.2.1;dsimp only;omega,hy4.2.2.1,fun h=>absurd h (by omega)⟩,by have:=hp.1;have:=hy4.2.2.2.1;dsimp only;omega,by have:=hp.1;have:=hy4.2.2.2.2.1;dsimp only;omega,hSx⟩,wQ [0,1,2,3,4,5,6,7] ?_ ?_⟩
  ·simp[go_sem,Dw (2:Int)]
  simp[go_sem]
 -- the end
 refine Bt ?_
 have hre:=hy3.1.d.reqs
 have hle:=hy3.1.d.b.legs
 have hqm:=Wk y3.1.reqs now hre hle
 refine B3 (fun K kk=>by simp[go_sem];refine .l (V1 y3.1.reqs now hre hle) ?_;simp[go_sem];exact kk) ?_
 refine Bq ?_
 refine Dm 4 ?_
 simp[go_sem]
 refine Dm 5 ?_
 simp[go_sem]
 refine C7 3 1 (Rw [y3.2.1,y3.2.2.1]) rfl rfl (by simp) (by simp) ?_
 simp[go_sem]
 refine Dm 6 ?_
 simp[go_sem]
 refine Dm 7 ?_
 simp[go_sem]
 refine Bz (Fk ?_);simp[go_sem]
 refine⟨(⟨y3.1.reg,Jn y3.1.reqs now hre hle,y3.1.draws,y3.1.aud⟩,[y3.2.1,y3.2.2.1],y3.2.2.2.1,y3.2.2.2.2),by simp[go_sem],⟨hy3.1.marked hqm.1 hqm.2,hy3.1.aud,hy3.1.num,hy3.1.ag,hn.symm,fun r hr=>by simp only[List.mem_cons,A8,or_false] at hr;rcases hr with rfl | rfl<;>first | exact⟨(hy3.2.1).1,(hy3.2.1).2.1⟩ | exact⟨(hy3.2.2.1).1,(hy3.2.2.1).2.1⟩,?_,?_⟩,y1,y3.1,([y3.2.1,y3.2.2.1]:List (List D0)).take i3,hre,hle,by omega,hya,?_,rfl,?_⟩
 ·have:=hy3.2.2.2.1;dsimp only;omega
 ·have:=hy3.2.2.2.2.1;dsimp only;omega
 ·have hS:=hy3.2.2.2.2.2
  rw[hn,show l.take 2=lq.take i3 by rw[Bf (l:=lq) (i:=i3) (by omega),hlq,List.take_eq_take_iff];omega]
  exact hS
 have hin:i3=0\/i3=1\/i3=2:=by omega
 rcases hin with rfl | rfl | rfl<;>simp[hn,List.replicate,(hy3.2.1).2.2,(hy3.2.2.1).2.2]
theorem Vx (cfg:Fc) (x:Dx) (l:List Gv) (now:Int) (hd:F8 x) (ha:1<=x.aud.length/\x.aud.length<=2) (hl:l.length<=1000) (hi:∀p∈l,p.items.length<=257/\∀t∈p.items,t.pay.length<=1000):Ct 125 [cfg.g,x.g,.mInp l,.li now] (fun d:Dx×List (List D0)×List Gk×List Int=>.tup [d.1.g,.imm false 1 (Rw d.2.1),.mEnt d.2.2.1,.mI d.2.2.2]) (fun d=>Aqy x d/\Aiz cfg x l now d):=by
 have h:x.aud.length=1\/x.aud.length=2:=by omega
 rcases h with h | h
 ·exact Agy cfg x l now hd h hl hi
 exact Agx cfg x l now hd h hl hi
def Iq (cfg:Fc) (x:Dx) (l:List Gv) (now:Int) (hd:F8 x) (ha:1<=x.aud.length/\x.aud.length<=2) (hl:l.length<=1000) (hi:∀p∈l,p.items.length<=257/\∀t∈p.items,t.pay.length<=1000):Dx×List (List D0)×List Gk×List Int:=(Em (Vx cfg x l now hd ha hl hi)).choose
theorem Aly (cfg:Fc) (x:Dx) (l:List Gv) (now:Int) (hd:F8 x) (ha:1<=x.aud.length/\x.aud.length<=2) (hl:l.length<=1000) (hi:∀p∈l,p.items.length<=257/\∀t∈p.items,t.pay.length<=1000):PP 125 [] [cfg.g,x.g,.mInp l,.li now] [] (.tup [.agg ((Iq cfg x l now hd ha hl hi).1.a false),.imm false 1 (Rw (Iq cfg x l now hd ha hl hi).2.1),.imm false 3 (Ahe (Iq cfg x l now hd ha hl hi).2.2.1),.imm false 1 (tI (Iq cfg x l now hd ha hl hi).2.2.2)]):=(Em (Vx cfg x l now hd ha hl hi)).choose_spec.1
theorem Wn (cfg:Fc) (x:Dx) (l:List Gv) (now:Int) (hd:F8 x) (ha:1<=x.aud.length/\x.aud.length<=2) (hl:l.length<=1000) (hi:∀p∈l,p.items.length<=257/\∀t∈p.items,t.pay.length<=1000):Aqy x (Iq cfg x l now hd ha hl hi)/\Aiz cfg x l now (Iq cfg x l now hd ha hl hi):=(Em (Vx cfg x l now hd ha hl hi)).choose_spec.2
end
section
def Ax1 (p:Gv):Prop:=p.items.length<=257/\∀t∈p.items,t.pay.length<=1000
theorem Ay2 {x:Dx} {n:Int} (hd:F8 x/\1<=x.aud.length/\x.aud.length<=2):F8 (Fl x n hd.1.b)/\1<=(Fl x n hd.1.b).aud.length/\(Fl x n hd.1.b).aud.length<=2:=by
 obtain⟨h1,h2,h3,h4,h5⟩:=Ul x n hd.1.b
 have hr:=Px x.reg n hd.1.b.reg
 refine⟨⟨h1,?_,?_,?_,?_⟩,by rw[h5];exact hd.2⟩
 ·rw[h2,hr.2.2.2.1];exact hd.1.vehs
 ·rw[h3];exact Ak (Az _ _) hd.1.reqs
 ·rw[h4];exact hd.1.dr
 rw[h2,hr.2.1.2];exact hd.1.rq
variable {k:Nat} {a:H0} {x:Int×Int×Int}
theorem Aie {l:List H0} (h:x∈X5 l k a):x.1=(k:Int)/\0<=x.2.1/\0<=x.2.2:=by
 unfold X5 at h
 obtain⟨n,_,rfl⟩:=A4.1 h
 have:=(Kb l k).1
 exact⟨rfl,by simp,by simp;omega⟩
theorem Amb {l:List H0} {k j:Nat} (h:(X5 l k a)[j]? = some x):x.2.2=En l k+j/\x.2.1=j/\x.1=k/\(j:Int)<Ek a:=by
 unfold X5 at h
 rw[Ap] at h
 have hj:j<(List.range (Ek a).toNat).length:=by
  cases hq:(List.range (Ek a).toNat)[j]? with
  | none=>rw[hq] at h;cases h
  | some n=>exact (Ab.1 hq).1
 rw[List.length_range] at hj
 rw[List.getElem?_range (by simpa using hj)] at h
 simp at h
 rw[<- h]
 exact⟨rfl,rfl,rfl,by omega⟩
def Afs (l:List Gv) (b n:Nat):List Gv:=(List.range n).map fun j=>(l[b+j]?).getD ⟨false,[]⟩
theorem Amw (l:List Gv) (b n:Nat):(Afs l b n).length=n:=by simp[Afs]
theorem Akb {l y:List Gv} {b n:Nat} {p:Gv} (h:y=Afs l b n) (hp:(l[b+n]?).getD ⟨false,[]⟩=p):y++[p]=Afs l b (n+1):=by rw[h,<- hp];simp[Afs,List.range_succ]
def DtR (cfg:Fc) (x:Dx) (l:List Gv) (now:Int) (d:Dx×List (List D0)×List Gk×List Int):Prop:=∃h1 h2 h3 h4,Iq cfg x l now h1 h2 h3 h4=d
variable {now:Int}
theorem DtR.of {cfg:Fc} {x:Dx} {l l':List Gv} {h1:F8 x} {h2:1<=x.aud.length/\x.aud.length<=2} {h3:l.length<=1000} {h4:∀p∈l,p.items.length<=257/\∀t∈p.items,t.pay.length<=1000} (e:l=l'):DtR cfg x l' now (Iq cfg x l now h1 h2 h3 h4):=by
 subst e
 exact⟨h1,h2,h3,h4,rfl⟩
def BgR (l y:List Dx) (now:Int) (i:Nat):Prop:=∀(k:Nat) (d:Dx),l[k]? = some d->(k<i->∃hb,y[k]? = some (Fl d now hb))/\(i<=k->y[k]? = some d)
variable {i:Nat}
theorem BgR.next {l y:List Dx} {x B:Dx} (h:BgR l y now i) (hx:y[i]? = some x) (hB:∃hb,Fl x now hb=B):BgR l (y.set i B) now (i+1):=fun k d hd=>by
 by_cases hk:k=i
 ·subst hk
  have h1:=(h k d hd).2 (Aj _)
  rw[hx] at h1
  injection h1 with h1
  subst h1
  obtain⟨hb,rfl⟩:=hB
  exact⟨fun _=>⟨hb,Bg (Ab.1 hx).1⟩,fun h=>by omega⟩
 rw[A9 (Ne.symm hk)]
 exact⟨fun h1=>(h k d hd).1 (by omega),fun h1=>(h k d hd).2 (by omega)⟩
def Awe (c:Fs) (l:List Gv) (k:Nat) (d:Dx) (a:H0) (D:Dx×List (List D0)×List Gk×List Int):Prop:=∃hb,DtR c.cfg (Fl d c.now hb) (Afs l (En c.cfg.ags k).toNat (Ek a).toNat) c.now D
def An1 (c:Fs) (l:List Gv) (ds:List Dx) (rp:List (List (List D0))) (en:List Gk) (i:Nat):Prop:=∃ens:List (List Gk),en=ens.flatten/\ens.length=i/\∀(k:Nat) (d:Dx) (a:H0),c.desks[k]? = some d->c.cfg.ags[k]? = some a->(k<i->∃x r e s,ds[k]? = some x/\rp[k]? = some r/\ens[k]? = some e/\Awe c l k d a (x,r,e,s))/\(i<=k->∃hb,ds[k]? = some (Fl d c.now hb))
variable {c:Fs} {l:List Gv} {D:Dx×List (List D0)×List Gk×List Int}
theorem Awe.len {d:Dx} (h:Awe c l k d a D):D.1.aud.length=d.aud.length/\D.2.1.length=d.aud.length:=by
 obtain⟨hb,h1,h2,h3,h4,rfl⟩:=h
 have q:=(Wn c.cfg (Fl d c.now hb) (Afs l (En c.cfg.ags k).toNat (Ek a).toNat) c.now h1 h2 h3 h4).1
 have b:=(Ul d c.now hb).2.2.2.2
 exact⟨q.2.1.trans (by rw[b]),q.2.2.2.2.1.trans (by rw[b])⟩
variable {ds:List Dx} {rp:List (List (List D0))} {en:List Gk}
theorem An1.len (h:An1 c l ds rp en c.desks.length) (hc:∀(k:Nat) (d:Dx) (a:H0),c.desks[k]? = some d->c.cfg.ags[k]? = some a->(d.aud.length:Int)=Ek a) (hl:c.desks.length=c.cfg.ags.length) (ha:c.cfg.ags[k]? = some a):(∀d,ds[k]? = some d->(d.aud.length:Int)=Ek a)/\∀r,rp[k]? = some r->(r.length:Int)=Ek a:=by
 obtain⟨ens,_,_,h⟩:=h
 have hk:k<c.desks.length:=by rw[hl];exact (Ab.1 ha).1
 have hd:c.desks[k]? = some c.desks[k]:=Aa hk
 obtain⟨x,r,e,s,h1,h2,_,h4⟩:=(h k _ a hd ha).1 hk
 have hL:=h4.len
 have hD:=hc k _ a hd ha
 refine⟨fun d h=>?_,fun r' h=>?_⟩
 ·rw[h1] at h;injection h with h;rw[<- h,<- hD];exact congrArg Nat.cast hL.1
 rw[h2] at h;injection h with h;rw[<- h,<- hD];exact congrArg Nat.cast hL.2
theorem An1.next {x:Dx} {g:H0} (h:An1 c l ds rp en i) (hx:ds[i]? = some x) (hg:c.cfg.ags[i]? = some g) (hr:i<rp.length) (hD:DtR c.cfg x (Afs l (En c.cfg.ags i).toNat (Ek g).toNat) c.now D):An1 c l (ds.set i D.1) (rp.set i D.2.1) (en++D.2.2.1) (i+1):=by
 obtain⟨ens,rfl,hl,h⟩:=h
 refine⟨ens++[D.2.2.1],by simp,by simp[hl],fun k d a hd ha=>?_⟩
 have h':=h k d a hd ha
 by_cases hk:k=i
 ·subst hk
  obtain⟨hb,e⟩:=h'.2 (Aj _)
  rw[hx] at e
  injection e with e
  subst e
  rw[hg] at ha
  injection ha with ha
  subst ha
  exact⟨fun _=>⟨D.1,D.2.1,D.2.2.1,D.2.2.2,Bg (Ab.1 hx).1,Bg hr,by rw[<- hl];simp,hb,hD⟩,fun h=>by omega⟩
 rw[A9 (Ne.symm hk),A9 (Ne.symm hk)]
 refine⟨fun h1=>?_,fun h1=>h'.2 (by omega)⟩
 rw[Au (by omega)]
 exact h'.1 (by omega)
structure A3a (c:Fs) (i:Nat) (y:List Dx×List Hz×List F3×List Int):Prop where
  f1:y.2.1=c.sigs
  f2:y.2.2.1=c.svcs
  f3:y.2.2.2=c.stuck
  len:y.1.length=c.desks.length
  ok:∀d∈y.1,F8 d/\1<=d.aud.length/\d.aud.length<=2
  bg:BgR c.desks y.1 c.now i
structure A1s (c:Fs) (l:List Gv) (ds:List Dx) (sg:List Hz) (sv:List F3) (sk:List Int) (rp:List (List (List D0))) (en:List Gk) (rs:List Int) (i:Nat):Prop where
  f1:sg=c.sigs
  f2:sv=c.svcs
  f3:sk=c.stuck
  len:ds.length=c.desks.length
  ok:∀d∈ds,F8 d/\1<=d.aud.length/\d.aud.length<=2
  rl:rp.length=c.desks.length
  ro:∀r∈rp,r.length<=2/\∀q∈r,q.length<=257/\∀m∈q,Hy m
  el:en.length<=600*i
  sl:rs.length<=600*i
  k:An1 c l ds rp en i
theorem Ze {α:Type} {p:α->Prop} {l:List α} {x:α} (h:∀y∈l,p y) (hx:p x):∀y∈l.set i x,p y:=fun y hy=>by
 rcases Bi hy with h1 | h1
 ·exact h y h1
 rw[h1];exact hx
theorem Aa0 (c:Fs) (l:List Gv) (hc:J9 c) (hl:l.length<=1000) (hi:∀p∈l,Ax1 p):Cx 95 [.row 70 17 false false (I6 c.desks),.row 135 5 false false (O6 c.sigs),.row 138 3 false false (Pu c.svcs),.row 3 1 false false (tI c.stuck)] [.agg [.mJun c.cfg.juns,.mAg c.cfg.ags,.li c.cfg.per,.li c.cfg.cap,.li c.cfg.hold,.li c.cfg.lock,.lb c.ref,.li c.now,.own 0 c.desks.length,.own 1 c.sigs.length,.own 2 c.svcs.length,.own 3 c.stuck.length,.mView c.views],.mInp l] (fun d:List (List (List D0))×List Gk×List Int×List Dx=>[.row 70 17 false false (I6 d.2.2.2),.row 135 5 false false (O6 c.sigs),.row 138 3 false false (Pu c.svcs),.row 3 1 false false (tI c.stuck)]) (fun d=>.tup [.imm false 1 (Wa d.1),.mEnt d.2.1,.mI d.2.2.1]) (fun d=>d.2.2.2.length=c.desks.length/\(∀x∈d.2.2.2,F8 x/\1<=x.aud.length/\x.aud.length<=2)/\d.1.length=c.desks.length/\(∀r∈d.1,r.length<=2/\∀q∈r,q.length<=257/\∀m∈q,Hy m)/\d.2.1.length<=2400/\d.2.2.1.length<=2400/\An1 c l d.2.2.2 d.1 d.2.1 c.desks.length):=by
 refine Tj Tryz.func95 ?_
 have hcd:=hc.desks
 have hca:=hc.na
 have hna:c.cfg.ags.length<=1000000:=by omega
 refine Bq<|.seq ?_
 refine Bq<|.block ?_
 refine Bs c.desks.length (fun i1 (y1:(List Dx)×(List Hz)×(List F3)×(List Int))=>⟨[(2,.ptr 4 0),(3,.ptr 5 0),(21,.li c.desks.length),(22,.li i1)],[.row 70 17 false false (I6 y1.1),.row 135 5 false false (O6 y1.2.1),.row 138 3 false false (Pu y1.2.2.1),.row 3 1 false false (tI y1.2.2.2),.box 37 [.mJun c.cfg.juns,.mAg c.cfg.ags,.li c.cfg.per,.li c.cfg.cap,.li c.cfg.hold,.li c.cfg.lock,.lb c.ref,.li c.now,.own 0 y1.1.length,.own 1 y1.2.1.length,.own 2 y1.2.2.1.length,.own 3 y1.2.2.2.length,.mView c.views],.box 147 [.mInp l]]⟩) (fun i1 y1=>A3a c i1 y1) (c.desks,c.sigs,c.svcs,c.stuck) (wk Dy [0,1,2,3,4,5]) (⟨rfl,rfl,rfl,rfl,hc.desk,fun k d hd=>⟨fun h=>absurd h (Nat.not_lt_zero _),fun _=>hd⟩⟩) fun i1 y1 hi1 hy1=>?_
 refine Bq<|.seq ?_
 refine Br ?_ ?_<;>intro h23
 ·refine Bp<|.seq<|.block<|.R ?_
  obtain⟨dk,hdk⟩:∃e,y1.1[i1]? = some e:=⟨_,Aa (by have:=hy1.len;omega)⟩
  have hdi:=hy1.ok dk (Ac hdk)
  have hyl:=hy1.len
  have hBv:=Ajq dk c.now hdi.1.b
  have hBq:=Ay2 (n:=c.now) hdi
  have hBe:∃hb,Fl dk c.now hb=Fl dk c.now hdi.1.b:=⟨_,rfl⟩
  generalize Fl dk c.now hdi.1.b=B at hBv hBq hBe
  refine Cp hdk (hBv) ?_
  refine Ci ?_
  exact⟨by omega,((y1.1).set i1 B,y1.2.1,y1.2.2.1,y1.2.2.2),⟨hy1.f1,hy1.f2,hy1.f3,by simpa using hyl,Ze hy1.ok hBq,hy1.bg.next hdk hBe⟩,wk (Dw ((i1:Int)+1)) [0,1,2,3,4,5]⟩
 refine Bt ?_
 have hyl:=hy1.len
 have hyl2:y1.1.length=c.cfg.ags.length:=by omega
 refine Bu hyl2 ?_
 refine Bq ?_
 refine Bq<|.seq ?_
 refine Bu hyl2<|.block ?_
 refine Cf 9 248 3 (by decide) (k':=3) (by simp[go_sem]) ?_
 simp[go_sem,-Prod.exists]
 refine Cf 10 3 1 (by decide) (k':=1) (by simp[go_sem]) ?_
 simp[go_sem,-Prod.exists]
 refine Bs c.cfg.ags.length (fun i2 (y2:(List Dx)×(List Hz)×(List F3)×(List Int)×(List (List (List D0)))×(List Gk)×(List Int))=>⟨[(2,.ptr 4 0),(3,.ptr 5 0),(8,.own 6 y2.2.2.2.2.1.length),(9,.own 7 y2.2.2.2.2.2.1.length),(10,.own 8 y2.2.2.2.2.2.2.length),(49,.li c.cfg.ags.length),(50,.li i2)],[.row 70 17 false false (I6 y2.1),.row 135 5 false false (O6 y2.2.1),.row 138 3 false false (Pu y2.2.2.1),.row 3 1 false false (tI y2.2.2.2.1),.box 37 [.mJun c.cfg.juns,.mAg c.cfg.ags,.li c.cfg.per,.li c.cfg.cap,.li c.cfg.hold,.li c.cfg.lock,.lb c.ref,.li c.now,.own 0 y2.1.length,.own 1 y2.2.1.length,.own 2 y2.2.2.1.length,.own 3 y2.2.2.2.1.length,.mView c.views],.box 147 [.mInp l],.row 152 1 false false (Wa y2.2.2.2.2.1),.row 248 3 false false (Ahe y2.2.2.2.2.2.1),.row 3 1 false false (tI y2.2.2.2.2.2.2)]⟩) (fun i2 y2=>A1s c l y2.1 y2.2.1 y2.2.2.1 y2.2.2.2.1 y2.2.2.2.2.1 y2.2.2.2.2.2.1 y2.2.2.2.2.2.2 i2) (y1.1,y1.2.1,y1.2.2.1,y1.2.2.2,List.replicate y1.1.length [],[],[]) (wk hyl2 [0,1,2,3,4,5,6,7,8]) (⟨hy1.f1,hy1.f2,hy1.f3,hyl,hy1.ok,by simp[hyl2,hcd],fun r hr=>by have:=List.eq_of_mem_replicate hr;subst this;exact⟨by simp,fun q hq=>by cases hq⟩,by simp,by simp,[],rfl,rfl,fun k d a hd _=>⟨fun h=>absurd h (Nat.not_lt_zero _),fun _=>(hy1.bg k d hd).1 (by have:=(Ab.1 hd).1;omega)⟩⟩) fun i2 y2 hi2 hy2=>?_
 refine Bq<|.seq ?_
 refine Br ?_ ?_<;>intro h51
 ·refine Bp<|.seq<|.block<|.R ?_
  refine Bq<|.seq ?_
  have hyk:=hy2.len
  obtain⟨ag,hag⟩:∃e,c.cfg.ags[i2]? = some e:=⟨_,Aa (by omega)⟩
  refine B8 Dy (S4 c.cfg i2)<|.block ?_
  refine Ck 9 0 149 2 (by decide) rfl rfl ?_
  simp[go_sem,-Prod.exists]
  refine Cz (s':=⟨[(2,.ptr 4 0),(3,.ptr 5 0),(8,.own 6 y2.2.2.2.2.1.length),(9,.own 7 y2.2.2.2.2.2.1.length),(10,.own 8 y2.2.2.2.2.2.2.length),(11,.li i2),(12,.ptr 9 0),(49,.li c.cfg.ags.length),(50,.li i2),(56,.fn 129 [.iptr false (cfT c.cfg) 0,.iptr false [.li (i2:Int)] 0])],(fun (y3:List Gv)=>[.row 70 17 false false (I6 y2.1),.row 135 5 false false (O6 y2.2.1),.row 138 3 false false (Pu y2.2.2.1),.row 3 1 false false (tI y2.2.2.2.1),.box 37 [.mJun c.cfg.juns,.mAg c.cfg.ags,.li c.cfg.per,.li c.cfg.cap,.li c.cfg.hold,.li c.cfg.lock,.lb c.ref,.li c.now,.own 0 y2.1.length,.own 1 y2.2.1.length,.own 2 y2.2.2.1.length,.own 3 y2.2.2.2.1.length,.mView c.views],.box 147 [.mInp l],.row 152 1 false false (Wa y2.2.2.2.2.1),.row 248 3 false false (Ahe y2.2.2.2.2.2.1),.row 3 1 false false (tI y2.2.2.2.2.2.2),.box 147 [.own 10 y3.length],.row 149 2 false false (Awp y3)]) ([])⟩) ⟨[0,1,2,3,4,5,6,7,8,9,10],El (by decide) ?_ ?_,Fv rfl⟩ ?_
  ·simp[go_sem]
  ·simp[go_sem]
  refine Dh (X0 c.cfg i2 ag hag hna) (fun (y3:List Gv)=>[.row 70 17 false false (I6 y2.1),.row 135 5 false false (O6 y2.2.1),.row 138 3 false false (Pu y2.2.2.1),.row 3 1 false false (tI y2.2.2.2.1),.box 37 [.mJun c.cfg.juns,.mAg c.cfg.ags,.li c.cfg.per,.li c.cfg.cap,.li c.cfg.hold,.li c.cfg.lock,.lb c.ref,.li c.now,.own 0 y2.1.length,.own 1 y2.2.1.length,.own 2 y2.2.2.1.length,.own 3 y2.2.2.2.1.length,.mView c.views],.box 147 [.mInp l],.row 152 1 false false (Wa y2.2.2.2.2.1),.row 248 3 false false (Ahe y2.2.2.2.2.2.1),.row 3 1 false false (tI y2.2.2.2.2.2.2),.box 147 [.own 10 y3.length],.row 149 2 false false (Awp y3)]) 11 (fun _=>rfl) (by rfl) (fun _=>Qf rfl) (by decide) ?_ (fun j3 y3=>A1s c l y2.1 y2.2.1 y2.2.2.1 y2.2.2.2.1 y2.2.2.2.2.1 y2.2.2.2.2.2.1 y2.2.2.2.2.2.2 i2/\y3=Afs l (En c.cfg.ags i2).toNat j3/\∀p∈y3,Ax1 p) ([]) (⟨hy2,rfl,fun p hp=>by cases hp⟩) (fun j3 vs y3 hj3 hy3=>?_) (fun y3 hy3=>?_)
  ·intro vs hvs
   obtain⟨a,_,rfl⟩:=A4.1 hvs
   simp[go_sem]
  ·
   obtain⟨a3,ha3,rfl⟩:=Ee hj3
   have hse:=Aie (Ac ha3)
   have hj3l:=(Ab.1 ha3).1
   have hsq:=Xe c.cfg.ags i2 ag
   have hsq2:=Gw ag
   have hyo:y3.length=j3:=by rw[hy3.2.1];exact Amw ..
   have hbj:(En c.cfg.ags i2).toNat+j3=a3.2.2.toNat:=by have h1:=(Amb ha3).1;have h2:=(Kb c.cfg.ags i2).1;omega
   refine Ci ?_
   refine⟨rfl,?_⟩
   refine Db<|.R<|.seq ?_
   refine Bq ?_
   refine Br ?_ ?_<;>intro h62
   ·obtain⟨e1,H1⟩:=gx l a3.2.2.toNat
    refine B0 H1 ?_
    refine B0 H1 ?_
    refine⟨(y3++([e1])),?_,⟨[0,1,2,3,4,5,6,7,8,9,10],El (by decide) ?_ ?_,Fv rfl⟩⟩
    ·exact⟨hy3.1,Akb hy3.2.1 (by rw[hbj,H1];rfl),Lc hy3.2.2 (hi _ (Ac H1))⟩
    ·simp[go_sem]
    simp[go_sem,H1]
   refine Bp<|.H1 Dy ?_
   refine⟨(y3++([⟨false,[]⟩])),?_,⟨[0,1,2,3,4,5,6,7,8,9,10],El (by decide) ?_ ?_,Fv rfl⟩⟩
   ·first | exact⟨hy3.1,Akb hy3.2.1 (by rw[hbj,H1];rfl),Lc hy3.2.2 (hi _ (Ac H1))⟩ | exact⟨hy3.1,Akb hy3.2.1 (by rw[Ar (by omega)];rfl),Lc hy3.2.2 ⟨Ae _,fun t ht=>by cases ht⟩⟩
   all_goals simp[go_sem]
  -- done
  have hyk3:=hy3.1.len
  have hrl3:=hy3.1.rl
  have hel3:=hy3.1.el
  have hsl3:=hy3.1.sl
  have hsq:=Xe c.cfg.ags i2 ag
  have hsq2:=Gw ag
  obtain⟨dk,hdk⟩:∃e,y2.1[i2]? = some e:=⟨_,Aa (by omega)⟩
  have hdi:=hy3.1.ok dk (Ac hdk)
  have hye:=hy3.2.1
  have hyo:=congrArg List.length hye
  have hsn:(X5 c.cfg.ags i2 ag).length=(Ek ag).toNat:=by omega
  simp only[A2,hsn] at hye
  simp only[A2,Amw] at hyo
  have hol:y3.length<=1000:=by omega
  have hTv:=Aly c.cfg dk y3 c.now hdi.1 hdi.2 hol hy3.2.2
  have hTq:=(Wn c.cfg dk y3 c.now hdi.1 hdi.2 hol hy3.2.2).1
  have hTe:DtR c.cfg dk (Afs l (En c.cfg.ags i2).toNat (Ek ag).toNat) c.now (Iq c.cfg dk y3 c.now hdi.1 hdi.2 hol hy3.2.2):=.of hye
  generalize Iq c.cfg dk y3 c.now hdi.1 hdi.2 hol hy3.2.2=D at hTv hTq hTe
  have he6:=hTq.2.2.2.2.2.2.1
  have hs6:=hTq.2.2.2.2.2.2.2
  refine B2 Dy 10 ?_
  refine Dd hdk (hTv) ?_
  refine Bu hdk ?_
  obtain⟨e2,H2⟩:=gx y2.2.2.2.2.1 i2
  refine Bu H2 ?_
  refine Bu H2 ?_
  refine B0 H2 ?_
  refine B0 H2 ?_
  exact⟨by omega,((y2.1).set i2 D.1,y2.2.1,y2.2.2.1,y2.2.2.2.1,(y2.2.2.2.2.1).set i2 D.2.1,y2.2.2.2.2.2.1++D.2.2.1,y2.2.2.2.2.2.2++D.2.2.2),⟨hy3.1.f1,hy3.1.f2,hy3.1.f3,by simpa using hyk3,Ze hy3.1.ok ⟨hTq.1,by rw[hTq.2.1];exact hdi.2⟩,by simpa using hrl3,Ze hy3.1.ro ⟨by rw[hTq.2.2.2.2.1];exact hdi.2.2,hTq.2.2.2.2.2.1⟩,by simp;omega,by simp;omega,hy3.1.k.next hdk hag (by omega) hTe⟩,wk (Fa (Dw ((i2:Int)+1)) H2) [0,1,2,3,4,5,6,7,8]⟩
 refine Bt<|.R ?_
 refine B2 Dy 6 ?_
 refine B2 Dy 7 ?_
 refine B2 Dy 8 ?_
 refine Bz ⟨(y2.2.2.2.2.1,y2.2.2.2.2.2.1,y2.2.2.2.2.2.2,y2.1),Tb [0,1,2,3] (by simp[go_sem]) (by decide) (Fv rfl) (by simp[go_sem,hy2.f1,hy2.f2,hy2.f3]) ?_,⟨hy2.len,hy2.ok,hy2.rl,hy2.ro,by have:=hy2.el;dsimp only;omega,by have:=hy2.sl;dsimp only;omega,by have h:=hy2.k;rwa[show i2=c.desks.length by omega] at h⟩⟩
 repeat' (first | exact .nil | refine .cons (by simp[go_sem,hy2.f1,hy2.f2,hy2.f3]) ?_)
end
section
theorem J9.at {c:Fs} (h:J9 c) (n:Int):J9 ⟨c.cfg,c.ref,n,c.desks,c.sigs,c.svcs,c.stuck,c.views⟩:=⟨h.ref,h.jun,h.nj,h.na,h.desks,h.desk,h.sigs,h.sig,h.svcs,h.svc,h.stuck,h.views,h.view,h.vw,h.dl⟩
def Asw (S:Fs) (l:List Gv) (i j:Nat) (r:List (List D0)) (en:List Gk) (q:List D0):Prop:=(∃p,l[(En S.cfg.ags i).toNat+j]? = some p/\p.op=true/\A1f S ⟨i,j,En S.cfg.ags i+j⟩ r en q)\/((∀p,l[(En S.cfg.ags i).toNat+j]? = some p->p.op=false)/\q=[])
def Akz (S:Fs) (l:List Gv) (rp:List (List (List D0))) (en:List Gk) (i j:Nat) (y:List (List D0)):Prop:=∀(k n:Nat) (a:H0) (r:List (List D0)),(k<i\/k=i/\n<j)->S.cfg.ags[k]? = some a->(n:Int)<Ek a->rp[k]? = some r->∃q,y[(En S.cfg.ags k).toNat+n]? = some q/\Asw S l k n r en q
variable {l:List Gv} {rp:List (List (List D0))} {en:List Gk} {i j:Nat} {y:List (List D0)}
theorem Akz.app {S:Fs} {q:List D0} (h:Akz S l rp en i j y) (hy:(y.length:Int)=En S.cfg.ags i+(j:Int)) (hq:∀r,rp[i]? = some r->Asw S l i j r en q):Akz S l rp en i (j+1) (y++[q]):=fun k n a r hk ha hn hr=>by
 by_cases e:k=i/\n=j
 ·obtain⟨rfl,rfl⟩:=e
  have h0:=(Kb S.cfg.ags k).1
  exact⟨q,by rw[show (En S.cfg.ags k).toNat+n=y.length by omega];simp,hq r hr⟩
 obtain⟨q',h1,h2⟩:=h k n a r (by omega) ha hn hr
 exact⟨q',by rw[Au (Ab.1 h1).1];exact h1,h2⟩
theorem Akz.up {S:Fs} {g:H0} (h:Akz S l rp en i j y) (hg:S.cfg.ags[i]? = some g) (hj:j=(Ek g).toNat):Akz S l rp en (i+1) 0 y:=fun k n a r hk ha hn hr=>h k n a r (by
 by_cases e:k=i
 ·subst e
  rw[hg] at ha
  injection ha with ha
  subst ha
  omega
 omega) ha hn hr
def A1e (c:Fs) (l:List Gv) (d:Fs×Wz):Prop:=∃rp en,An1 ⟨c.cfg,c.ref,d.1.now,c.desks,c.sigs,c.svcs,c.stuck,c.views⟩ l d.1.desks rp en c.desks.length/\rp.length=c.desks.length/\Akz d.1 l rp en d.1.cfg.ags.length 0 d.2.ses
structure Ay9 (c:Fs) (ds:List Dx) (y:List Dx×List Hz×List F3×List Int):Prop where
  f0:y.1=ds
  sl:y.2.1.length=c.cfg.juns.length
  sig:∀g∈y.2.1,g.ctl.lights.length<=8/\g.ctl.nxt.length<=2
  f2:y.2.2.1=c.svcs
  f3:y.2.2.2=c.stuck
theorem Ay9.city {c:Fs} {ds:List Dx} {y:List Dx×List Hz×List F3×List Int} (h:Ay9 c ds y) (hc:J9 c) (h1:ds.length=c.desks.length) (h2:∀x∈ds,F8 x/\1<=x.aud.length/\x.aud.length<=2) (h3:∀(k:Nat) (d:Dx) (a:H0),ds[k]? = some d->c.cfg.ags[k]? = some a->(d.aud.length:Int)=Ek a) (n:Int):J9 ⟨c.cfg,c.ref,n,y.1,y.2.1,y.2.2.1,y.2.2.2,c.views⟩ :=
 ⟨hc.ref,hc.jun,hc.nj,hc.na,by show y.1.length=_;rw[h.f0,h1];exact hc.desks,by show ∀d∈y.1,_;rw[h.f0];exact h2,h.sl,h.sig,by show y.2.2.1.length=_;rw[h.f2];exact hc.svcs,by show ∀g∈y.2.2.1,_;rw[h.f2];exact hc.svc,by show y.2.2.2.length=_;rw[h.f3];exact hc.stuck,hc.views,hc.view,hc.vw,by show ∀(k:Nat) (d:Dx) (a:H0),y.1[k]? = some d->_;rw[h.f0];exact h3⟩
theorem Ai5 (c:Fs) (l:List Gv) (hc:J9 c) (hl:l.length<=1000) (hi:∀p∈l,Ax1 p):Ct 65 [c.g,.mInp l] (fun d:Fs×Wz=>.tup [d.1.g,d.2.g]) (fun d=>J9 d.1/\d.1.cfg=c.cfg/\(d.2.ses.length:Int)=En c.cfg.ags c.cfg.ags.length/\(∀q∈d.2.ses,q.length<=910/\∀m∈q,Hy m)/\d.2.feed.length<=1/\(∀m∈d.2.feed,Hy m)/\d.1.now=IntKind.i64.wrap ((if 1073741823<c.now then 1073741823 else c.now)+1)/\A1e c l d):=by
 refine Er Tryz.func65 ?_
 have hcr:=hc.ref
 have hcd:=hc.desks
 have hca:=hc.na
 refine Bq ?_
 refine B8 Dy (Ov c hc.b) ?_
 refine Bq<|.seq ?_
 refine Bq ?_
 refine Cl ?_ ?_<;>intro h23<;>simp[go_sem,hcr] at h23
 refine Bp ?_
 obtain⟨Y1,cY1,qY1⟩:=Aa0 ⟨c.cfg,c.ref,IntKind.i64.wrap ((if 1073741823<c.now then 1073741823 else c.now)+1),c.desks,c.sigs,c.svcs,c.stuck,c.views⟩ l (hc.at _) hl hi
 have hAv:=cY1
 have hAq:=qY1
 generalize Y1=A at hAv hAq
 have hA1:A.2.2.2.length=c.desks.length:=hAq.1
 refine Cv 7 rfl ?_
 simp[go_sem,-Prod.exists]
 refine Da Dy [4,5,6,7] hAv<|.seq ?_
 refine Bq<|.block ?_
 refine Bs A.2.2.1.length (fun i1 (y1:(List Dx)×(List Hz)×(List F3)×(List Int))=>⟨[(2,.ptr 0 0),(3,.ptr 1 0),(4,.ptr 2 0),(5,.ptr 3 0),(6,.ptr 8 0),(7,.ptr 9 0),(34,.mI A.2.2.1),(35,.li A.2.2.1.length),(36,.li i1)],[.box 37 [.mJun c.cfg.juns,.mAg c.cfg.ags,.li c.cfg.per,.li c.cfg.cap,.li c.cfg.hold,.li c.cfg.lock,.lb c.ref,.li (IntKind.i64.wrap ((if 1073741823<c.now then 1073741823 else c.now)+1)),.own 4 y1.1.length,.own 5 y1.2.1.length,.own 6 y1.2.2.1.length,.own 7 y1.2.2.2.length,.mView c.views],.box 147 [.mInp l],.box 37 [.nil 3,.nil 8,.li 0,.li 0,.li 0,.li 0,.lb false,.li 0,.nil 17,.nil 5,.nil 3,.nil 1,.nil 4],.box 154 [.nil 1,.nil 4],.row 70 17 false false (I6 y1.1),.row 135 5 false false (O6 y1.2.1),.row 138 3 false false (Pu y1.2.2.1),.row 3 1 false false (tI y1.2.2.2),.box 197 [.imm false 1 (Wa A.1)],.box 198 [.mEnt A.2.1]]⟩) (fun i1 y1=>Ay9 c A.2.2.2 y1) (A.2.2.2,c.sigs,c.svcs,c.stuck) (wk hA1 [0,1,2,3,4,5,6,7,8,9]) (⟨rfl,hc.sigs,hc.sig,rfl,rfl⟩) fun i1 y1 hi1 hy1=>?_
 refine Bq<|.seq ?_
 refine Br ?_ ?_<;>intro h37
 ·refine Bp<|.seq<|.block ?_
  obtain⟨e1,H1⟩:=gx A.2.2.1 i1
  refine Bu H1 ?_
  have hsl:=hy1.sl
  refine Bu (Fa H1 hsl) ?_
  refine Br ?_ ?_<;>intro h53
  ·have h53a:0<=e1/\e1<(c.cfg.juns.length:Int):=by simpa using h53
   obtain⟨jk,hjk⟩:∃e,c.cfg.juns[e1.toNat]? = some e:=⟨_,Aa (by omega)⟩
   obtain⟨sk,hsk⟩:∃e,y1.2.1[e1.toNat]? = some e:=⟨_,Aa (by omega)⟩
   have hjb:=hc.jun jk (Ac hjk)
   have hsb:=hy1.sig sk (Ac hsk)
   obtain⟨Y2,cY2,qY2⟩:=Em (Aa1 jk sk hjb.1 hjb.2 hsb.1 hsb.2)
   have hGv:=cY2
   have hGq:=qY2
   generalize Y2=G at hGv hGq
   refine Cp (Jb H1 hjk hsk) (hGv) ?_
   refine B0 H1 ?_
   refine⟨by omega,(y1.1,(y1.2.1).set e1.toNat G.1,y1.2.2.1,y1.2.2.2),?_,wk (Jb (Dw ((i1:Int)+1)) H1 hsl) [0,1,2,3,4,5,6,7,8,9]⟩
   first | exact hy1 | exact⟨hy1.f0,by simpa using hsl,Ze hy1.sig hGq,hy1.f2,hy1.f3⟩
  refine Bp<|.H1 H1 ?_
  refine⟨by omega,(y1.1,y1.2.1,y1.2.2.1,y1.2.2.2),?_,wk (Jb (Dw ((i1:Int)+1)) H1 hsl) [0,1,2,3,4,5,6,7,8,9]⟩
  exact hy1
 refine Bt ?_
 have hAl:=fun (k:Nat) (a:H0) (ha:c.cfg.ags[k]? = some a)=>hAq.2.2.2.2.2.2.len hc.dl hc.desks ha
 have hS0:=hy1.city hc hAq.1 hAq.2.1 (fun k d a hd ha=>(hAl k a ha).1 d hd) (IntKind.i64.wrap ((if 1073741823<c.now then 1073741823 else c.now)+1))
 obtain⟨Y3,cY3,qY3⟩:=Ac2 ⟨c.cfg,c.ref,IntKind.i64.wrap ((if 1073741823<c.now then 1073741823 else c.now)+1),y1.1,y1.2.1,y1.2.2.1,y1.2.2.2,c.views⟩ hS0
 have hSv:=cY3
 have hSq:=qY3
 generalize Y3=S at hSv hSq
 have hS:=hSq.1
 have hSc:S.cfg=c.cfg:=hSq.2.1
 have hSd:=hS.desks
 have hSa:=hS.na
 have hna:S.cfg.ags.length<=1000000:=by omega
 refine B2 Dy 4 ?_
 refine Da Dy [0,5,6,7] hSv ?_
 refine B2 Dy 5 ?_
 refine B2 Dy 6 ?_
 refine B2 Dy 7 ?_
 refine B2 Dy 10 ?_
 refine Bq<|.seq ?_
 refine Bq<|.block ?_
 refine Ck 11 0 80 1 (by decide) rfl rfl ?_
 simp[go_sem,-Prod.exists]
 refine Bs S.cfg.ags.length (fun i2 (y2:(List (List D0)))=>⟨[(2,.ptr 0 0),(3,.ptr 1 0),(4,.ptr 2 0),(5,.ptr 3 0),(6,.ptr 4 0),(7,.ptr 5 0),(11,.ptr 6 0),(78,.li S.cfg.ags.length),(79,.li i2)],[.box 37 (S.a false),.box 147 [.mInp l],.box 37 [.nil 3,.nil 8,.li 0,.li 0,.li 0,.li 0,.lb false,.li 0,.nil 17,.nil 5,.nil 3,.nil 1,.nil 4],.box 154 [.nil 1,.nil 4],.box 197 [.imm false 1 (Wa A.1)],.box 198 [.mEnt A.2.1],.box 154 [.own 7 y2.length,.nil 4],.row 80 1 false false (Rw y2)]⟩) (fun i2 y2=>(y2.length:Int)=En S.cfg.ags i2/\(∀q∈y2,q.length<=910/\∀m∈q,Hy m)/\Akz S l A.1 A.2.1 i2 0 y2) ([]) (wk Dy [0,1,2,3,8,9,11,12]) (⟨rfl,(fun q hq=>by cases hq),fun k n a r hk=>absurd hk (by omega)⟩) fun i2 y2 hi2 hy2=>?_
 refine Bq<|.seq ?_
 refine Br ?_ ?_<;>intro h80
 ·refine Bp<|.seq<|.block<|.R ?_
  obtain⟨ag,hag⟩:∃e,S.cfg.ags[i2]? = some e:=⟨_,Aa (by omega)⟩
  have hid:(i2:Int)<(S.desks.length:Int):=by omega
  have hab:=Mf hag
  have hal:=Xe S.cfg.ags i2 ag
  have hcn:=Gw ag
  have hsb:=Kb S.cfg.ags i2
  refine B8 Dy (S4 S.cfg i2)<|.block ?_
  refine Cz (s':=⟨[(2,.ptr 0 0),(3,.ptr 1 0),(4,.ptr 2 0),(5,.ptr 3 0),(6,.ptr 4 0),(7,.ptr 5 0),(11,.ptr 6 0),(12,.ptr 8 0),(78,.li S.cfg.ags.length),(79,.li i2),(85,.fn 129 [.iptr false (cfT S.cfg) 0,.iptr false [.li (i2:Int)] 0])],(fun (y3:(List (List D0)))=>[.box 37 (S.a false),.box 147 [.mInp l],.box 37 [.nil 3,.nil 8,.li 0,.li 0,.li 0,.li 0,.lb false,.li 0,.nil 17,.nil 5,.nil 3,.nil 1,.nil 4],.box 154 [.nil 1,.nil 4],.box 197 [.imm false 1 (Wa A.1)],.box 198 [.mEnt A.2.1],.box 154 [.own 7 y3.length,.nil 4],.row 80 1 false false (Rw y3),.box 3 [.li i2]]) (y2)⟩) (wQ [0,1,2,3,4,5,6,7,8] ?_ ?_) ?_
  ·simp[go_sem]
  ·simp[go_sem]
  refine Dh (X0 S.cfg i2 ag hag hna) (fun (y3:(List (List D0)))=>[.box 37 (S.a false),.box 147 [.mInp l],.box 37 [.nil 3,.nil 8,.li 0,.li 0,.li 0,.li 0,.lb false,.li 0,.nil 17,.nil 5,.nil 3,.nil 1,.nil 4],.box 154 [.nil 1,.nil 4],.box 197 [.imm false 1 (Wa A.1)],.box 198 [.mEnt A.2.1],.box 154 [.own 7 y3.length,.nil 4],.row 80 1 false false (Rw y3),.box 3 [.li i2]]) 9 (fun _=>rfl) (by rfl) (fun _=>Qf rfl) (by decide) ?_ (fun j3 y3=>(y3.length:Int)=En S.cfg.ags i2+(j3:Int)/\(∀q∈y3,q.length<=910/\∀m∈q,Hy m)/\Akz S l A.1 A.2.1 i2 j3 y3) (y2) (⟨by simpa using hy2.1,hy2.2.1,hy2.2.2⟩) (fun j3 vs y3 hj3 hy3=>?_) (fun y3 hy3=>?_)
  ·intro vs hvs
   obtain⟨a,_,rfl⟩:=A4.1 hvs
   simp[go_sem]
  ·
   obtain⟨a3,ha3,rfl⟩:=Ee hj3
   have hse:=Aie (Ac ha3)
   have hj3l:=(Ab.1 ha3).1
   have hatx:=Amb ha3
   have hat:=hatx.1
   have hix:a3.2.2.toNat=(En S.cfg.ags i2).toNat+j3:=by have:=hsb.1;omega
   have hy31:=hy3.1
   have hal3:a3.2.2.toNat=y3.length:=by omega
   refine Ci ?_
   refine⟨rfl,?_⟩
   refine Db<|.R<|.seq ?_
   by_cases hc20:a3.2.2<l.length
   ·obtain⟨e2,H2⟩:=gx l a3.2.2.toNat
    refine Bu (Jb hc20 H2 hid) ?_
    refine Br ?_ ?_<;>intro h106
    ·have hrl:A.1.length=c.desks.length:=hAq.2.2.1
     have hcf:S.cfg.ags.length=c.cfg.ags.length:=by rw[hSc]
     obtain⟨rk,hrk0⟩:∃e,A.1[i2]? = some e:=⟨_,Aa (by omega)⟩
     have hrq:=hAq.2.2.2.1 rk (Ac hrk0)
     have hen:=hAq.2.2.2.2.1
     have hrk:∀q∈rk,q.length<=900/\∀m∈q,Hy m:=fun q hq=>⟨by have:=(hrq.2 q hq).1;omega,(hrq.2 q hq).2⟩
     have hr1:=hrq.1
     rw[hSc] at hag
     have hrl2:=(hAl i2 ag hag).2 rk hrk0
     have hn2:∀d,S.desks[(Kx.ag ⟨a3.1,a3.2.1,a3.2.2⟩).toNat]? = some d->a3.2.1<d.aud.length:=fun d hd=>by rw[hSq.2.2.2] at hd;rw[hy1.f0] at hd;rw[show (Kx.ag ⟨a3.1,a3.2.1,a3.2.2⟩).toNat=i2 by have:=hatx.2.2.1;dsimp only;omega] at hd;have h5:=(hAl i2 ag hag).1 d hd;omega
     obtain⟨Y4,cY4,qY4⟩:=Em (Ai4 S ⟨a3.1,a3.2.1,a3.2.2⟩ rk A.2.1 hS (by have:=hse.1;dsimp only;omega) (by have:=hse.1;dsimp only;omega) hse.2.1 hrk (by omega) (by omega) (by dsimp only;omega) hn2)
     have hTv:=cY4
     have hTq:=qY4
     generalize Y4=T at hTv hTq
     have hTe:=hTq.2.2
     rw[hat,hatx.2.1,hatx.2.2.1] at hTe
     refine Cp (Jb hc20 H2 hrk0) (hTv) ?_
     refine B0 (Fa hc20 H2) ?_
     refine⟨(y3++([T])),?_,⟨[0,1,2,3,4,5,6,7,8],El (by decide) ?_ ?_,Fv rfl⟩⟩
     ·exact⟨by simp;have:=hy3.1;omega,Lc hy3.2.1 ⟨hTq.1,hTq.2.1⟩,hy3.2.2.app hy31 fun r hr=>by rw[hrk0] at hr;injection hr with hr;subst hr;exact .inl ⟨_,by rw[<- hix];exact H2,h106,hTe⟩⟩
     ·simp[go_sem]
     simp[go_sem,hc20,H2]
    refine Bp<|.H1 (Fa hc20 H2) ?_
    refine⟨(y3++([[]])),?_,⟨[0,1,2,3,4,5,6,7,8],El (by decide) ?_ ?_,Fv rfl⟩⟩
    ·first | exact⟨by simp;have:=hy3.1;omega,Lc hy3.2.1 ⟨hTq.1,hTq.2.1⟩,hy3.2.2.app hy31 fun r hr=>by rw[hrk0] at hr;injection hr with hr;subst hr;exact .inl ⟨_,by rw[<- hix];exact H2,h106,hTe⟩⟩ | exact⟨by simp;have:=hy3.1;omega,Lc hy3.2.1 ⟨Ae _,fun m hm=>by cases hm⟩,hy3.2.2.app hy31 fun r hr=>.inr ⟨fun p hp=>by rw[<- hix,H2] at hp;injection hp with hp;rw[<- hp];simpa using h106,rfl⟩⟩
    ·simp[go_sem]
    simp[go_sem,hc20,H2]
   refine Bu (Fa hc20 hid) ?_
   refine Cl ?_ ?_<;>intro h106<;>simp[go_sem] at h106
   refine Bp<|.H1 hc20 ?_
   refine⟨(y3++([[]])),?_,⟨[0,1,2,3,4,5,6,7,8],El (by decide) ?_ ?_,Fv rfl⟩⟩
   ·first | exact⟨by simp;have:=hy3.1;omega,Lc hy3.2.1 ⟨hTq.1,hTq.2.1⟩,hy3.2.2.app hy31 fun r hr=>by rw[hrk0] at hr;injection hr with hr;subst hr;exact .inl ⟨_,by rw[<- hix];exact H2,h106,hTe⟩⟩ | exact⟨by simp;have:=hy3.1;omega,Lc hy3.2.1 ⟨Ae _,fun m hm=>by cases hm⟩,hy3.2.2.app hy31 fun r hr=>.inr ⟨fun p hp=>by rw[<- hix,H2] at hp;injection hp with hp;rw[<- hp];simpa using h106,rfl⟩⟩ | exact⟨by simp;have:=hy3.1;omega,Lc hy3.2.1 ⟨Ae _,fun m hm=>by cases hm⟩,hy3.2.2.app hy31 fun r hr=>.inr ⟨fun p hp=>absurd (Ab.1 hp).1 (by omega),rfl⟩⟩
   ·simp[go_sem]
   simp[go_sem,hc20]
  -- done
  refine Ci ?_
  exact⟨by omega,(y3),⟨by have h3:=hy3.1;simp only[A2] at h3;rw[hab];omega,hy3.2.1,hy3.2.2.up hag (by simp only[A2];omega)⟩,wk (Dw ((i2:Int)+1)) [0,1,2,3,4,5,6,7]⟩
 refine Bt ?_
 have hv4:S.views.length<=4:=by have:=hS.views;have:=hS.nj;omega
 obtain⟨Y5,cY5,qY5⟩:=Em (Agt S.now S.views hv4 hS.view)
 have hFv:=cY5
 have hFq:=qY5
 have hFb:=Q7 S.views hv4 hS.view
 have hFs:Hy Y5:=Aea (by rw[hFq.2.2.1];simp) (by rw[hFq.2.1];simp) (by rw[hFq.2.2.2];omega)
 generalize Y5=F at hFv hFq hFs
 obtain⟨R,hR,_⟩:=Sb [F] (by simp) (fun m hm=>by rw[An.1 hm];exact hFs)
 generalize hV:List.filter (fun t=>!Ra t) [F]=V at hR
 refine B3 (fun K kk=>by simp[go_sem];refine .l (hFv) ?_;simp[go_sem];refine .o [8] (hR) ?_;simp[go_sem];exact kk) ?_
 refine VX.D ?_
 refine B2 Dy 7 ?_
 exact .ret (Ep Dy (S,⟨y2,V⟩) ⟨hS,hSc,by have h2:=hy2.1;have he:i2=S.cfg.ags.length:=(by omega);rw[he] at h2;rw[<- hSc];exact h2,hy2.2.1,by rw[<- hV];exact Ak (Az _ _) (by simp),fun m hm=>by rw[<- hV] at hm;rw[An.1 (Bn.1 hm).1];exact hFs,hSq.2.2.1,A.1,A.2.1,by dsimp only;rw[hSq.2.2.1,hSq.2.2.2];have h:=hAq.2.2.2.2.2.2;rw[hy1.f0];exact h,hAq.2.2.1,by have h:=hy2.2.2;rwa[show i2=S.cfg.ags.length by omega] at h⟩)
end
theorem Ak9 (s:Tn) (b:List Int) (h1:s.buf.length<=256) (h2:b.length<=1000000):Ct 62 [s.g,.mY b] (fun d:Tn×Bool=>.tup [d.1.g,.lb d.2]) (fun d=>d.1.buf.length<=256/\(By s.buf->By b->By d.1.buf)):=by
 refine Er Tryz.func62 ?_
 have ht:List.take b.length (tY b)=tY b:=by rw[Bf (by simp)]
 have hnn:¬(256 - (s.buf.length:Int)<0):=by omega
 refine Bu (Fa hnn ht) ?_
 by_cases hc1:256 - (s.buf.length:Int)<b.length
 ·have hw1:=Dw (256 - s.buf.length:Int)
  refine Bu (P6 hnn ht hc1 hw1) ?_
  have hw2:=Dw (s.buf.length+(256 - s.buf.length):Int)
  refine Bu (Zd hnn ht hc1 hw1 hw2) ?_
  refine Bu (Zd hnn ht hc1 hw1 hw2) ?_
  refine Bu (Zd hnn ht hc1 hw1 hw2) ?_
  refine Bu (Zd hnn ht hc1 hw1 hw2) ?_
  refine B2 Dy 2 ?_
  exact .ret (Ep (Zd hnn ht hc1 hw1 hw2) (⟨((List.replicate 0 0)++s.buf)++(b.take (256 - s.buf.length)),s.gar⟩,(((256 - s.buf.length):Int) == b.length)) ⟨by simp;omega,fun hs hb x hx=>by simp only[A0,List.replicate_zero,A8,false_or] at hx;rcases hx with h | h;exact hs x h;exact hb x (Aq h)⟩)
 have hw3:=Dw (256 - s.buf.length:Int)
 refine Bu (P6 hnn ht hc1 hw3) ?_
 have hw4:=Dw (s.buf.length+b.length:Int)
 refine Bu (Zd hnn ht hc1 hw3 hw4) ?_
 refine Bu (Zd hnn ht hc1 hw3 hw4) ?_
 refine Bu (Zd hnn ht hc1 hw3 hw4) ?_
 refine Bu (Zd hnn ht hc1 hw3 hw4) ?_
 refine B2 Dy 2 ?_
 exact .ret (Ep (Zd hnn ht hc1 hw3 hw4) (⟨((List.replicate 0 0)++s.buf)++(b.take b.length),s.gar⟩,((b.length:Int) == b.length)) ⟨by simp;omega,fun hs hb x hx=>by simp only[A0,List.replicate_zero,A8,false_or] at hx;rcases hx with h | h;exact hs x h;exact hb x (Aq h)⟩)
theorem Vv (s:Fj):Ct 40 [s.g] (fun d:Fj=>d.g) (fun d=>d.st.buf.length<=256/\By d.st.buf):=by
 refine Er Tryz.func40 ?_
 iterate 2 refine Bq ?_
 exact .ret (Ep Dy ⟨false,false,⟨[],false⟩⟩ ⟨Ae _,fun x hx=>by cases hx⟩)
def Mm (s:Fj):Fj:=(Em (Vv s)).choose
theorem Alw (s:Fj):PP 40 [] [s.g] [] (.agg ((Mm s).a false)):=(Em (Vv s)).choose_spec.1
theorem Amp (s:Fj):(Mm s).st.buf.length<=256/\By (Mm s).st.buf:=(Em (Vv s)).choose_spec.2
section
variable (s:Fj) (h1:s.st.buf.length<=256)
include h1
theorem Vu:Ct 39 [s.g] (fun d:Fj=>d.g) (fun d=>d.st.buf.length<=256/\(By s.st.buf->By d.st.buf)/\d.op=true/\(s.op=false->d=⟨true,false,⟨[],false⟩⟩)):=by
 refine Er Tryz.func39 ?_
 have h1M:s.st.buf.length<=1000000:=by omega
 refine Bq<|.seq ?_
 refine Bq ?_
 refine Br ?_ ?_<;>intro h4
 ·refine B8 Dy (K0 s h1M) ?_
  exact .ret (Ep Dy s (by exact⟨h1,(fun h=>h),h4,fun h=>by rw[h4] at h;cases h⟩))
 refine Bp<|.R ?_
 exact .ret (Ep Dy ⟨true,false,⟨[],false⟩⟩ (by first | exact⟨h1,(fun h=>h),h4,fun h=>by rw[h4] at h;cases h⟩ | exact⟨Ae _,(fun _ x hx=>by cases hx),rfl,fun _=>rfl⟩))
def I8:Fj:=(Em (Vu s h1)).choose
theorem Alv:PP 39 [] [s.g] [] (.agg ((I8 s h1).a false)):=(Em (Vu s h1)).choose_spec.1
theorem Aco:(I8 s h1).st.buf.length<=256/\(By s.st.buf->By (I8 s h1).st.buf)/\(I8 s h1).op=true/\(s.op=false->(I8 s h1)=⟨true,false,⟨[],false⟩⟩):=(Em (Vu s h1)).choose_spec.2
end
section
variable (s:Fj) (b:List Int) (h1:s.st.buf.length<=256) (h2:b.length<=1000000)
include h1 h2
theorem Vt:Ct 41 [s.g,.mY b] (fun d:Fj=>d.g) (fun d=>d.st.buf.length<=256/\(By s.st.buf->By b->By d.st.buf)):=by
 refine Er Tryz.func41 ?_
 obtain⟨Y1,cY1,qY1⟩:=Em (Ak9 s.st b h1 h2)
 have hq:=qY1
 have hv:=cY1
 generalize Y1=G at hq hv
 refine Bq<|.seq ?_
 refine Bq ?_
 refine Br ?_ ?_<;>intro h9
 ·refine B8 Dy (K0 s (by omega)) ?_
  exact .ret (Ep Dy s (by exact⟨h1,fun h _=>h⟩))
 refine Bp<|.L Dy (hv) ?_
 refine Bq<|.seq ?_
 refine Bq ?_
 refine Br ?_ ?_<;>intro h22
 ·refine Ci ?_
  refine Bq ?_
  exact .ret (Ep Dy ⟨s.op,true,G.1⟩ (by first | exact⟨h1,fun h _=>h⟩ | exact hq))
 refine Bp<|.R ?_
 exact .ret (Ep Dy ⟨s.op,s.dr,G.1⟩ (by first | exact⟨h1,fun h _=>h⟩ | exact hq))
def Ml:Fj:=(Em (Vt s b h1 h2)).choose
theorem Alu:PP 41 [] [s.g,.mY b] [] (.agg ((Ml s b h1 h2).a false)):=(Em (Vt s b h1 h2)).choose_spec.1
theorem Amo:(Ml s b h1 h2).st.buf.length<=256/\(By s.st.buf->By b->By (Ml s b h1 h2).st.buf):=(Em (Vt s b h1 h2)).choose_spec.2
end
def Apw (s:Fj):Prop:=s.st.buf.length<=256/\By s.st.buf
structure Ts (b:Jf):Prop where
  city:J9 b.city
  n:b.sess.length<=8
  ses:∀s∈b.sess,Apw s
theorem Ts.b {b:Jf} (h:Ts b):A1r b:=⟨h.city.b,Ak h.n (by decide),fun t ht=>Ak (h.ses t ht).1 (by decide)⟩
theorem Ald (c:Fc) (a:Int) (hl:c.ags.length<=4) (hA:∀x∈c.ags,1<=x.se/\x.se<=2) (ha:a=c.ags.length):Ct 30 [c.g,.li a] (fun d:Int=>.li d) (fun d=>0<=d/\d<=8/\d=(c.ags.map H0.se).sum):=by
 refine Er Tryz.func30 ?_
 refine Bq ?_
 refine Bq<|.seq ?_
 refine Bq<|.block ?_
 refine Bs c.ags.length (fun i1 (y1:Int)=>⟨[(1,.li a),(5,.li y1),(9,.mAg c.ags),(10,.li c.ags.length),(11,.li i1)],[]⟩) (fun i1 y1=>(i1:Int)<=y1/\y1<=2*i1/\y1=((c.ags.take i1).map H0.se).sum) (0) (wk Dy []) (⟨by simp,by simp,rfl⟩) fun i1 y1 hi1 hy1=>?_
 refine Bq<|.seq ?_
 refine Br ?_ ?_<;>intro h12
 ·refine Bp<|.seq<|.block ?_
  obtain⟨e1,H1⟩:=gx c.ags i1
  refine Bu H1<|.seq ?_
  have hA1:=hA e1 (Ac H1)
  refine Bu H1 ?_
  refine Cl ?_ ?_<;>intro h18<;>simp[go_sem] at h18
  ·exfalso;omega
  refine Bp ?_
  have hw2:=Dw (y1+e1.se:Int)
  refine B0 (Fa H1 hw2) ?_
  refine B0 (Fa H1 hw2) ?_
  exact⟨by omega,((y1+e1.se)),⟨by omega,by omega,by rw[List.take_add_one,H1];simp only[List.map_append,List.sum_append,Option.toList_some,List.map_cons,List.map_nil,List.sum_cons,List.sum_nil];omega⟩,wk (Jb (Dw ((i1:Int)+1)) H1 hw2) []⟩
 refine Bt<|.R ?_
 exact .ret (Ep Dy y1 ⟨by omega,by omega,by have h:=hy1.2.2;rwa[Bf (by omega)] at h⟩)
section
variable (c:Fc) (hb:Ab4 c) (hp:Mo c=true) (hJ:∀j∈c.juns,Nv j/\j.phs.length<=8) (hA:∀a∈c.ags,a.sec.length<=1000000/\a.lims.length<=1000000/\a.rq<=3) (hl1:c.juns.length<=4) (hl2:c.ags.length<=4) (hS:∀x∈c.ags,1<=x.se/\x.se<=2)
include hb hp hJ hA hl1 hl2 hS
theorem T3:Ct 12 [c.g] (fun d:Jf=>d.g) (fun d=>Ts d/\d.city.cfg=c/\d.city.now=0/\(d.sess.length:Int)=(c.ags.map H0.se).sum/\(∀s∈d.sess,s=⟨false,false,⟨[],false⟩⟩)/\∀(k:Nat) (a:H0),c.ags[k]? = some a->∃h1 h2,d.city.desks[k]? = some (Fw k a h1 h2)):=by
 refine Er Tryz.func12 ?_
 obtain⟨Y1,cY1,qY1⟩:=Em (Alc c hb hp hJ hA hl1 hl2 hS)
 have hNv:=cY1
 have hNq:=qY1
 generalize Y1=N at hNv hNq
 have hNr:=hNq.1.ref
 obtain⟨Y2,cY2,qY2⟩:=Em (Ald c c.ags.length hl2 hS rfl)
 have hBv:=cY2
 have hBq:=qY2
 generalize Y2=B at hBv hBq
 refine Bq ?_
 refine B8 Dy (hNv)<|.seq ?_
 refine Bq ?_
 refine Cl ?_ ?_<;>intro h10<;>simp[go_sem,hNr] at h10
 refine Dr Dy (hBv) ?_
 refine Bq ?_
 refine B2 Dy 3 ?_
 exact .ret (Ep Dy ⟨N,List.replicate B.toNat ⟨false,false,⟨[],false⟩⟩⟩ ⟨⟨hNq.1,by simp;omega,fun s hs=>by have:=List.eq_of_mem_replicate hs;subst this;exact⟨Ae _,fun x hx=>by cases hx⟩⟩,hNq.2.1,hNq.2.2.1,by simp;omega,(fun s hs=>List.eq_of_mem_replicate hs),hNq.2.2.2⟩)
def Fq:Jf:=(Em (T3 c hb hp hJ hA hl1 hl2 hS)).choose
theorem Ajt:PP 12 [] [c.g] [] (.agg ((Fq c hb hp hJ hA hl1 hl2 hS).a false)):=(Em (T3 c hb hp hJ hA hl1 hl2 hS)).choose_spec.1
theorem Um:Ts (Fq c hb hp hJ hA hl1 hl2 hS)/\(Fq c hb hp hJ hA hl1 hl2 hS).city.cfg=c/\(Fq c hb hp hJ hA hl1 hl2 hS).city.now=0/\((Fq c hb hp hJ hA hl1 hl2 hS).sess.length:Int)=(c.ags.map H0.se).sum/\(∀s∈(Fq c hb hp hJ hA hl1 hl2 hS).sess,s=⟨false,false,⟨[],false⟩⟩)/\∀(k:Nat) (a:H0),c.ags[k]? = some a->∃h1 h2,(Fq c hb hp hJ hA hl1 hl2 hS).city.desks[k]? = some (Fw k a h1 h2):=(Em (T3 c hb hp hJ hA hl1 hl2 hS)).choose_spec.2
end
def Av0 (b x:List Fj) (l:List Gv) (i:Nat):Prop:=∀(k:Nat) (s:Fj),k<i->b[k]? = some s->∃y p,x[k]? = some y/\l[k]? = some p/\Aza s (y,p)
theorem Av0.next {b x:List Fj} {l:List Gv} {i:Nat} {s:Fj} {K:Fj×Gv} (h:Av0 b x l i) (hs:b[i]? = some s) (hK:Aza s K) (hx:i<x.length) (hl:i<l.length):Av0 b (x.set i K.1) (l.set i K.2) (i+1):=fun k s' hk hs'=>by
 by_cases e:k=i
 ·subst e
  rw[hs] at hs'
  injection hs' with hs'
  subst hs'
  exact⟨K.1,K.2,Bg hx,Bg hl,hK⟩
 rw[A9 (Ne.symm e),A9 (Ne.symm e)]
 exact h k s' (by omega) hs'
theorem Aw6 {l:List (List Int)} {s:List (List D0)} {i:Nat} {F:List Int} {e:List D0} (h:∀(k:Nat) (q:List D0) (o:List Int),k<i->s[k]? = some q->l[k]? = some o->o=(q.map Nt).flatten) (he:s[i]? = some e) (hF:F=(e.map Nt).flatten) (hi:i<l.length):∀(k:Nat) (q:List D0) (o:List Int),k<i+1->s[k]? = some q->(l.set i F)[k]? = some o->o=(q.map Nt).flatten:=fun k q o hk hs hp=>by
 by_cases e':k=i
 ·subst e'
  rw[Bg hi] at hp
  rw[he] at hs
  injection hp with hp
  injection hs with hs
  rw[<- hp,<- hs]
  exact hF
 rw[A9 (fun e2=>e' e2.symm)] at hp
 exact h k q o (by omega) hs hp
def A1d (b:Jf) (d:Jf×P1):Prop:=∃l s,l.length=b.sess.length/\Av0 b.sess d.1.sess l b.sess.length/\A1e b.city l (d.1.city,s)/\s.ses.length=d.2.ses.length/\∀(k:Nat) (q:List D0) (o:List Int),s.ses[k]? = some q->d.2.ses[k]? = some o->o=(q.map Nt).flatten
theorem Ac4 (b:Jf) (hb:Ts b):Cx 44 [.row 100 4 false false (Zw b.sess)] [.agg [.mJun b.city.cfg.juns,.mAg b.city.cfg.ags,.li b.city.cfg.per,.li b.city.cfg.cap,.li b.city.cfg.hold,.li b.city.cfg.lock,.lb b.city.ref,.li b.city.now,.mDesk b.city.desks,.mSig b.city.sigs,.mSvc b.city.svcs,.mI b.city.stuck,.mView b.city.views,.own 0 b.sess.length]] (fun d:Jf×P1=>[.row 100 4 false true (Zw d.1.sess)]) (fun d=>.tup [d.1.g,d.2.g]) (fun d=>Ts d.1/\d.1.city.cfg=b.city.cfg/\d.1.sess.length=b.sess.length/\(d.2.ses.length:Int)=En b.city.cfg.ags b.city.cfg.ags.length/\d.1.city.now=IntKind.i64.wrap ((if 1073741823<b.city.now then 1073741823 else b.city.now)+1)/\A1d b d):=by
 refine Tj Tryz.func44 ?_
 have hbn:=hb.n
 refine Bq ?_
 refine Bu Dy<|.seq ?_
 refine Bq<|.block ?_
 refine Bs b.sess.length (fun i1 (y1:(List Fj)×(List Gv))=>⟨[(1,.ptr 1 0),(2,.ptr 2 0),(3,.ptr 3 0),(4,.own 4 y1.2.length),(17,.li b.sess.length),(18,.li i1)],[.row 100 4 false false (Zw y1.1),.box 40 [.mJun b.city.cfg.juns,.mAg b.city.cfg.ags,.li b.city.cfg.per,.li b.city.cfg.cap,.li b.city.cfg.hold,.li b.city.cfg.lock,.lb b.city.ref,.li b.city.now,.mDesk b.city.desks,.mSig b.city.sigs,.mSvc b.city.svcs,.mI b.city.stuck,.mView b.city.views,.own 0 y1.1.length],.box 40 [.nil 3,.nil 8,.li 0,.li 0,.li 0,.li 0,.lb false,.li 0,.nil 17,.nil 5,.nil 3,.nil 1,.nil 4,.nil 4],.box 49 [.nil 1,.nil 1],.row 149 2 false false (Awp y1.2)]⟩) (fun i1 y1=>y1.1.length=b.sess.length/\(∀s∈y1.1,Apw s)/\y1.2.length=b.sess.length/\(∀p∈y1.2,Ax1 p)/\(∀k,i1<=k->y1.1[k]? = b.sess[k]?)/\Av0 b.sess y1.1 y1.2 i1) (b.sess,List.replicate b.sess.length ⟨false,[]⟩) (wk Dy [0,1,2,3,4]) (⟨rfl,hb.ses,by simp,fun p hp=>by have:=List.eq_of_mem_replicate hp;subst this;exact⟨Ae _,fun t ht=>by cases ht⟩,(fun _ _=>rfl),fun k s hk=>absurd hk (Nat.not_lt_zero _)⟩) fun i1 y1 hi1 hy1=>?_
 refine Bq<|.seq ?_
 refine Br ?_ ?_<;>intro h19
 ·refine Bp<|.seq<|.block<|.R ?_
  have hl1:=hy1.1
  have hl2:=hy1.2.2.1
  obtain⟨sk,hsk⟩:∃e,y1.1[i1]? = some e:=⟨_,Aa (by omega)⟩
  have hsq:=hy1.2.1 sk (Ac hsk)
  obtain⟨Y1,cY1,qY1⟩:=Em (Ai8 sk hsq.1 hsq.2)
  have hKv:=cY1
  have hKq:=qY1
  generalize Y1=K at hKv hKq
  obtain⟨e1,H1⟩:=gx y1.2 i1
  refine Cp (Fa H1 hsk) (hKv) ?_
  refine B0 H1 ?_
  exact⟨by omega,((y1.1).set i1 K.1,(y1.2).set i1 K.2),⟨by simpa using hl1,Ze hy1.2.1 ⟨hKq.2.1,hKq.1⟩,by simpa using hl2,Ze hy1.2.2.2.1 ⟨hKq.2.2.1.1,fun t ht=>Ak (hKq.2.2.2.1 t ht) (by decide)⟩,(fun k hk=>by rw[A9 (by omega)];exact hy1.2.2.2.2.1 k (by omega)),hy1.2.2.2.2.2.next ((hy1.2.2.2.2.1 i1 (Aj _)).symm.trans hsk) hKq.2.2.2.2 (by omega) (by omega)⟩,wk (Fa (Dw ((i1:Int)+1)) H1) [0,1,2,3,4]⟩
 refine Bt ?_
 have hi2:y1.2.length<=1000:=by have:=hy1.2.2.1;omega
 obtain⟨Y2,cY2,qY2⟩:=Em (Ai5 b.city y1.2 hb.city hi2 hy1.2.2.2.1)
 have hTv:=cY2
 have hTq:=qY2
 generalize Y2=D at hTv hTq
 refine B2 Dy 4 ?_
 refine B8 Dy (hTv) ?_
 refine Bq ?_
 have hnb:=Kb b.city.cfg.ags b.city.cfg.ags.length
 have hna:=hb.city.na
 have hsl:D.2.ses.length<=8:=by have:=hTq.2.2.1;omega
 have hfl:D.2.feed.length<=1000:=by have:=hTq.2.2.2.2.1;omega
 have hfm:∀m∈D.2.feed,m.tok.length<=10000/\m.args.length<=10000/\m.data.length<=10000:=fun m hm=>(hTq.2.2.2.2.2.1 m hm).v
 obtain⟨Y3,cY3,qY3⟩:=Em (Uz D.2.feed hfl hfm)
 refine Dd Dy cY3<|.seq ?_
 refine Bq<|.block ?_
 refine Bs D.2.ses.length (fun i2 (y2:(List Fj)×(List (List Int)))=>⟨[(1,.ptr 1 0),(2,.ptr 2 0),(3,.ptr 3 0),(8,.ptr 5 0),(56,.imm false 1 (Rw D.2.ses)),(57,.li D.2.ses.length),(58,.li i2)],[.row 100 4 false false (Zw y2.1),.box 40 [.mJun D.1.cfg.juns,.mAg D.1.cfg.ags,.li D.1.cfg.per,.li D.1.cfg.cap,.li D.1.cfg.hold,.li D.1.cfg.lock,.lb D.1.ref,.li D.1.now,.mDesk D.1.desks,.mSig D.1.sigs,.mSvc D.1.svcs,.mI D.1.stuck,.mView D.1.views,.own 0 y2.1.length],.box 40 [.nil 3,.nil 8,.li 0,.li 0,.li 0,.li 0,.lb false,.li 0,.nil 17,.nil 5,.nil 3,.nil 1,.nil 4,.nil 4],.box 49 [.nil 1,.nil 1],.row 44 1 false false (tYs y2.2),.box 49 [.own 4 y2.2.length,.mY Y3]]⟩) (fun i2 y2=>y2.1=y1.1/\y2.2.length=D.2.ses.length/\∀(k:Nat) (q:List D0) (o:List Int),k<i2->D.2.ses[k]? = some q->y2.2[k]? = some o->o=(q.map Nt).flatten) (y1.1,List.replicate D.2.ses.length []) (wk Dy [0,1,2,3,7,8]) (⟨rfl,by simp,fun k q o hk=>absurd hk (Nat.not_lt_zero _)⟩) fun i2 y2 hi2 hy2=>?_
 refine Bq<|.seq ?_
 refine Br ?_ ?_<;>intro h59
 ·refine Bp<|.seq<|.block ?_
  obtain⟨e2,H2⟩:=gx D.2.ses i2
  refine Bu H2 ?_
  have hl4:=hy2.2.1
  have hfe:=hTq.2.2.2.1 _ (Ac H2)
  have hfe1:e2.length<=1000:=by omega
  have hfe2:∀m∈e2,m.tok.length<=10000/\m.args.length<=10000/\m.data.length<=10000:=fun m hm=>(hfe.2 m hm).v
  obtain⟨e3,H3⟩:=gx y2.2 i2
  obtain⟨Y4,cY4,qY4⟩:=Em (Uz e2 hfe1 hfe2)
  refine Cp (Fa H2 H3) cY4 ?_
  refine B0 (Fa H2 H3) ?_
  exact⟨by omega,(y2.1,(y2.2).set i2 Y4),⟨hy2.1,by simpa using hl4,Aw6 hy2.2.2 H2 qY4 (by omega)⟩,wk (Jb (Dw ((i2:Int)+1)) H2 H3) [0,1,2,3,4,5]⟩
 refine Bt<|.D ?_
 refine B2 Dy 0 ?_
 refine B2 Dy 4 ?_
 exact .ret ⟨(⟨D.1,y2.1⟩,⟨y2.2,Y3⟩),rW Dy [0],⟨⟨hTq.1,by dsimp only;rw[hy2.1];have:=hy1.1;omega,by dsimp only;rw[hy2.1];exact hy1.2.1⟩,hTq.2.1,by dsimp only;rw[hy2.1];exact hy1.1,by rw[<- hTq.2.2.1];dsimp only;rw[hy2.2.1],hTq.2.2.2.2.2.2.1,y1.2,D.2,hy1.2.2.1,by dsimp only;rw[hy2.1];have h:=hy1.2.2.2.2.2;rwa[show i1=b.sess.length by omega] at h,hTq.2.2.2.2.2.2.2,hy2.2.1.symm,fun k q o hq ho=>hy2.2.2 k q o (by have:=(Ab.1 hq).1;omega) hq ho⟩⟩
section
def Cd (l:List Dx):List AV:=Pb false (I6 l)
theorem Aeg (d:Dx) (l:List Dx):Cd (d::l)=d.a false++Cd l:=rfl
theorem Dx.al (d:Dx):(d.a false).length=17:=rfl
theorem Rg:∀(l:List Dx),(Cd l).length=l.length*17
 | []=>rfl
 | d::l=>by rw[Aeg,Bo,Rg l,Dx.al,A6];omega
theorem Uv:∀{l:List Dx} {i:Nat} {d:Dx},l[i]? = some d->∀j,j<17->(Cd l)[i*17+j]? = (d.a false)[j]?
 | [],i,d,h,_,_=>by simp at h
 | e::l,0,d,h,j,hj=>by
  simp at h;subst h
  rw[Aeg,Nat.zero_mul,Bm,Au (by rw[Dx.al];exact hj)]
 | e::l,i+1,d,h,j,hj=>by
  have h:l[i]? = some d:=by simpa using h
  rw[Aeg,Ao (by rw[Dx.al];omega),Dx.al,show (i+1)*17+j - 17=i*17+j by omega]
  exact Uv h j hj
variable {l:List Dx} {d:Dx}
theorem Ak5 {i:Nat} (h:l[i]? = some d):((Cd l).drop (i*17)).take 17=d.a false:=by
 apply List.ext_getElem?
 intro j
 rw[List.getElem?_take,Bd]
 by_cases hj:j<17
 ·rw[if_pos hj,Uv h j hj]
 rw[if_neg hj,Ar (by rw[Dx.al];omega)]
variable {i a:Nat}
theorem Any (h:l[i]? = some d) (hia:i≠a) (v:AV):(((Cd l).set (a*17+15) v).drop (i*17)).take 17=d.a false:=by
 rw[<- Ak5 h]
 apply List.ext_getElem?
 intro j
 rw[List.getElem?_take,Bd,List.getElem?_take,Bd]
 by_cases hj:j<17
 ·rw[if_pos hj,if_pos hj,A9 (by omega)]
 rw[if_neg hj,if_neg hj]
theorem Aib {α:Type} {cs:List α} {off:Nat} {vs:List α} (h:∀j,j<vs.length->cs[off+j]? = vs[j]?):Kf cs off vs=cs:=by
 apply List.ext_getElem?
 intro p
 rw[Jk]
 split
 ·next hp=>rw[show p=off+(p - off) by omega,h (p - off) (by omega)];congr 1;omega
 rfl
theorem Ax3 {i:Nat} (h:l[i]? = some d):Kf (Cd l) (i*17) (d.a false)=Cd l:=Aib fun j hj=>Uv h j (by rw[Dx.al] at hj;exact hj)
theorem Anz (h:l[i]? = some d) (hia:i≠a) (v:AV):Kf ((Cd l).set (a*17+15) v) (i*17) (d.a false)=(Cd l).set (a*17+15) v:=Aib fun j hj=>by
 rw[Dx.al] at hj
 rw[A9 (by omega),Uv h j hj]
theorem Agm {a:Nat} (h:l[a]? = some d) (v:AV):Kf (Cd l) (a*17) ((d.a false).set 15 v)=(Cd l).set (a*17+15) v:=by
 have ha:a<l.length:=(Ab.1 h).1
 apply List.ext_getElem?
 intro p
 rw[Jk,List.length_set,Dx.al,Rg]
 by_cases hp:a*17<=p/\p<a*17+17/\p<l.length*17
 ·rw[if_pos hp]
  obtain⟨j,rfl⟩:∃j,p=a*17+j:=⟨p - a*17,by omega⟩
  rw[show a*17+j - a*17=j by omega]
  by_cases hj:j=15
  ·subst hj
   rw[Bg (by rw[Dx.al];omega),Bg (by rw[Rg];omega)]
  rw[A9 (by omega),A9 (by omega),Uv h j (by omega)]
 rw[if_neg hp,A9 (by omega)]
theorem Azh {a:Nat} (h:l[a]? = some d) (X:List (List Int)):Cd (l.set a { d with draws:=X })=(Cd l).set (a*17+15) (.imm false 1 (tYs X)):=by
 have ha:a<l.length:=(Ab.1 h).1
 rw[<- Agm h]
 have h1:(l.set a { d with draws:=X })[a]? = some { d with draws:=X }:=Bg ha
 apply List.ext_getElem?
 intro p
 rw[Jk,List.length_set,Dx.al,Rg]
 by_cases hp:a*17<=p/\p<a*17+17/\p<l.length*17
 ·rw[if_pos hp]
  obtain⟨j,rfl⟩:∃j,p=a*17+j:=⟨p - a*17,by omega⟩
  rw[Uv h1 j (by omega),show a*17+j - a*17=j by omega]
  rfl
 rw[if_neg hp]
 by_cases hq:p<l.length*17
 ·have hi:p / 17<l.length:=by omega
  have hpe:p=p / 17*17+p % 17:=by omega
  have hne:p / 17≠a:=fun e=>hp ⟨by omega,by omega,hq⟩
  have h2:l[p / 17]? = some l[p / 17]:=Aa hi
  have h3:(l.set a { d with draws:=X })[p / 17]? = some l[p / 17]:=by rw[A9 (fun e=>hne e.symm)];exact h2
  rw[hpe,Uv h3 _ (Nat.mod_lt _ (by decide)),Uv h2 _ (Nat.mod_lt _ (by decide))]
 rw[Ar (by rw[Rg,List.length_set];omega),Ar (by rw[Rg];omega)]
theorem Ax4 (l:List Dx):Pb false (I6 l)=Cd l:=rfl
variable {F:List AV->List AV} {f:AV->AV}
theorem Auq (hF:∀(cs:List AV) (i:Nat),(F cs)[i]? = (cs[i]?).map f) (h1:∀v,f (.lit v)=.lit v) (h2:∀k es,f (.imm false k es)=.imm false k es) (l:List Dx):F (Cd l)=Cd l:=by
 apply List.ext_getElem?
 intro p
 rw[hF]
 by_cases hq:p<l.length*17
 ·have hi:p / 17<l.length:=by omega
  have hpe:p=p / 17*17+p % 17:=by omega
  have h2':l[p / 17]? = some l[p / 17]:=Aa hi
  have hj:p % 17<17:=Nat.mod_lt _ (by decide)
  rw[hpe,Uv h2' _ hj]
  generalize p % 17=j at hj
  generalize l[p / 17]=d
  have:∀j,j<17->Option.map f ((d.a false)[j]?)=(d.a false)[j]?:=fun j hj=>by
   have hc:j=0\/j=1\/j=2\/j=3\/j=4\/j=5\/j=6\/j=7\/j=8\/j=9\/j=10\/j=11\/j=12\/j=13\/j=14\/j=15\/j=16:=by omega
   rcases hc with rfl | rfl | rfl | rfl | rfl | rfl | rfl | rfl | rfl | rfl | rfl | rfl | rfl | rfl | rfl | rfl | rfl<;>simp[Dx.a,h1,h2]
  exact this j hj
 rw[Ar (by rw[Rg];omega)];rfl
theorem Up (hF:∀(cs:List AV) (i:Nat),(F cs)[i]? = (cs[i]?).map f) (h1:∀v,f (.lit v)=.lit v) (h2:∀k es,f (.imm false k es)=.imm false k es) (l:List Dx) (p:Nat) (v:AV):F ((Cd l).set p v)=(Cd l).set p (f v):=by
 have h:=Auq hF h1 h2 l
 apply List.ext_getElem?
 intro q
 rw[hF]
 by_cases hq:p=q
 ·subst hq
  by_cases hp:p<(Cd l).length
  ·rw[Bg hp,Bg hp];rfl
  rw[Ar (by simp;omega),Ar (by simp;omega)];rfl
 rw[A9 hq,A9 hq,<- hF,h]
theorem Am3:∀(cs:List AV) (i:Nat),(J6 cs)[i]? = (cs[i]?).map AV.low
 | [],i=>by simp[J6]
 | c::cs,0=>by simp[J6]
 | c::cs,i+1=>by have:=Am3 cs i;simpa[J6] using this
theorem Gl (ρ:Nat->Option Nat) (l:List Dx) (p:Nat) (v:AV):Nr ρ ((Cd l).set p v)=(Cd l).set p (v.ren ρ):=Up (O9 ρ) (fun v=>by simp only[AV.ren]) (fun k es=>by simp only[AV.ren]) l p v
theorem Aef (ρ:Nat->Option Nat) (l:List Dx):Nr ρ (Cd l)=Cd l:=Auq (O9 ρ) (fun v=>by simp only[AV.ren]) (fun k es=>by simp only[AV.ren]) l
theorem G2 (l:List Dx) (p:Nat) (v:AV):J6 ((Cd l).set p v)=(Cd l).set p v.low:=Up Am3 (fun v=>by simp only[AV.low]) (fun k es=>by simp only[AV.low]) l p v
theorem Fh (N:Nat) (l:List Dx) (p:Nat) (v:AV):Of N ((Cd l).set p v)=(Cd l).set p (v.shift N):=Up (Oe N) (fun v=>by simp only[AV.shift]) (fun k es=>by simp only[AV.shift]) l p v
theorem Fp (o:Nat->Ob) (l:List Dx) (p:Nat) (v:AV):R2 o ((Cd l).set p v)=(Cd l).set p (v.melt o):=Up (Qj o) (fun v=>by simp only[AV.melt]) (fun k es=>by simp only[AV.melt]) l p v
theorem Ap8:∀{a b:List AV} {x y:List T},ttL a=some x->ttL b=some y->ttL (a++b)=some (x++y)
 | [],b,x,y,h1,h2=>by simp[ttL] at h1;subst h1;simpa using h2
 | c::a,b,x,y,h1,h2=>by
  simp only[ttL,List.cons_append] at h1 ⊢
  cases hc:Yu c with
  | none=>rw[hc] at h1;simp at h1
  | some t =>
   cases ha:ttL a with
   | none=>rw[hc,ha] at h1;simp at h1
   | some xs =>
    rw[hc,ha] at h1
    simp at h1
    subst h1
    rw[Ap8 ha h2]
    simp
theorem Ayd:∀(l:List Dx),ttL (Cd l)=some (I6 l).flatten
 | []=>rfl
 | d::l=>by
  rw[Aeg]
  have:=Ap8 (a:=d.a false) (x:=d.t) (by rfl) (Ayd l)
  rw[this]
  rfl
theorem Adn (x:Dx) (hb:Vh x):PP 86 [] [x.g] [.row 44 1 false false (tYs x.draws)] (.agg [.li x.reg.num,.imm false 1 (tY x.reg.ag.sec),.li x.reg.ag.ri,.li x.reg.ag.cls,.imm false 1 (tI x.reg.ag.lims),.li x.reg.ag.rq,.li x.reg.ag.se,.li x.reg.ag.ra,.li x.reg.ag.bu,.imm false 6 (O5 x.reg.toks),.imm false 2 (Yw x.reg.vehs),.li x.reg.bk.lv,.li x.reg.bk.ra,.li x.reg.bk.bu,.imm false 5 (G6 x.reqs),.own 0 x.draws.length,.imm false 1 (tB x.aud)]):=by
 refine Ei Tryz.func86 ?_
 have hb1:=hb.reqs
 have hb2:=hb.draws
 refine Bw ?_
 refine Di Dy (Rs x.reg hb.reg) ?_
 refine Cc (fun K kk=>by simp[go_sem];refine .lo (U9 _ (by simpa using hb.reqs)) rfl (by simp) ?_;simp[go_sem];exact kk)<|.seq ?_
 refine Bw<|.block ?_
 refine Cb x.reqs.length (fun i1=>⟨[(1,.ptr 0 0),(2,.ptr 1 0),(15,.li x.reqs.length),(16,.li i1)],[.box 70 [.li x.reg.num,.imm false 1 (tY x.reg.ag.sec),.li x.reg.ag.ri,.li x.reg.ag.cls,.imm false 1 (tI x.reg.ag.lims),.li x.reg.ag.rq,.li x.reg.ag.se,.li x.reg.ag.ra,.li x.reg.ag.bu,.imm false 6 (O5 x.reg.toks),.imm false 2 (Yw x.reg.vehs),.li x.reg.bk.lv,.li x.reg.bk.ra,.li x.reg.bk.bu,.own 2 x.reqs.length,.imm false 1 (tYs x.draws),.imm false 1 (tB x.aud)],.box 70 [.li 0,.nil 1,.li 0,.li 0,.nil 1,.li 0,.li 0,.li 0,.li 0,.nil 6,.nil 2,.li 0,.li 0,.li 0,.nil 5,.nil 1,.nil 1],.row 164 5 false false (G6 x.reqs)]⟩) (wk Dy [0,1,2]) fun i1 hi1=>?_
 refine Bw<|.seq ?_
 refine B7 ?_ ?_<;>intro h17
 ·have hx:x.reqs[i1]? = some x.reqs[i1]:=Aa h17
  generalize x.reqs[i1]=t at hx
  have hs:=Gq (f:=Ew.t) hx
  simp only[Ew.t] at hs
  refine Bv<|.seq<|.block<|.R ?_
  refine VW.E1 (fun K kk=>by simp[go_sem,hx,hs];(repeat refine aK ?_);refine .lo (Ey.froz (Mc _ (by simpa using hb.legs t (Ac hx)) (by simp[T.plain,G0.t]))) rfl (by simp) ?_;simp[go_sem,hx,hs];(repeat first | exact kk | refine aK ?_)) ?_
  refine Cm ?_
  refine⟨by omega,wQ [0,1,2] ?_ ?_⟩
  ·simp[go_sem,Dw ((i1:Int)+1)]
  simp[go_sem]
 refine B5 ?_
 refine Ch 2 (by simp[go_sem,F5]) ?_
 simp[go_sem]
 refine Bx (by rfl) fun K1 hK1=>?_
 simp[go_sem]
 refine .lo (V7 _ (by simpa using hb.draws)) rfl (by simp) ?_
 simp[go_sem]
 refine hK1 _ ?_;clear hK1
 refine Du<|.R<|.block ?_
 refine Cb x.draws.length (fun i2=>⟨[(1,.ptr 0 0),(2,.ptr 1 0),(38,.li x.draws.length),(39,.li i2)],[.box 70 [.li x.reg.num,.imm false 1 (tY x.reg.ag.sec),.li x.reg.ag.ri,.li x.reg.ag.cls,.imm false 1 (tI x.reg.ag.lims),.li x.reg.ag.rq,.li x.reg.ag.se,.li x.reg.ag.ra,.li x.reg.ag.bu,.imm false 6 (O5 x.reg.toks),.imm false 2 (Yw x.reg.vehs),.li x.reg.bk.lv,.li x.reg.bk.ra,.li x.reg.bk.bu,.imm false 5 (G6 x.reqs),.own 2 x.draws.length,.imm false 1 (tB x.aud)],.box 70 [.li 0,.nil 1,.li 0,.li 0,.nil 1,.li 0,.li 0,.li 0,.li 0,.nil 6,.nil 2,.li 0,.li 0,.li 0,.nil 5,.nil 1,.nil 1],.row 44 1 false false (tYs x.draws)]⟩) (wk Dy [0,1,3]) fun i2 hi2=>?_
 refine Bw<|.seq ?_
 refine B7 ?_ ?_<;>intro h40
 ·have hx:x.draws[i2]? = some x.draws[i2]:=Aa h40
  generalize x.draws[i2]=t at hx
  have hs:=Gq (f:=fun x=>[T.sl 1 (tY x)]) hx
  refine Bv<|.seq<|.block<|.R ?_
  refine VW.draw1 (by kernel_rfl) (by rfl) (by kernel_rfl) fun K1 hK1=>?_
  simp[go_sem,hx,hs]
  repeat' refine Ax ?_ ?_
  all_goals try (intros;(repeat' refine Ax ?_ ?_)<;>omega)
  refine .lo (Ey.froz (Gf _ (by simpa using hb.draw t (Ac hx)) (by simp[T.plain]))) rfl (by simp) ?_
  simp[go_sem,hx,hs]
  repeat' refine Ax ?_ ?_
  all_goals try (intros;(repeat' refine Ax ?_ ?_)<;>omega)
  refine hK1 _ _ (by kernel_rfl) ?_;clear hK1
  refine Cm ?_
  refine⟨by omega,wQ [0,1,2] ?_ ?_⟩
  ·simp[go_sem,Dw ((i2:Int)+1)]
  simp[go_sem]
 refine B5<|.S (fun K kk=>by simp[go_sem];refine .lo (X2 _ (by simpa using hb.aud) (by simp[T.plain])) rfl (by simp) ?_;simp[go_sem];exact kk) ?_
 refine Bw ?_
 refine Ch 3 (by simp[go_sem,F5]) ?_
 simp[go_sem]
 exact .ret (rW Dy [2])
theorem Ado (x:Fs) (hb:Anx x) (a:Nat) (D:Dx) (hD:x.desks[a]? = some D):PP 61 [] [x.g] [.box 70 ((Cd x.desks).set (a*17+15) (.own 1 D.draws.length)),.row 44 1 false false (tYs D.draws)] (.agg [.imm false 3 (Yx x.cfg.juns),.imm false 8 (tAg x.cfg.ags),.li x.cfg.per,.li x.cfg.cap,.li x.cfg.hold,.li x.cfg.lock,.lb x.ref,.li x.now,.bsl 0 x.desks.length,.imm false 5 (O6 x.sigs),.imm false 3 (Pu x.svcs),.imm false 1 (tI x.stuck),.imm false 4 (Rv x.views)]):=by
 refine Ei Tryz.func61 ?_
 have hb1:=hb.desks
 have hb2:=hb.sigs
 have hb3:=hb.svcs
 refine Bw ?_
 refine Cc (fun K kk=>by simp[go_sem];refine .lo (Zt _ (by simpa using hb.desks)) rfl (by simp) ?_;simp[go_sem];exact kk) ?_
 have hA:a<x.desks.length:=(Ab.1 hD).1
 refine VW.toBox 2 rfl (by intro e;simp at e;rw[e] at hA;simp at hA) (by decide) ?_
 simp[go_sem,-Prod.exists,Ax4]
 refine Du<|.R<|.block ?_
 refine Cb x.desks.length (fun i1=>if a<i1 then ⟨[(1,.ptr 0 0),(2,.ptr 1 0),(12,.li x.desks.length),(13,.li i1)],[.box 37 [.imm false 3 (Yx x.cfg.juns),.imm false 8 (tAg x.cfg.ags),.li x.cfg.per,.li x.cfg.cap,.li x.cfg.hold,.li x.cfg.lock,.lb x.ref,.li x.now,.bsl 2 x.desks.length,.imm false 5 (O6 x.sigs),.imm false 3 (Pu x.svcs),.imm false 1 (tI x.stuck),.imm false 4 (Rv x.views)],.box 37 [.nil 3,.nil 8,.li 0,.li 0,.li 0,.li 0,.lb false,.li 0,.nil 17,.nil 5,.nil 3,.nil 1,.nil 4],.box 70 ((Cd x.desks).set (a*17+15) (.own 3 D.draws.length)),.row 44 1 false false (tYs D.draws)]⟩ else ⟨[(1,.ptr 0 0),(2,.ptr 1 0),(12,.li x.desks.length),(13,.li i1)],[.box 37 [.imm false 3 (Yx x.cfg.juns),.imm false 8 (tAg x.cfg.ags),.li x.cfg.per,.li x.cfg.cap,.li x.cfg.hold,.li x.cfg.lock,.lb x.ref,.li x.now,.bsl 2 x.desks.length,.imm false 5 (O6 x.sigs),.imm false 3 (Pu x.svcs),.imm false 1 (tI x.stuck),.imm false 4 (Rv x.views)],.box 37 [.nil 3,.nil 8,.li 0,.li 0,.li 0,.li 0,.lb false,.li 0,.nil 17,.nil 5,.nil 3,.nil 1,.nil 4],.box 70 (Cd x.desks)]⟩) (by rw[if_neg (by omega)];exact⟨[0,1,2],El (by decide) (by repeat' (first | exact .nil | refine .cons (by simp[go_sem]) ?_)) (by repeat' (first | exact .nil | refine .cons (by simp[go_sem,Aef]) ?_)),by simp⟩) fun i1 hi1=>?_
 have hin:x.desks.length*17=(Cd x.desks).length:=(Rg _).symm
 by_cases hai:a<i1
 ·
  rw[if_pos hai]
  refine Bw<|.seq ?_
  refine B7 ?_ ?_<;>intro h14
  ·have hx:x.desks[i1]? = some x.desks[i1]:=Aa h14
   generalize x.desks[i1]=t at hx
   have hDt:=Any hx (by omega) (.own 3 D.draws.length) (a:=a)
   have hDs:=Anz hx (by omega) (.own 3 D.draws.length) (a:=a)
   simp only[Dx.a,List.set] at hDt hDs
   refine Bv<|.seq<|.block<|.R ?_
   refine VW.M1 (Fa hDt hDs) (Lv t (hb.desk t (Ac hx))) ?_
   refine Cm ?_
   rw[if_pos (by omega)]
   refine⟨by omega,wQ [0,1,2,3] ?_ ?_⟩
   ·simp[go_sem,Dw ((i1:Int)+1)]
   simp[go_sem,hDt,hDs,Gl,Aef]
  refine B5<|.S (fun K kk=>by simp[go_sem,Gl,G2,Fh,Fp];refine .lo (V8 _ (by simpa using hb.sigs)) rfl (by simp) ?_;simp[go_sem,Gl,G2,Fh,Fp];exact kk)<|.seq ?_
  refine Cc (fun K kk=>by simp[go_sem,Gl,G2,Fh,Fp];exact kk)<|.block ?_
  refine Cb x.sigs.length (fun i2=>⟨[(1,.ptr 0 0),(2,.ptr 1 0),(33,.li x.sigs.length),(34,.li i2)],[.box 37 [.imm false 3 (Yx x.cfg.juns),.imm false 8 (tAg x.cfg.ags),.li x.cfg.per,.li x.cfg.cap,.li x.cfg.hold,.li x.cfg.lock,.lb x.ref,.li x.now,.bsl 2 x.desks.length,.own 4 x.sigs.length,.imm false 3 (Pu x.svcs),.imm false 1 (tI x.stuck),.imm false 4 (Rv x.views)],.box 37 [.nil 3,.nil 8,.li 0,.li 0,.li 0,.li 0,.lb false,.li 0,.nil 17,.nil 5,.nil 3,.nil 1,.nil 4],.box 70 ((Cd x.desks).set (a*17+15) (.own 3 D.draws.length)),.row 44 1 false false (tYs D.draws),.row 135 5 false false (O6 x.sigs)]⟩) (wQ [0,1,2,3,4] ?_ ?_) fun i2 hi2=>?_
  ·simp[go_sem,Gl,G2,Fh,Fp]
  ·simp[go_sem,Gl,G2,Fh,Fp]
  refine Cc (fun K kk=>by simp[go_sem,Gl,G2,Fh,Fp];exact kk)<|.seq ?_
  refine VW.cond (by simp[go_sem,Gl,G2,Fh,Fp]) (by simp[go_sem,Gl,G2,Fh,Fp]) (fun h35=>?_) (fun h35=>?_)<;>simp[go_sem,Gl,G2,Fh,Fp] at h35
  ·have hx:x.sigs[i2]? = some x.sigs[i2]:=Aa h35
   generalize x.sigs[i2]=t at hx
   have hs:=Gq (f:=Hz.t) hx
   simp only[Hz.t] at hs
   refine Bv<|.seq<|.block<|.S (fun K kk=>by simp[go_sem,Gl,G2,Fh,Fp];exact kk) ?_
   refine VW.M1 (Fa hx hs) (Ps t (hb.sig t (Ac hx)).1 (hb.sig t (Ac hx)).2) ?_
   refine VW.S1 (fun K kk=>by simp[go_sem,Gl,G2,Fh,Fp];exact kk) ?_
   refine⟨by omega,wQ [0,1,2,3,4] ?_ ?_⟩
   ·simp[go_sem,Dw ((i2:Int)+1)]
   simp[go_sem,Gl,G2,Fh,Fp]
  refine B5<|.S (fun K kk=>by simp[go_sem,Gl,G2,Fh,Fp];refine .lo (U8 _ (by simpa using hb.svcs)) rfl (by simp) ?_;simp[go_sem,Gl,G2,Fh,Fp];exact kk)<|.seq ?_
  refine Cc (fun K kk=>by simp[go_sem,Gl,G2,Fh,Fp];exact kk)<|.block ?_
  refine Cb x.svcs.length (fun i3=>⟨[(1,.ptr 0 0),(2,.ptr 1 0),(54,.li x.svcs.length),(55,.li i3)],[.box 37 [.imm false 3 (Yx x.cfg.juns),.imm false 8 (tAg x.cfg.ags),.li x.cfg.per,.li x.cfg.cap,.li x.cfg.hold,.li x.cfg.lock,.lb x.ref,.li x.now,.bsl 2 x.desks.length,.own 4 x.sigs.length,.own 5 x.svcs.length,.imm false 1 (tI x.stuck),.imm false 4 (Rv x.views)],.box 37 [.nil 3,.nil 8,.li 0,.li 0,.li 0,.li 0,.lb false,.li 0,.nil 17,.nil 5,.nil 3,.nil 1,.nil 4],.box 70 ((Cd x.desks).set (a*17+15) (.own 3 D.draws.length)),.row 44 1 false false (tYs D.draws),.row 135 5 false false (O6 x.sigs),.row 138 3 false false (Pu x.svcs)]⟩) (wQ [0,1,2,3,4,5] ?_ ?_) fun i3 hi3=>?_
  ·simp[go_sem,Gl,G2,Fh,Fp]
  ·simp[go_sem,Gl,G2,Fh,Fp]
  refine Cc (fun K kk=>by simp[go_sem,Gl,G2,Fh,Fp];exact kk)<|.seq ?_
  refine VW.cond (by simp[go_sem,Gl,G2,Fh,Fp]) (by simp[go_sem,Gl,G2,Fh,Fp]) (fun h56=>?_) (fun h56=>?_)<;>simp[go_sem,Gl,G2,Fh,Fp] at h56
  ·have hx:x.svcs[i3]? = some x.svcs[i3]:=Aa h56
   generalize x.svcs[i3]=t at hx
   have hs:=Gq (f:=F3.t) hx
   simp only[F3.t] at hs
   refine Bv<|.seq<|.block<|.S (fun K kk=>by simp[go_sem,Gl,G2,Fh,Fp];exact kk) ?_
   refine VW.M1 (Fa hx hs) (K3 t (hb.svc t (Ac hx))) ?_
   refine VW.S1 (fun K kk=>by simp[go_sem,Gl,G2,Fh,Fp];exact kk) ?_
   refine⟨by omega,wQ [0,1,2,3,4,5] ?_ ?_⟩
   ·simp[go_sem,Dw ((i3:Int)+1)]
   simp[go_sem,Gl,G2,Fh,Fp]
  refine B5<|.S (fun K kk=>by simp[go_sem,Gl,G2,Fh,Fp];refine .lo (Hh _ (by simpa using hb.stuck) (by simp[T.plain])) rfl (by simp) ?_;simp[go_sem,Gl,G2,Fh,Fp];exact kk) ?_
  refine Cc (fun K kk=>by simp[go_sem,Gl,G2,Fh,Fp];refine .l (V5 x.views hb.views hb.view) ?_;simp[go_sem,Gl,G2,Fh,Fp];exact kk) ?_
  refine Cc (fun K kk=>by simp[go_sem,Gl,G2,Fh,Fp];exact kk) ?_
  refine Ch 4 (by simp[go_sem,F5]) ?_
  simp[go_sem,Fp]
  refine Ch 5 (by simp[go_sem,F5]) ?_
  simp[go_sem,Fp]
  refine Ch 6 (by simp[go_sem,F5]) ?_
  simp[go_sem,Fp]
  refine VW.ret (Tb [2,3] (by simp[go_sem,Gl,G2,Fh,Fp]) (by decide) (by simp) (by simp[go_sem,Gl,G2,Fh,Fp]) ?_)
  repeat' (first | exact .nil | refine .cons (by simp[go_sem,Gl,G2,Fh,Fp]) ?_)
 -- not yet
 rw[if_neg hai]
 refine Bw<|.seq ?_
 refine B7 ?_ ?_<;>intro h14
 ·
  by_cases hia:i1=a
  ·subst hia
   have hx:=hD
   have hDt:=Ak5 hx
   have hDs:=Agm hx (.own 3 D.draws.length)
   simp only[Dx.a,List.set] at hDt hDs
   refine Bv<|.seq<|.block<|.R ?_
   refine VW.M1 (Fa hDt hDs) (Adn D (hb.desk D (Ac hx))) ?_
   refine Cm ?_
   rw[if_pos (by omega)]
   refine⟨by omega,wQ [0,1,2,3] ?_ ?_⟩
   ·simp[go_sem,Dw ((i1:Int)+1)]
   simp[go_sem,hDt,hDs,Gl,Aef]
  ·
   have hx:x.desks[i1]? = some x.desks[i1]:=Aa h14
   generalize x.desks[i1]=t at hx
   have hDt:=Ak5 hx
   have hDs:=Ax3 hx
   simp only[Dx.a,List.set] at hDt hDs
   refine Bv<|.seq<|.block<|.R ?_
   refine VW.M1 (Fa hDt hDs) (Lv t (hb.desk t (Ac hx))) ?_
   refine Cm ?_
   rw[if_neg (by omega)]
   refine⟨by omega,wQ [0,1,2] ?_ ?_⟩
   ·simp[go_sem,Dw ((i1:Int)+1)]
   simp[go_sem,hDt,hDs,Gl,Aef]
 -- none
 omega
end
end Go.Proofs.YtkkimgjinbaemaaGreat
