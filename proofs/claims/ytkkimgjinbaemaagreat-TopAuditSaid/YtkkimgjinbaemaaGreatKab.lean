/- The walk. -/
import Derived.Test.YtkkimgjinbaemaaGreatKaa
noncomputable section
namespace Go.Proofs.YtkkimgjinbaemaaGreat
open Go.RowKit
set_option linter.unusedVariables false
set_option linter.unusedSimpArgs false
set_option linter.defProp false
set_option linter.unusedSectionVars false
set_option maxRecDepth 100000
set_option maxHeartbeats 4000000
section
variable {P:Program}
variable {P:Program}
theorem Lv (w:World) (dT sT ty elem:TypeId) (k g o dLen dCap:Nat) (a:Addr) (sLen sCap:Nat) (cur:Array Value) (t:TypeId) (cs:List Value) (hu:P.underlying dT=some (.slice elem)) (hs:(P.info? elem).map (·.size)=some k) (hg:w.heap[g]? = some (.cells cur t (0,0))) (hn:cs.length=Nat.min sLen dLen*k) (hsrc:∀j v,cs[j]? = some v->w.cell? (a.add j)=some v) (hfit:o+cs.length<=cur.size) (h1:∀v∈cs,v.oneCell'=true) :
  (Builtin.copy_ #[dT,sT] ty #[.slice (some ⟨g,o,none⟩) dLen dCap,.slice (some a) sLen sCap]).run P w =
   .ok (goInt (Nat.min sLen dLen)) (w.setRow g (cur.toList.take o++cs++cur.toList.drop (o+cs.length)).toArray):=by
 have hl:=run_loadCells_list (P:=P) w a cs hsrc
 have hst:=run_storeCells_at P g o t cs 0 cur w hg (by simpa using hfit) h1
 cases hq:P.info? elem with
 | none=>simp[hq] at hs
 | some i =>
  have hi:i.size=k:=by simpa[hq] using hs
  simp[Builtin.copy_,run_underlying hu,Builtin.lenOf,Builtin.firstCells,sizeOf,typeInfo,hq,hi,<- hn,hl,hst]
theorem Afs (w:World) (dT sT ty elem:TypeId) (k:Nat) (d a:Option Addr) (dLen dCap sLen sCap:Nat) (hu:P.underlying dT=some (.slice elem)) (hs:(P.info? elem).map (·.size)=some k) (hn:Nat.min sLen dLen=0) :
 (Builtin.copy_ #[dT,sT] ty #[.slice d dLen dCap,.slice a sLen sCap]).run P w=.ok (goInt 0) w:=by
 cases hq:P.info? elem with
 | none=>simp[hq] at hs
 | some i =>
  have hl:∀(x:Addr),(loadCells x 0).run P w=.ok #[] w:=fun x=>by simpa using run_loadCells_list (P:=P) w x [] (by simp)
  cases d<;>cases a<;>simp[Builtin.copy_,run_underlying hu,Builtin.lenOf,Builtin.firstCells,sizeOf,typeInfo,hq,hn,storeCells,hl]
def O7 (P:Program) (t:TypeId) (id n lo m:Nat) (src:AV) (o:Nat->Ob):Lz :=
 match o id with
 | .row ty k fr fz es=>⟨.lit (.int .i64 (min (Gu o src).length m:Nat)),[(id,.row ty k (fr&&Qh o src) false (Km es lo ((Gu o src).take m)))],
  Hv P t=true/\tok P (Eb P t)=true/\Ad3 o (Gg P (Eb P t)) src/\k=Gg P (Eb P t)/\fz=false/\n=es.length/\lo+m<=n⟩
 | _=>.bad
def Vi (P:Program) (t:TypeId) (d src:AV) (o:Nat->Ob):Lz :=
 match d with
 | .own id n=>O7 P t id n 0 n src o
 | .sub id n lo m=>O7 P t id n lo m src o
 | _=>.bad
variable {E:Gp} {β:Nat->Option Nat} {st:St} {a:Act} {w:World} {id n lo m:Nat} {ud ux:Value}
theorem Arf (r:Es E β st a w) {t dT sT ty:TypeId} (hT:dT=t) {x:AV} (hd:∀ty k fr fz es,st.o id=.row ty k fr fz es->n=es.length->lo+m<=n->∃A c,ud=.slice A m c/\(m=0\/∃b,β id=some b/\A=some ⟨b,lo*k,none⟩)) (hx:Ea (E.C β st w) x ux) (hc:(O7 P t id n lo m x st.o).c) :
 ∃u w' o,(Builtin.copy_ #[dT,sT] ty #[ud,ux]).run P w=.ok u w'/\(O7 P t id n lo m x st.o).up=[(id,o)]/\Es E β (st.set id o) a w'/\Ea (E.C β (st.set id o) w') (O7 P t id n lo m x st.o).v u:=by
 subst hT
 unfold O7 at hc ⊢
 cases ho:st.o id with
 | gone=>rw[ho] at hc;exact hc.elim
 | box ty cs=>rw[ho] at hc;exact hc.elim
 | row ty' k fr fz es =>
  rw[ho] at hc
  obtain⟨h1,h2,h3,rfl,rfl,h6,h7⟩:=hc
  obtain⟨A,c,rfl,hA⟩:=hd _ _ _ _ _ ho h6 h7
  have hinfo:(P.info? (Eb P dT)).map (·.size)=some (Gg P (Eb P dT)):=by
   simp only[tok,Ah] at h2
   obtain⟨i,hi⟩:=Option.isSome_iff_exists.1 h2.2
   simp[Gg,hi]
  have hs:=Zg r hx h3
  obtain⟨hk,hel,hcell⟩:=r.row_cells ho
  by_cases h0:min (Gu st.o x).length m=0
  ·obtain⟨A',c',rfl,_⟩:=hs
   obtain⟨q1,q2⟩:=r.flag ho (fr':=fr&&Qh st.o x) (fz':=false) (fun e=>by simp only[Ah] at e;exact .inl e.1) fun e=>rfl
   have he:(Gu st.o x).take m=[]:=List.eq_nil_of_length_eq_zero (by rw[A5];omega)
   simp only[he,Km,h0]
   exact⟨_,_,_,Afs w dT sT ty _ _ A A' m c _ c' (Ft h1) hinfo h0,rfl,q1,.lit _⟩
  have hne:Gu st.o x≠[]:=fun e=>by rw[e] at h0;simp at h0
  obtain⟨xb,xo,xc,news,rfl,n1,n2,n3,n4⟩:=hs.news hk w rfl hne
  obtain⟨_,_,_,_,helx,_⟩:=hs
  rcases hA with hm | ⟨b,hb,rfl⟩
  ·omega
  rcases hcell with⟨hb',_⟩ | ⟨b',cur,cc,hb',g1,g2,g3,g4,g5⟩
  ·rw[hb'] at hb;cases hb
  rw[hb'] at hb
  injection hb with hb
  subst hb
  have hlt:(news.take (min (Gu st.o x).length m*Gg P (Eb P dT))).length=min (Gu st.o x).length m*Gg P (Eb P dT):=by
   rw[A5,n1]
   exact Nat.min_eq_left (A1 _ (Nat.min_le_left _ _))
  have hnews:∀(j:Nat) (v:Value),(news.take (min (Gu st.o x).length m*Gg P (Eb P dT)))[j]? = some v->news[j]? = some v:=fun j v hv=>by
   have hj:j<min (Gu st.o x).length m*Gg P (Eb P dT):=by rw[<- hlt];exact (Ab.1 hv).1
   rw[Ag hj] at hv
   exact hv
  have hfit:lo*Gg P (Eb P dT)+(news.take (min (Gu st.o x).length m*Gg P (Eb P dT))).length<=cur.size:=by
   rw[hlt,g2,<- Be]
   exact A1 _ (by omega)
  have hrun:=Lv (P:=P) w dT sT ty (Eb P dT) (Gg P (Eb P dT)) b' (lo*Gg P (Eb P dT)) m c ⟨xb,xo,none⟩ (Gu st.o x).length xc cur ty' _ (Ft h1) hinfo g1 hlt (fun j v hv=>n2 j v (hnews j v hv)) hfit (fun v hv=>n3 v (Aq hv))
  refine⟨_,_,_,hrun,rfl,?_,.lit _⟩
  have htl:((Gu st.o x).take m).length=min (Gu st.o x).length m:=by rw[A5,Nat.min_comm]
  refine r.change (id:=id) (by rw[ho];rfl) hb' g1 (setRow_heap w b' cur _ _ (0,0) g1) (Hc cur _ _ hfit) (by simp) (fun b' hb'=>setRow_other w _ b' _ hb') rfl rfl rfl
   (fun ty' cs' e=>by rw[ho] at e;cases e) (fun ty' k' fr' fz' es' e=>by
    rw[ho] at e
    injection e with e1 e2 e3 e4 e5
    subst e1 e2 e5
    exact⟨_,_,_,rfl,by rw[Fr];exact Aj _⟩) (fun C s hCβ hCh=>?_) (.inr trivial)
  refine⟨⟨hk,fun i e he=>?_⟩,?_⟩
  ·rw[Jq] at he
   split at he
   ·exact helx _ e (by rw[List.getElem?_take] at he;split at he<;>first | exact he | cases he)
   exact hel _ e he
  rw[hCβ]
  refine⟨_,cc,hCh,by rw[Hc cur _ _ hfit,g2],by rw[Fr];exact g3,g4,fun i e j y he hy=>?_⟩
  rw[Oq cur _ _ hfit,hlt]
  rw[Jq,htl] at he
  have hmm:∀p q:Nat,p+1<=q->p*Gg P (Eb P dT)+Gg P (Eb P dT)<=q*Gg P (Eb P dT):=fun p q h=>by
   have:=A1 (Gg P (Eb P dT)) h
   rw[Be] at this;omega
  by_cases hin:lo<=i/\i<lo+min (Gu st.o x).length m/\i<es.length
  ·rw[if_pos hin] at he
   have he':(Gu st.o x)[i - lo]? = some e:=by
    rw[List.getElem?_take] at he
    split at he
    ·exact he
    cases he
   have hj:j<Gg P (Eb P dT):=by rw[<- helx _ e he'];exact (Ab.1 hy).1
   obtain⟨u,p1,p2⟩:=n4 _ e j y he' hy
   have a1:=hmm i (lo+min (Gu st.o x).length m) (by omega)
   have a2:lo*Gg P (Eb P dT)<=i*Gg P (Eb P dT):=A1 _ hin.1
   have a3:=hmm (i - lo) (min (Gu st.o x).length m) (by omega)
   rw[Be] at a1
   rw[if_pos ⟨by omega,by omega⟩]
   refine⟨u,?_,VC.T_weak (s.T p2) fun e=>by simp only[Ah] at e;exact e.2⟩
   rw[Ag (by rw[Nat.sub_mul] at a3;omega),<- p1,Nat.sub_mul]
   congr 1
   omega
  rw[if_neg hin] at he
  have hj:j<Gg P (Eb P dT):=by rw[<- hel _ e he];exact (Ab.1 hy).1
  have hil:i<es.length:=(Ab.1 he).1
  have hout:¬(lo*Gg P (Eb P dT)<=i*Gg P (Eb P dT)+j/\i*Gg P (Eb P dT)+j<lo*Gg P (Eb P dT)+min (Gu st.o x).length m*Gg P (Eb P dT)):=by
   rintro⟨b1,b2⟩
   rw[<- Be] at b2
   rcases Nat.lt_or_ge i lo with hlo | hlo
   ·have:=hmm i lo (by omega);omega
   have:=hmm (lo+min (Gu st.o x).length m) (i+1) (by omega)
   have:=A1 (Gg P (Eb P dT)) (show lo+min (Gu st.o x).length m<=i by omega)
   omega
  rw[if_neg hout]
  obtain⟨u,p1,p2⟩:=g5 i e j y he hy
  exact⟨u,p1,VC.T_weak (s.T p2) fun e=>by simp only[Ah] at e;exact e.1⟩
theorem Ayf (r:Es E β st a w) {t sT ty:TypeId} {d x:AV} (hd:Ea (E.C β st w) d ud) (hx:Ea (E.C β st w) x ux) (hc:(Vi P t d x st.o).c) :
 ∃u w' id o,(Builtin.copy_ #[t,sT] ty #[ud,ux]).run P w=.ok u w'/\(Vi P t d x st.o).up=[(id,o)]/\Es E β (st.set id o) a w'/\Ea (E.C β (st.set id o) w') (Vi P t d x st.o).v u:=by
 cases hd with
 | own id n u h =>
  obtain⟨u,w',o,h1⟩:=Arf r (ty:=ty) (sT:=sT) (ud:=ud) rfl (fun ty k fr fz es ho hn hm=>by
   rcases r.own_val ho h hn with⟨_,he,A,rfl⟩ | ⟨b,cur,c,hb,_,_,_,_,rfl,_⟩
   ·subst he
    exact⟨A,0,by rw[hn];rfl,.inl hn⟩
   exact⟨_,c,by rw[hn],.inr ⟨b,hb,by rw[Nat.zero_mul]⟩⟩) hx (show (O7 P t id n 0 n x st.o).c from hc)
  exact⟨u,w',id,o,h1⟩
 | sub id n lo m u h =>
  obtain⟨u,w',o,h1⟩:=Arf r (ty:=ty) (sT:=sT) (ud:=ud) rfl (fun ty k fr fz es ho hn hm=>by
   obtain⟨_,ty',k',fr',fz',es',ho',_,h5⟩:=h
   have ho':st.o id=_:=ho'
   rw[ho] at ho'
   injection ho' with e1 e2 e3 e4 e5
   subst e1 e2 e3 e4 e5
   obtain⟨_,A,c,rfl,hmc,_,h8⟩:=h5 hn
   exact⟨A,c,rfl,h8.elim (fun e=>.inl (by omega)) .inr⟩) hx (show (O7 P t id n lo m x st.o).c from hc)
  exact⟨u,w',id,o,h1⟩
 | _=>simp[Vi,Lz.bad] at hc
theorem Afj (r:Es E β st a w) {id b lo:Nat} {ty k:Nat} {fr fr2:Bool} {es ns:List (List T)} (ho:st.o id=.row ty k fr false es) (hb:β id=some b) {cur:Array Value} (hcur:w.heap[b]? = some (.cells cur ty (0,0))) {news:List Value} (hlen:news.length=ns.length*k) (helx:∀(i:Nat) (e:List T),ns[i]? = some e->e.length=k) (hn:∀(i:Nat) (e:List T) (j:Nat) (y:T),ns[i]? = some e->e[j]? = some y->∃u,news[i*k+j]? = some u/\Gn w.heap ((E.C β st w).S fr2) y u) (hle:lo+ns.length<=es.length) :
  lo*k+news.length<=cur.size/\Es E β (st.set id (.row ty k (fr&&fr2) false (Km es lo ns))) a (w.setRow b (cur.toList.take (lo*k)++news++cur.toList.drop (lo*k+news.length)).toArray):=by
 obtain⟨hk,hel,hcell⟩:=r.row_cells ho
 rcases hcell with⟨hb',_⟩ | ⟨b',cur',cc,hb',g1,g2,g3,g4,g5⟩
 ·rw[hb'] at hb;cases hb
 rw[hb'] at hb
 injection hb with hb
 subst hb
 rw[g1] at hcur
 injection hcur with hcur
 injection hcur with hcur
 subst hcur
 have hfit:lo*k+news.length<=cur'.size:=by
  rw[hlen,g2,<- Be]
  exact A1 _ (by omega)
 refine⟨hfit,?_⟩
 refine r.change (id:=id) (by rw[ho];rfl) hb' g1 (setRow_heap w b' cur' _ _ (0,0) g1) (Hc cur' _ _ hfit) (by simp) (fun b' hb'=>setRow_other w _ b' _ hb') rfl rfl rfl
  (fun ty' cs' e=>by rw[ho] at e;cases e) (fun ty' k' fr' fz' es' e=>by
   rw[ho] at e
   injection e with e1 e2 e3 e4 e5
   subst e1 e2 e5
   exact⟨_,_,_,rfl,by rw[Fr];exact Aj _⟩) (fun C s hCβ hCh=>?_) (.inr trivial)
 refine⟨⟨hk,fun i e he=>?_⟩,?_⟩
 ·rw[Jq] at he
  split at he
  ·exact helx _ e he
  exact hel _ e he
 rw[hCβ]
 refine⟨_,cc,hCh,by rw[Hc cur' _ _ hfit,g2],by rw[Fr];exact g3,g4,fun i e j y he hy=>?_⟩
 rw[Oq cur' _ _ hfit,hlen]
 rw[Jq] at he
 have hmm:∀p q:Nat,p+1<=q->p*k+k<=q*k:=fun p q h=>by
  have:=A1 k h
  rw[Be] at this;omega
 by_cases hin:lo<=i/\i<lo+ns.length/\i<es.length
 ·rw[if_pos hin] at he
  have hj:j<k:=by rw[<- helx _ e he];exact (Ab.1 hy).1
  obtain⟨u,p1,p2⟩:=hn _ e j y he hy
  have a1:=hmm i (lo+ns.length) (by omega)
  have a2:lo*k<=i*k:=A1 _ hin.1
  rw[Be] at a1
  rw[if_pos ⟨by omega,by omega⟩]
  refine⟨u,?_,VC.T_weak (s.T p2) fun e=>by simp only[Ah] at e;exact e.2⟩
  rw[<- p1,Nat.sub_mul]
  congr 1
  omega
 rw[if_neg hin] at he
 have hj:j<k:=by rw[<- hel _ e he];exact (Ab.1 hy).1
 have hil:i<es.length:=(Ab.1 he).1
 have hout:¬(lo*k<=i*k+j/\i*k+j<lo*k+ns.length*k):=by
  rintro⟨b1,b2⟩
  rw[<- Be] at b2
  rcases Nat.lt_or_ge i lo with hlo | hlo
  ·have:=hmm i lo (by omega);omega
  have:=A1 k (show lo+ns.length<=i by omega)
  omega
 rw[if_neg hout]
 obtain⟨u,p1,p2⟩:=g5 i e j y he hy
 exact⟨u,p1,VC.T_weak (s.T p2) fun e=>by simp only[Ah] at e;exact e.1⟩
def Q4 (P:Program) (t:TypeId) (id n lo m:Nat) (src:AV) (o:Nat->Ob):Lz :=
 match o id with
 | .row ty k fr fz es=>⟨.sub id n lo (m+(Gu o src).length),[(id,.row ty k (fr&&Qh o src) false (Km es (lo+m) (Gu o src)))],
  Hv P t=true/\tok P (Eb P t)=true/\Ad3 o (Gg P (Eb P t)) src/\k=Gg P (Eb P t)/\fz=false/\n=es.length/\lo+m+(Gu o src).length<=n⟩
 | _=>.bad
theorem Aft (w:World) (t ty e:TypeId) (i:TypeInfo) (ht:P.underlying t=some (.slice e)) (hi:P.info? e=some i) (b off sLen sCap:Nat) (cur:Array Value) (bt:TypeId) (hb:w.heap[b]? = some (.cells cur bt (0,0))) (a:Addr) (m c:Nat) (news:List Value) (hl:news.length=m*i.size) (hnews:∀(j:Nat) (u:Value),news[j]? = some u->w.cell? (a.add j)=some u) (h1:∀u∈news,u.oneCell'=true) (hroom:sLen+m<=sCap) (hfit:off+sLen*i.size+news.length<=cur.size) :
  (Builtin.append_ #[t,t] ty #[.slice (some ⟨b,off,none⟩) sLen sCap,.slice (some a) m c]).run P w=.ok (.slice (some ⟨b,off,none⟩) (sLen+m) sCap) (w.setRow b (cur.toList.take (off+sLen*i.size)++news++cur.toList.drop (off+sLen*i.size+news.length)).toArray):=by
 have hfc:=run_firstCells_some (P:=P) w i.size m a m c news hl hnews
 have hst:=run_storeCells_at P b (off+sLen*i.size) bt news 0 cur w hb (by simpa using hfit) h1
 simp only[Nat.add_zero] at hst
 simp[Builtin.append_,run_underlying ht,sizeOf,typeInfo,hi,Builtin.lenOf,hroom,hfc,Addr.add_lit,hst]
variable {t ty:TypeId}
theorem Apz (r:Es E β st a w) {x:AV} (hd:Ea (E.C β st w) (.sub id n lo m) ud) (hx:Ea (E.C β st w) x ux) (hc:(Q4 P t id n lo m x st.o).c) :
 ∃u w' o,(Builtin.append_ #[t,t] ty #[ud,ux]).run P w=.ok u w'/\(Q4 P t id n lo m x st.o).up=[(id,o)]/\Es E β (st.set id o) a w'/\Ea (E.C β (st.set id o) w') (Q4 P t id n lo m x st.o).v u:=by
 unfold Q4 at hc ⊢
 cases ho:st.o id with
 | gone=>rw[ho] at hc;exact hc.elim
 | box ty cs=>rw[ho] at hc;exact hc.elim
 | row ty' k fr fz es =>
  rw[ho] at hc
  obtain⟨h1,h2,h3,rfl,rfl,h6,h7⟩:=hc
  obtain⟨i,hi,hsz⟩:∃i,P.info? (Eb P t)=some i/\i.size=Gg P (Eb P t):=by
   simp only[tok,Ah] at h2
   obtain⟨i,hi⟩:=Option.isSome_iff_exists.1 h2.2
   exact⟨i,hi,by simp[Gg,hi]⟩
  cases hd with
  | sub id n lo m u h =>
   have h':=h
   obtain⟨q0,ty2,k',fr',fz',es',ho',q1,h5⟩:=h'
   have ho':st.o id=_:=ho'
   rw[ho] at ho'
   injection ho' with e1 e2 e3 e4 e5
   subst e1 e2 e3 e4 e5
   obtain⟨h8,A,c,rfl,hmc,hec,hA⟩:=h5 h6
   have hs:=Zg r hx h3
   obtain⟨hk,hel,hcell⟩:=r.row_cells ho
   by_cases he:Gu st.o x=[]
   ·obtain⟨A',c',rfl,_⟩:=hs
    obtain⟨q1,q2⟩:=r.flag ho (fr':=fr&&Qh st.o x) (fz':=false) (fun e=>by simp only[Ah] at e;exact .inl e.1) fun e=>rfl
    simp only[he,Km,List.length_nil,Nat.add_zero]
    exact⟨_,_,_,P4 w t ty _ i (Ft h1) hi A m c hmc A' c',rfl,q1,(Ea.sub id n lo m _ h).step q2⟩
   have hpos:0<(Gu st.o x).length:=List.length_pos_iff.2 he
   obtain⟨xb,xo,xc,news,rfl,n1,n2,n3,n4⟩:=hs.news hk w rfl he
   obtain⟨_,_,_,_,helx,_⟩:=hs
   rcases hA with hA | ⟨b,hb,rfl⟩
   ·omega
   have hb:β id=some b:=hb
   rcases hcell with⟨hb',_⟩ | ⟨b',cur,cc,hb',g1,g2,g3,g4,g5⟩
   ·rw[hb'] at hb;cases hb
   rw[hb'] at hb
   injection hb with hb
   subst hb
   obtain⟨hfit,hrel⟩:=Afj r (lo:=lo+m) (fr2:=Qh st.o x) (ns:=Gu st.o x) ho hb' g1 n1 helx n4 (by omega)
   have hrun:=Aft (P:=P) w t ty _ i (Ft h1) hi b' (lo*Gg P (Eb P t)) m c cur ty' g1 ⟨xb,xo,none⟩ _ xc news (by rw[hsz];exact n1) n2 n3 (by omega) (by rw[hsz,<- Be];exact hfit)
   rw[hsz,<- Be] at hrun
   refine⟨_,_,_,hrun,rfl,hrel,?_⟩
   refine .sub _ _ _ _ _ ⟨rfl,ty',_,_,false,_,by show (st.set _ _).o _=_;rw[St.set_o,if_pos rfl],by rw[Fr];omega,fun e=>⟨by rw[Fr];omega,_,_,rfl,by omega,by rw[Fr];exact hec,.inr ⟨b',hb',rfl⟩⟩⟩
def Abh (P:Program) (t:TypeId) (dst src:AV) (o:Nat->Ob) (nid:Nat):Lz :=
 match dst with
 | .sub id n lo m=>Q4 P t id n lo m src o
 | v=>Na P t v src o nid
theorem Az5 (r:Es E β st a w) {nid:Nat} {d x:AV} (hn:(∃k,d=.nil k)->st.o nid=.gone) (hd:Ea (E.C β st w) d ud) (hx:Ea (E.C β st w) x ux) (hc:(Abh P t d x st.o nid).c) :
 ∃u w' β' id o,(Builtin.append_ #[t,t] ty #[ud,ux]).run P w=.ok u w'/\(Abh P t d x st.o nid).up=[(id,o)]/\Es E β' (st.set id o) a w'/\Ea (E.C β' (st.set id o) w') (Abh P t d x st.o nid).v u:=by
 unfold Abh at hc ⊢
 split at hc
 ·rename_i id n lo m
  obtain⟨u,w',o,h1,h2,h3,h4⟩:=Apz (ty:=ty) r hd hx hc
  exact⟨u,w',β,id,o,h1,h2,h3,h4⟩
 exact As8 r hn hd hx hc
def Lt (P:Program) (t:TypeId) (id n lo m:Nat) (o:Nat->Ob):Lz :=
 match o id with
 | .row ty k fr fz es=>⟨.tup [],[(id,.row ty k fr false (Km es lo (List.replicate m ((Hk P (Eb P t)).map AV.toT))))],
  Hv P t=true/\zok P (Eb P t)=true/\k=Gg P (Eb P t)/\fz=false/\n=es.length/\lo+m<=n⟩
 | _=>.bad
def Pw (P:Program) (t:TypeId) (x:AV) (o:Nat->Ob):Lz :=
 match x with
 | .own id n=>Lt P t id n 0 n o
 | .sub id n lo m=>Lt P t id n lo m o
 | _=>.bad
theorem Aoo {t:TypeId} {i:TypeInfo} {z:Value} (hi:P.info? t=some i) (hz:i.zero=some z) {j:Nat} {q:AV} (hq:(Hk P t)[j]? = some q) (hj2:j<z.cells.size):q.fresh=true:=by
 have:q=Zt z.cells[j] ((U7 P 10 t).getD j 0):=by
  have e:M4 P t=z.cells.toList:=by simp[M4,hi,hz]
  simp only[Hk,e,List.getElem?_zipWith] at hq
  have hu':z.cells.toList[j]? = some z.cells[j]:=by simp
  rw[hu'] at hq
  cases hk:(U7 P 10 t)[j]? with
  | none=>rw[hk] at hq;simp at hq
  | some k=>rw[hk] at hq;simp at hq;rw[Ad,hk];exact hq.symm
 rw[this]
 unfold Zt
 split<;>rfl
theorem An1 (r:Es E β st a w) {ud:Value} (hd:∀ty k fr fz es,st.o id=.row ty k fr fz es->n=es.length->lo+m<=n->∃A c,ud=.slice A m c/\(m=0\/∃b,β id=some b/\A=some ⟨b,lo*k,none⟩)) (hc:(Lt P t id n lo m st.o).c) :
 ∃u w' o,(Builtin.clear_ #[t] ty #[ud]).run P w=.ok u w'/\(Lt P t id n lo m st.o).up=[(id,o)]/\Es E β (st.set id o) a w'/\Ea (E.C β (st.set id o) w') (Lt P t id n lo m st.o).v u:=by
 unfold Lt at hc ⊢
 cases ho:st.o id with
 | gone=>rw[ho] at hc;exact hc.elim
 | box ty cs=>rw[ho] at hc;exact hc.elim
 | row ty' k fr fz es =>
  rw[ho] at hc
  obtain⟨h1,h2,rfl,rfl,h6,h7⟩:=hc
  obtain⟨A,c,rfl,hA⟩:=hd _ _ _ _ _ ho h6 h7
  obtain⟨hk,hel,hcell⟩:=r.row_cells ho
  obtain⟨i,z,hi,hz,hsz,hzs,htl,hzc⟩:=Qf h2
  have htup:∀C:VC,Ea C (.tup []) (.tuple #[]):=fun C=>.tup [] #[] rfl fun i c u h=>by simp at h
  rcases hA with hm | ⟨b,hb,rfl⟩
  ·subst hm
   obtain⟨q1,q2⟩:=r.flag ho (fr':=fr) (fz':=false) (fun e=>.inl e) fun e=>rfl
   simp only[List.replicate_zero,Km]
   refine⟨_,_,_,?_,rfl,q1,htup _⟩
   cases A<;>simp[Builtin.clear_,run_underlying (Ft h1)]
  by_cases hm:m=0
  ·subst hm
   obtain⟨q1,q2⟩:=r.flag ho (fr':=fr) (fz':=false) (fun e=>.inl e) fun e=>rfl
   simp only[List.replicate_zero,Km]
   refine⟨_,_,_,?_,rfl,q1,htup _⟩
   simp[Builtin.clear_,run_underlying (Ft h1)]
  rcases hcell with⟨hb',_⟩ | ⟨b',cur,cc,hb',g1,g2,g3,g4,g5⟩
  ·rw[hb'] at hb;cases hb
  rw[hb'] at hb
  injection hb with hb
  subst hb
  have hzl:(Builtin.zeroCells z.cells m).toList.length=m*Gg P (Eb P t):=by simp[Builtin.zeroCells,hzs]
  have hns:(List.replicate m ((Hk P (Eb P t)).map AV.toT)).length=m:=List.length_replicate
  obtain⟨hfit,hrel⟩:=Afj r (lo:=lo) (fr2:=true) (ns:=List.replicate m ((Hk P (Eb P t)).map AV.toT)) (news:=(Builtin.zeroCells z.cells m).toList) ho hb' g1 (by rw[hns];exact hzl)
   (fun i e he=>by rw[List.getElem?_replicate] at he;split at he<;>simp at he;rw[<- he,A2,htl]) (fun i' e j x he hx=>by
    rw[List.getElem?_replicate] at he
    split at he
    ·rename_i hlt
     simp at he
     subst he
     rw[Ap] at hx
     cases hq:(Hk P (Eb P t))[j]? with
     | none=>rw[hq] at hx;cases hx
     | some q =>
      rw[hq] at hx
      simp only[Ai,Option.some.injEq] at hx
      subst hx
      have hj:j<Gg P (Eb P t):=by rw[<- htl];exact (Ab.1 hq).1
      have hj2:j<z.cells.size:=by omega
      obtain⟨k1,k2,k3⟩:=hzc j q z.cells[j] hq (Al hj2)
      refine⟨z.cells[j],?_,(k1 (E.C β st w)).toT k3 fun _=>Aoo hi hz hq hj2⟩
      have hlt2:i'*Gg P (Eb P t)+j<m*z.cells.size:=by
       rw[hzs]
       have:=A1 (Gg P (Eb P t)) (show i'+1<=m by omega)
       rw[Be] at this;omega
      have hmod:(i'*Gg P (Eb P t)+j) % z.cells.size=j:=by rw[hzs,Nat.mul_comm,Nat.mul_add_mod,Nat.mod_eq_of_lt hj]
      simp only[Builtin.zeroCells]
      rw[Array.getElem?_toList,Array.getElem?_map,Array.getElem?_range,if_pos hlt2]
      simp only[Ai,hmod]
      rw[getElem!_pos z.cells j hj2]
    cases he) (by rw[hns];omega)
  rw[Bool.and_true] at hrel
  have hone:∀v∈(Builtin.zeroCells z.cells m).toList,v.oneCell'=true:=fun v hv=>by
   simp only[Builtin.zeroCells,Array.toList_map,A4] at hv
   obtain⟨j,hj,rfl⟩:=hv
   have hj:j<m*z.cells.size:=by simpa using hj
   have hzp:0<z.cells.size:=by
    rcases Nat.eq_zero_or_pos z.cells.size with e | e
    ·rw[e] at hj;omega
    exact e
   have hj2:j % z.cells.size<z.cells.size:=Nat.mod_lt _ hzp
   rw[getElem!_pos z.cells _ hj2]
   have hq:=Aa (l:=Hk P (Eb P t)) (i:=j % z.cells.size) (by omega)
   exact (hzc _ _ _ hq (Al hj2)).2.1
  have hst:=run_storeCells_at P b' (lo*Gg P (Eb P t)) ty' (Builtin.zeroCells z.cells m).toList 0 cur w g1 (by simpa using hfit) hone
  simp only[Nat.add_zero] at hst
  obtain⟨m',rfl⟩:∃m',m=m'+1:=⟨m - 1,by omega⟩
  refine⟨_,_,_,?_,rfl,hrel,htup _⟩
  simp[Builtin.clear_,run_underlying (Ft h1),zeroValue,typeInfo,hi,hz,hst]
theorem Av8 (r:Es E β st a w) {d:AV} {ud:Value} (hd:Ea (E.C β st w) d ud) (hc:(Pw P t d st.o).c) :
 ∃u w' id o,(Builtin.clear_ #[t] ty #[ud]).run P w=.ok u w'/\(Pw P t d st.o).up=[(id,o)]/\Es E β (st.set id o) a w'/\Ea (E.C β (st.set id o) w') (Pw P t d st.o).v u:=by
 cases hd with
 | own id n u h =>
  obtain⟨u,w',o,h1⟩:=An1 (P:=P) (t:=t) (ty:=ty) r (ud:=ud) (fun ty k fr fz es ho hn hm=>by
   rcases r.own_val ho h hn with⟨_,he,A,rfl⟩ | ⟨b,cur,c,hb,_,_,_,_,rfl,_⟩
   ·subst he
    exact⟨A,0,by rw[hn];rfl,.inl hn⟩
   exact⟨_,c,by rw[hn],.inr ⟨b,hb,by rw[Nat.zero_mul]⟩⟩) (show (Lt P t id n 0 n st.o).c from hc)
  exact⟨u,w',id,o,h1⟩
 | sub id n lo m u h =>
  obtain⟨u,w',o,h1⟩:=An1 (P:=P) (t:=t) (ty:=ty) r (ud:=ud) (fun ty k fr fz es ho hn hm=>by
   obtain⟨_,ty',k',fr',fz',es',ho',_,h5⟩:=h
   have ho':st.o id=_:=ho'
   rw[ho] at ho'
   injection ho' with e1 e2 e3 e4 e5
   subst e1 e2 e3 e4 e5
   obtain⟨_,A,c,rfl,hmc,_,h8⟩:=h5 hn
   exact⟨A,c,rfl,h8.elim (fun e=>.inl (by omega)) .inr⟩) (show (Lt P t id n lo m st.o).c from hc)
  exact⟨u,w',id,o,h1⟩
 | _=>simp[Pw,Lz.bad] at hc
end
section
variable {P:Program}
theorem Q9 (t:TypeId):P.elem t=Eb P t:=rfl
def tpl (P:Program) (t:TypeId):List (Nat×Nat):=match P.underlying t with
 | some (.struct fs)=>fs.toList.map fun f=>(f.offset,Gg P f.type)
 | some (.array n e)=>(List.range n).map fun i=>(i*Gg P e,Gg P e)
 | _=>[]
def R2 (P:Program) (t:TypeId):Bool:=match P.underlying t with
 | some (.struct fs)=>fs.all fun f=>tok P f.type
 | _=>false
def Ao5 (P:Program) (t:TypeId):Option Nat:=match P.underlying t with
 | some (.array n _)=>some n
 | _=>none
variable {t:TypeId}
theorem Acr (h:R2 P t=true):∃fs,P.underlying t=some (.struct fs)/\(∀f∈fs,tok P f.type=true)/\tpl P t=fs.toList.map fun f=>(f.offset,Gg P f.type):=by
 unfold R2 at h
 split at h
 ·rename_i fs he
  exact⟨fs,he,fun f hf=>by simpa using (Array.all_eq_true'.1 h) f hf,by simp[tpl,he]⟩
 cases h
def Pv (P:Program) (s:TypeId) (x:AV) (f:Nat) (o:Nat->Ob):Lz :=
 let c:=R2 P s=true/\f<(tpl P s).length/\((tpl P s).getD f (0,0)).2≠0
 let d:=((tpl P s).getD f (0,0)).1
 match x with
 | .ptr id off=>⟨.ptr id (off+d),[],c⟩
 | .rptr id n i off=>⟨.rptr id n i (off+d),[],n=(Lc (o id)).length/\c⟩
 | .iptr fr cs off=>⟨.iptr fr cs (off+d),[],c⟩
 | _=>.bad
variable {w:World} {u:Value}
theorem Av1 {C:VC} {s:TypeId} {x:AV} {f:Nat} (hx:Ea C x u) (hc:(Pv P s x f C.ob).c) :
 ∃v,(Instr.fieldAt s u f).run P w=.ok v w/\Ea C (Pv P s x f C.ob).v v/\(Pv P s x f C.ob).up=[]:=by
 have hrun:∀b off,(R2 P s=true/\f<(tpl P s).length/\((tpl P s).getD f (0,0)).2≠0)->(Instr.fieldAt s (.pointer (some ⟨b,off,none⟩)) f).run P w=.ok (.pointer (some ⟨b,off+((tpl P s).getD f (0,0)).1,none⟩)) w:=by
  rintro b off ⟨h1,h2,h3⟩
  obtain⟨fs,hu,hk,hp⟩:=Acr h1
  rw[hp] at h2 h3 ⊢
  rw[A2] at h2
  have hf:fs[f]? = some fs[f]:=by simp
  have hg:((fs.toList.map fun f=>(f.offset,Gg P f.type)).getD f (0,0))=(fs[f].offset,Gg P fs[f].type):=by
   rw[Ad,Ap];simp[hf]
  rw[hg] at h3 ⊢
  simp only[Instr.fieldAt,Sem.run_bind,run_underlying hu,Result.andThen_ok,hf,Instr.sureAddr,Sem.run_pure,fieldPlace,L8 (hk _ (Array.getElem_mem _)),h3,if_false,Addr.add_lit]
 cases hx with
 | ptr id off u h =>
  obtain⟨ty,cs,b,ho,hb,rfl⟩:=h
  exact⟨_,hrun b off hc,.ptr _ _ _ ⟨ty,cs,b,ho,hb,rfl⟩,rfl⟩
 | rptr id n i off u h =>
  obtain⟨h0,ty,k,fr,fz,es,ho,hn,hu⟩:=h
  obtain⟨e,hc⟩:=hc
  rw[ho] at e
  obtain⟨b,hb,rfl⟩:=hu e
  exact⟨_,hrun b _ hc,.rptr _ _ _ _ _ ⟨rfl,ty,k,fr,fz,es,ho,hn,fun _=>⟨b,hb,by rw[Af]⟩⟩,rfl⟩
 | iptr fr cs off b o cur ty fz us h1 h2 h3 =>
  refine⟨_,hrun b _ hc,?_,rfl⟩
  have:=Ea.iptr (C:=C) fr cs (off+((tpl P s).getD f (0,0)).1) b o cur ty fz us h1 h2 h3
  rw[<- Af] at this
  exact this
 | _=>simp[Pv,Lz.bad] at hc
def Pu (P:Program) (t:TypeId) (x ix:AV) (o:Nat->Ob):Lz :=
 let i:=(Fw ix).toNat
 match x with
 | .imm fr k es=>⟨.iptr fr (es.getD i []) 0,[],N8 ix=true/\Hv P t=true/\tok P (Eb P t)=true/\k=Gg P (Eb P t)/\0<=Fw ix/\Fw ix<es.length⟩
 | .own id n=>⟨.rptr id n i 0,[],N8 ix=true/\Hv P t=true/\tok P (Eb P t)=true/\F7 (o id)=true/\Sw (o id)=Gg P (Eb P t)/\n=(Lc (o id)).length/\0<=Fw ix/\Fw ix<n⟩
 | .sub id n lo m=>⟨.rptr id n (lo+i) 0,[],N8 ix=true/\Hv P t=true/\tok P (Eb P t)=true/\F7 (o id)=true/\Sw (o id)=Gg P (Eb P t)/\n=(Lc (o id)).length/\0<=Fw ix/\Fw ix<m⟩
 | .bsl id n=>⟨.ptr id (i*Gg P (Eb P t)),[],N8 ix=true/\Hv P t=true/\tok P (Eb P t)=true/\0<=Fw ix/\Fw ix<n⟩
 | .ptr id off=>⟨.ptr id (off+i*Gg P (Eb P t)),[],N8 ix=true/\tok P (Eb P t)=true/\0<=Fw ix/\∃m,Ao5 P t=some m/\Fw ix<m⟩
 | .iptr fr cs off=>⟨.iptr fr cs (off+i*Gg P (Eb P t)),[],N8 ix=true/\tok P (Eb P t)=true/\0<=Fw ix/\∃m,Ao5 P t=some m/\Fw ix<m⟩
 | _=>.bad
variable {k:IntKind}
theorem Qj (h1:Hv P t=true) (h2:tok P (Eb P t)=true) {b off n c:Nat} {i:Int} (h3:0<=i) (h4:i<n) :
 (Instr.indexAt t (.slice (some ⟨b,off,none⟩) n c) (.int k i)).run P w=.ok (.pointer (some ⟨b,off+i.toNat*Gg P (Eb P t),none⟩)) w:=by
 rw[run_indexAt_slice w t _ n c k i (Ft h1),if_pos ⟨h3,h4⟩,Q9,L8 h2,Result.andThen_ok,Addr.add_lit]
theorem Afi {m:Nat} (h:Ao5 P t=some m):P.underlying t=some (.array m (Eb P t)):=by
 unfold Ao5 at h
 unfold Eb
 split at h
 ·rename_i n e he
  injection h with h
  subst h
  rw[he]
 cases h
theorem Yk {m:Nat} (h1:Ao5 P t=some m) (h2:tok P (Eb P t)=true) {b off:Nat} {i:Int} (h3:0<=i) (h4:i<m) :
 (Instr.indexAt t (.pointer (some ⟨b,off,none⟩)) (.int k i)).run P w=.ok (.pointer (some ⟨b,off+i.toNat*Gg P (Eb P t),none⟩)) w:=by
 have hl:P.arrayLen t=m:=by simp[Program.arrayLen,Afi h1]
 rw[run_indexAt_array w t _ k i (by rw[hl,Q9];exact Afi h1),hl,if_pos ⟨h3,h4⟩,Q9,L8 h2,Result.andThen_ok,Addr.add_lit]
variable {β:Nat->Option Nat}
theorem Avr {E:Gp} {st:St} {a:Act} (r:Es E β st a w) {x ix:AV} {u ui:Value} (hx:Ea (E.C β st w) x u) (hi:Ea (E.C β st w) ix ui) (hc:(Pu P t x ix st.o).c) :
 ∃v,(Instr.indexAt t u ui).run P w=.ok v w/\Ea (E.C β st w) (Pu P t x ix st.o).v v/\(Pu P t x ix st.o).up=[]:=by
 cases hx with
 | imm fr k es u h =>
  obtain⟨c1,c2,c3,c4,c5,c6⟩:=hc
  obtain⟨kk,rfl⟩:=Im c1 hi
  cases h with
  | nil k A c=>simp at c6;omega
  | sl k es b off c cur ty fz us h1 h2 h3 h4 h5 h6 =>
   refine⟨_,Qj c2 c3 c5 c6,?_,rfl⟩
   have he:es[(Fw ix).toNat]? = some (es.getD (Fw ix).toNat []):=by rw[Ad,Aa (by omega)];rfl
   have:=Ea.iptr (C:=E.C β st w) fr (es.getD (Fw ix).toNat []) 0 b (off+(Fw ix).toNat*k) cur ty fz (us (Fw ix).toNat) h1 h2 fun j x hx=>⟨h5 _ _ j x he hx,h6 _ _ j x he hx⟩
   rw[Nat.add_zero] at this
   rw[<- c4]
   exact this
 | own id n u h =>
  obtain⟨c1,c2,c3,c4,c5,c6,c7,c8⟩:=hc
  obtain⟨kk,rfl⟩:=Im c1 hi
  obtain⟨ty,fz,ho⟩:=Kl c4
  rcases r.own_val ho h c6 with⟨_,he,_⟩ | ⟨b,cur,c,hb,g1,g2,g3,g4,rfl,g5⟩
  ·rw[he] at c6;simp at c6;omega
  refine⟨_,Qj c2 c3 c7 (by rw[<- c6];exact c8),?_,rfl⟩
  refine .rptr _ _ _ _ _ ⟨rfl,ty,_,_,fz,_,ho,by omega,fun _=>⟨b,hb,?_⟩⟩
  rw[Bm,Nat.add_zero,c5]
 | sub id n lo m u h =>
  obtain⟨c1,c2,c3,c4,c5,c6,c7,c8⟩:=hc
  obtain⟨kk,rfl⟩:=Im c1 hi
  obtain⟨ty,fz,ho⟩:=Kl c4
  obtain⟨_,ty',k',fr',fz',es',ho',_,h5⟩:=h
  have ho':st.o id=_:=ho'
  rw[ho] at ho'
  injection ho' with e1 e2 e3 e4 e5
  subst e1 e2 e3 e4 e5
  obtain⟨h6,A,c,rfl,h7,_,h8⟩:=h5 c6
  rcases h8 with h8 | ⟨b,hb,rfl⟩
  ·omega
  refine⟨_,Qj c2 c3 c7 c8,?_,rfl⟩
  refine .rptr _ _ _ _ _ ⟨rfl,ty,_,_,fz,_,ho,by omega,fun _=>⟨b,hb,?_⟩⟩
  rw[Nat.add_zero,c5,Be]
 | bsl id n u h =>
  obtain⟨c1,c2,c3,c5,c6⟩:=hc
  obtain⟨kk,rfl⟩:=Im c1 hi
  obtain⟨ty,cs,b,c,ho,hb,rfl,hle⟩:=h
  refine⟨_,Qj c2 c3 c5 c6,?_,rfl⟩
  exact .ptr _ _ _ ⟨ty,cs,b,ho,hb,by rw[Bm]⟩
 | ptr id off u h =>
  obtain⟨c1,c3,c5,m,c4,c6⟩:=hc
  obtain⟨kk,rfl⟩:=Im c1 hi
  obtain⟨ty,cs,b,ho,hb,rfl⟩:=h
  exact⟨_,Yk c4 c3 c5 c6,.ptr _ _ _ ⟨ty,cs,b,ho,hb,rfl⟩,rfl⟩
 | iptr fr cs off b o cur ty fz us h1 h2 h3 =>
  obtain⟨c1,c3,c5,m,c4,c6⟩:=hc
  obtain⟨kk,rfl⟩:=Im c1 hi
  refine⟨_,Yk c4 c3 c5 c6,?_,rfl⟩
  have:=Ea.iptr (C:=E.C β st w) fr cs (off+(Fw ix).toNat*Gg P (Eb P t)) b o cur ty fz us h1 h2 h3
  rw[<- Af] at this
  exact this
 | _=>simp[Pu,Lz.bad] at hc
def Rj:Option AV->Int
 | some v=>Fw v
 | none=>0
def S0 (n:Nat):Option AV->Int
 | some v=>Fw v
 | none=>n
def Iq (P:Program) (t:TypeId) (x:AV) (lo hi:Option AV) (o:Nat->Ob):Lz :=
 let ok:=(∀v,lo=some v->N8 v=true)/\(∀v,hi=some v->N8 v=true)/\Hv P t=true/\tok P (Eb P t)=true
 match x with
 | .nil k=>⟨.nil k,[],ok/\Rj lo=0/\S0 0 hi=0⟩
 | .imm fr k es=>⟨.imm fr k ((es.take (S0 es.length hi).toNat).drop (Rj lo).toNat),[],ok/\k=Gg P (Eb P t)/\0<=Rj lo/\Rj lo<=S0 es.length hi/\S0 es.length hi<=es.length⟩
 | .own id n=>⟨.sub id n (Rj lo).toNat ((S0 n hi).toNat - (Rj lo).toNat),[],ok/\F7 (o id)=true/\Sw (o id)=Gg P (Eb P t)/\n=(Lc (o id)).length/\0<=Rj lo/\Rj lo<=S0 n hi/\S0 n hi<=n⟩
 | .sub id n a m=>⟨.sub id n (a+(Rj lo).toNat) ((S0 m hi).toNat - (Rj lo).toNat),[],ok/\F7 (o id)=true/\Sw (o id)=Gg P (Eb P t)/\n=(Lc (o id)).length/\0<=Rj lo/\Rj lo<=S0 m hi/\S0 m hi<=m⟩
 | _=>.bad
variable {lo hi:Option AV} {ulo uhi:Option Value}
theorem Kh (h1:Hv P t=true) (h2:tok P (Eb P t)=true) {A:Option Addr} {n c:Nat} (hnc:n<=c) {C:VC} (hlo:∀v,lo=some v->N8 v=true/\∃u,ulo=some u/\Ea C v u) (hlo':lo=none->ulo=none) (hhi:∀v,hi=some v->N8 v=true/\∃u,uhi=some u/\Ea C v u) (hhi':hi=none->uhi=none) (h3:0<=Rj lo) (h4:(Rj lo)<=(S0 n hi)) (h5:(S0 n hi)<=n) :
  (Instr.sliceAt t (.slice A n c) ulo uhi none).run P w=.ok (sliced A (Rj lo).toNat (S0 n hi).toNat c (Gg P (Eb P t))) w:=by
 have ht:=Ft h1
 rw[run_sliceAt_slice w t _ _ _ _ ht]
 cases lo with
 | none =>
  have:=hlo' rfl
  subst this
  cases hi with
  | none =>
   have:=hhi' rfl
   subst this
   rw[run_slice_all w t A n c ht,Q9,L8 h2];rfl
  | some v =>
   obtain⟨e1,u,rfl,e2⟩:=hhi v rfl
   obtain⟨k,rfl⟩:=Im e1 e2
   simp only[Rj,S0] at h3 h4 h5 ⊢
   rw[run_slice_h w t A n c ht k _ (by omega) (by omega),Q9,L8 h2];rfl
 | some v =>
  obtain⟨e1,u,rfl,e2⟩:=hlo v rfl
  obtain⟨k,rfl⟩:=Im e1 e2
  cases hi with
  | none =>
   have:=hhi' rfl
   subst this
   simp only[Rj,S0] at h3 h4 h5 ⊢
   rw[run_slice_l w t A n c ht k _ h3 (by omega),Q9,L8 h2];rfl
  | some v2 =>
   obtain⟨e3,u,rfl,e4⟩:=hhi v2 rfl
   obtain⟨k2,rfl⟩:=Im e3 e4
   simp only[Rj,S0] at h3 h4 h5 ⊢
   rw[run_slice_lh w t A n c ht k k2 _ _ h3 (by omega) (by omega),Q9,L8 h2];rfl
theorem Auh {E:Gp} {st:St} {a:Act} (r:Es E β st a w) {x:AV} (hx:Ea (E.C β st w) x u) (hlo:∀v,lo=some v->∃u,ulo=some u/\Ea (E.C β st w) v u) (hlo':lo=none->ulo=none) (hhi:∀v,hi=some v->∃u,uhi=some u/\Ea (E.C β st w) v u) (hhi':hi=none->uhi=none) (hc:(Iq P t x lo hi st.o).c) :
  ∃v,(Instr.sliceAt t u ulo uhi none).run P w=.ok v w/\Ea (E.C β st w) (Iq P t x lo hi st.o).v v/\(Iq P t x lo hi st.o).up=[]:=by
 cases hx with
 | nil k A =>
  obtain⟨⟨c1,c2,c3,c4⟩,c5,c6⟩:=hc
  refine⟨_,Kh c3 c4 (Aj 0) (fun v e=>⟨c1 v e,hlo v e⟩) hlo' (fun v e=>⟨c2 v e,hhi v e⟩) hhi' (by omega) (by omega) (by omega),?_,rfl⟩
  rw[c5,c6]
  exact .nil _ _
 | imm fr k es u h =>
  obtain⟨⟨c1,c2,c3,c4⟩,rfl,c5,c6,c7⟩:=hc
  cases h with
  | nil k A c =>
   have a1:=c7
   simp only[List.length_nil] at c5 c6 c7
   refine⟨_,Kh c3 c4 (Ae c) (fun v e=>⟨c1 v e,hlo v e⟩) hlo' (fun v e=>⟨c2 v e,hhi v e⟩) hhi' c5 c6 c7,?_,rfl⟩
   simp only[Iq,List.take_nil,List.drop_nil,sliced]
   refine .imm _ _ _ _ ?_
   have e0:(S0 0 hi).toNat - (Rj lo).toNat=0:=by omega
   rw[e0]
   exact .nil _ _ _
  | sl k es b off c cur ty fz us h1 h2 h3 h4 h5 h6 =>
   refine⟨_,Kh c3 c4 h3 (fun v e=>⟨c1 v e,hlo v e⟩) hlo' (fun v e=>⟨c2 v e,hhi v e⟩) hhi' c5 c6 c7,?_,rfl⟩
   simp only[Iq]
   generalize hL:Rj lo=L at c5 c6 c7 ⊢
   generalize hH:S0 es.length hi=H at c5 c6 c7 ⊢
   refine .imm _ _ _ _ ?_
   have hlen:((es.take H.toNat).drop L.toNat).length=H.toNat - L.toNat:=by rw[Bc,A5];omega
   have hget:∀(i:Nat) (e:List T),((es.take H.toNat).drop L.toNat)[i]? = some e->es[L.toNat+i]? = some e:=fun i e he=>by
    have hi:i<H.toNat - L.toNat:=by rw[<- hlen];exact (Ab.1 he).1
    rw[Bd,Ag (by omega)] at he
    exact he
   unfold sliced
   rw[<- hlen]
   by_cases hcl:c=L.toNat
   ·have:(es.take H.toNat).drop L.toNat=[]:=List.eq_nil_of_length_eq_zero (by omega)
    rw[this]
    exact .nil _ _ _
   rw[if_neg hcl]
   simp only[Ai,Addr.add_lit]
   refine .sl _ _ b _ _ cur ty fz (fun i j=>us (L.toNat+i) j) h1 h2 (by omega) (fun i e he=>h4 _ e (hget i e he)) (fun i e j x he hx=>?_) (fun i e j x he hx=>h6 _ e j x (hget i e he) hx)
   rw[<- h5 _ e j x (hget i e he) hx]
   congr 1
   rw[Be]
   omega
 | own id n u h =>
  obtain⟨⟨c1,c2,c3,c4⟩,c8,c9,c10,c5,c6,c7⟩:=hc
  obtain⟨ty,fz,ho⟩:=Kl c8
  have hval:∃A c,u=.slice A n c/\n<=c/\(c=0\/∃b,β id=some b/\A=some ⟨b,0,none⟩):=by
   rcases r.own_val ho h c10 with⟨_,e,A,rfl⟩ | ⟨b,cur,c,hb,_,_,g3,_,rfl,_⟩
   ·rw[e] at c10
    exact⟨A,0,by rw[c10];rfl,by rw[c10];exact Aj _,.inl rfl⟩
   exact⟨_,c,by rw[<- c10],by omega,.inr ⟨b,hb,rfl⟩⟩
  obtain⟨A,c,rfl,hnc,hA⟩:=hval
  refine⟨_,Kh c3 c4 hnc (fun v e=>⟨c1 v e,hlo v e⟩) hlo' (fun v e=>⟨c2 v e,hhi v e⟩) hhi' c5 c6 c7,?_,rfl⟩
  simp only[Iq]
  generalize hL:Rj lo=L at c5 c6 c7 ⊢
  generalize hH:S0 n hi=H at c5 c6 c7 ⊢
  unfold sliced
  refine .sub _ _ _ _ _ ⟨rfl,ty,_,_,fz,_,ho,by omega,fun _=>⟨by omega,_,_,rfl,by omega,by omega,?_⟩⟩
  by_cases h0:c=L.toNat
  ·exact .inl (by omega)
  rcases hA with hA | ⟨b,hb,rfl⟩
  ·exact .inl (by omega)
  refine .inr ⟨b,hb,?_⟩
  rw[if_neg h0]
  simp only[Ai,Addr.add_lit,Bm,c9]
 | sub id n lo' m u h =>
  obtain⟨⟨c1,c2,c3,c4⟩,c8,c9,c10,c5,c6,c7⟩:=hc
  obtain⟨ty,fz,ho⟩:=Kl c8
  obtain⟨_,ty',k',fr',fz',es',ho',_,h5⟩:=h
  have ho':st.o id=_:=ho'
  rw[ho] at ho'
  injection ho' with e1 e2 e3 e4 e5
  subst e1 e2 e3 e4 e5
  obtain⟨h6,A,c,rfl,hnc,hes,hA⟩:=h5 c10
  refine⟨_,Kh c3 c4 hnc (fun v e=>⟨c1 v e,hlo v e⟩) hlo' (fun v e=>⟨c2 v e,hhi v e⟩) hhi' c5 c6 c7,?_,rfl⟩
  simp only[Iq]
  generalize hL:Rj lo=L at c5 c6 c7 ⊢
  generalize hH:S0 m hi=H at c5 c6 c7 ⊢
  unfold sliced
  refine .sub _ _ _ _ _ ⟨rfl,ty,_,_,fz,_,ho,by omega,fun _=>⟨by omega,_,_,rfl,by omega,by omega,?_⟩⟩
  by_cases h0:c=L.toNat
  ·exact .inl (by omega)
  rcases hA with hA | ⟨b,hb,rfl⟩
  ·exact .inl (by omega)
  refine .inr ⟨b,hb,?_⟩
  rw[if_neg h0]
  simp only[Ai,Addr.add_lit,c9,Be]
 | _=>simp[Iq,Lz.bad] at hc
end
section
variable {P:Program}
theorem Ai5 (off:Nat):∀(vs:List Value) (n:Nat) (cs:Array Value) (p:Nat),off+n+vs.length<=cs.size->((vs.zipIdx n).foldl (fun (cs:Array Value) (x:Value×Nat)=>cs.setIfInBounds (off+x.2) x.1) cs)[p]? = if off+n<=p/\p<off+n+vs.length then vs[p - (off+n)]? else cs[p]?
 | [],n,cs,p,_=>by simp;omega
 | v::vs,n,cs,p,h=>by
  simp only[A6] at h
  rw[List.zipIdx_cons,List.foldl_cons,Ai5 off vs (n+1) _ p (by simp;omega)]
  simp only[A6]
  by_cases h1:off+(n+1)<=p/\p<off+(n+1)+vs.length
  ·rw[if_pos h1,if_pos (by omega),show p - (off+n)=(p - (off+(n+1)))+1 by omega,Bb]
  rw[if_neg h1,Array.getElem?_setIfInBounds]
  by_cases h2:off+n=p
  ·subst h2
   rw[if_pos rfl,if_pos (by omega),if_pos (by omega)];simp
  rw[if_neg h2,if_neg (by omega)]
theorem Agg (off:Nat):∀(vs:List Value) (n:Nat) (cs:Array Value),((vs.zipIdx n).foldl (fun (cs:Array Value) (x:Value×Nat)=>cs.setIfInBounds (off+x.2) x.1) cs).size=cs.size
 | [],n,cs=>rfl
 | v::vs,n,cs=>by rw[List.zipIdx_cons,List.foldl_cons,Agg off vs];simp
theorem Anw (off:Nat) (v cs:Array Value) (h:off+v.size<=cs.size):(v.zipIdx.foldl (fun (cs:Array Value) (x:Value×Nat)=>cs.setIfInBounds (off+x.2) x.1) cs).size=cs.size /\
 ∀p,(v.zipIdx.foldl (fun (cs:Array Value) (x:Value×Nat)=>cs.setIfInBounds (off+x.2) x.1) cs)[p]? = if off<=p/\p<off+v.size then v[p - off]? else cs[p]?:=by
 have e:v.zipIdx.foldl (fun (cs:Array Value) (x:Value×Nat)=>cs.setIfInBounds (off+x.2) x.1) cs=(v.toList.zipIdx 0).foldl (fun (cs:Array Value) (x:Value×Nat)=>cs.setIfInBounds (off+x.2) x.1) cs:=by
  rw[<- Array.foldl_toList];simp
 rw[e]
 refine⟨Agg off _ 0 cs,fun p=>?_⟩
 rw[Ai5 off v.toList 0 cs p (by simpa using h)]
 simp
def Ac7 (pl:List (Nat×Nat)) (cs:List AV):List (Nat×AV)->List AV
 | []=>cs
 | p::ps=>Ac7 pl (Km cs (pl.getD p.1 (0,0)).1 p.2.cl) ps
def Ard (pl:List (Nat×Nat)) (n:Nat):List (Nat×AV)->Prop
 | []=>True
 | p::ps=>(p.1<pl.length/\(pl.getD p.1 (0,0)).2=p.2.cl.length/\(pl.getD p.1 (0,0)).1+p.2.cl.length<=n/\∀c∈p.2.cl,c.one=true)/\Ard pl n ps
theorem Aaw (pl:List (Nat×Nat)):∀(ps:List (Nat×AV)) (cs:List AV),(Ac7 pl cs ps).length=cs.length
 | [],_=>rfl
 | p::ps,cs=>by rw[Ac7,Aaw pl ps,Fr]
inductive Rn (C:VC):List (Nat×AV)->List (Nat×Value)->Prop
  | nil:Rn C [] []
  | cons {i:Nat} {v:AV} {u:Value} {ps:List (Nat×AV)} {us:List (Nat×Value)}:Ea C v u->Rn C ps us->Rn C ((i,v)::ps) ((i,u)::us)
theorem Akz {C:VC} {pl:List (Nat×Nat)} {place:Nat->Option (Nat×Nat)} (hp:∀i,i<pl.length->place i=some (pl.getD i (0,0))):∀{ps:List (Nat×AV)} {us:List (Nat×Value)} (hr:Rn C ps us) {cs:List AV} {cells:Array Value},
 cells.size=cs.length->(∀(j:Nat) (c:AV) (u:Value),cs[j]? = some c->cells[j]? = some u->Ea C c u)->Ard pl cs.length ps ->
  ∃cells',Instr.fill place cells us=some cells'/\cells'.size=cs.length/\∀(j:Nat) (c:AV) (u:Value),(Ac7 pl cs ps)[j]? = some c->cells'[j]? = some u->Ea C c u
 | _,_,.nil,cs,cells,hs,hc,_=>⟨cells,rfl,hs,hc⟩
 | _,_,.cons (i:=i) (v:=v) (u:=u) (ps:=ps) (us:=us) hv hr,cs,cells,hs,hc,⟨⟨h1,h2,h3,h4⟩,h5⟩=>by
  have h1:i<pl.length:=h1
  have h2:(pl.getD i (0,0)).2=v.cl.length:=h2
  have h3:(pl.getD i (0,0)).1+v.cl.length<=cs.length:=h3
  have h4:∀c∈v.cl,c.one=true:=h4
  obtain⟨e1,e2⟩:=hv.cells h4
  obtain⟨g1,g2⟩:=Anw (pl.getD i (0,0)).1 u.cells cells (by omega)
  have hfill:Instr.fill place cells ((i,u)::us)=Instr.fill place (u.cells.zipIdx.foldl (fun (cs:Array Value) (x:Value×Nat)=>cs.setIfInBounds ((pl.getD i (0,0)).1+x.2) x.1) cells) us:=by
   rw[Instr.fill,hp i h1]
   simp only[]
   rw[if_neg]
   simp only[Bool.or_eq_true,bne_iff_ne,ne_eq,decide_eq_true_eq,not_or,Decidable.not_not]
   exact⟨by omega,by omega⟩
  rw[hfill]
  obtain⟨cells',q1,q2,q3⟩:=Akz hp hr (cs:=Km cs (pl.getD i (0,0)).1 v.cl) (cells:=u.cells.zipIdx.foldl (fun (cs:Array Value) (x:Value×Nat)=>cs.setIfInBounds ((pl.getD i (0,0)).1+x.2) x.1) cells) (by rw[g1,Fr,hs]) (fun j c x hj hx=>by
   rw[g2] at hx
   rw[Jq] at hj
   by_cases hin:(pl.getD i (0,0)).1<=j/\j<(pl.getD i (0,0)).1+v.cl.length
   ·rw[if_pos (by omega)] at hj hx
    exact (e2 _ c x hj hx).1
   rw[if_neg (by omega)] at hj hx
   exact hc j c x hj hx) (by rw[Fr];exact h5)
  exact⟨cells',q1,by rw[q2,Fr],q3⟩
def Abg (P:Program) (t:TypeId) (ps:List (Nat×AV)):Lz :=
 ⟨.agg (Ac7 (tpl P t) (Hk P t) ps),[],zok P t=true/\(R2 P t=true\/((Ao5 P t).isSome=true/\tok P (Eb P t)=true))/\Ard (tpl P t) (Gg P t) ps⟩
theorem Ai0 {α β:Type} {f:α->Option β} {g:α->β}:∀(l:List α),(∀x∈l,f x=some (g x))->l.mapM f=some (l.map g)
 | [],_=>rfl
 | x::l,h=>by
  rw[List.mapM_cons,h x (by simp),Ai0 l fun y hy=>h y (by simp[hy])]
  rfl
variable {C:VC} {w:World} {t:TypeId} {ps:List (Nat×AV)}
theorem Awc {us:Array (Nat×Value)} (hr:Rn C ps us.toList) (hc:(Abg P t ps).c) :
 ∃v,(Instr.build t us).run P w=.ok v w/\Ea C (Abg P t ps).v v:=by
 obtain⟨h1,h2,h3⟩:=hc
 obtain⟨i,z,hi,hz,hsz,hzs,htl,hcell⟩:=Qf h1
 rw[<- htl] at h3
 have hbase:∀(j:Nat) (c:AV) (u:Value),(Hk P t)[j]? = some c->z.cells[j]? = some u->Ea C c u:=fun j c u hc hu=>(hcell j c u hc hu).1 C
 have Eu:∀cells',P.built t us.toList=some cells'->cells'.size=(Hk P t).length->(∀(j:Nat) (c:AV) (u:Value),(Ac7 (tpl P t) (Hk P t) ps)[j]? = some c->cells'[j]? = some u->Ea C c u)->∃v,(Instr.build t us).run P w=.ok v w/\Ea C (Abg P t ps).v v:=fun cells' e1 e2 e3 =>
  ⟨_,run_build w t us cells' e1,.agg _ _ (by rw[Aaw,e2]) e3⟩
 rcases h2 with h2 | ⟨h2,h4⟩
 ·obtain⟨fs,hu,hk,hp⟩:=Acr h2
  have hpl:fs.toList.mapM (fun f=>(P.info? f.type).map fun i=>(f.offset,i.size))=some (fs.toList.map fun f=>(f.offset,Gg P f.type)):=Ai0 _ fun f hf=>by
   have:=hk f (by simpa using hf)
   simp only[tok,Ah] at this
   obtain⟨j,hj⟩:=Option.isSome_iff_exists.1 this.2
   simp[hj,Gg]
  obtain⟨cells',q1,q2,q3⟩:=Akz (C:=C) (pl:=tpl P t) (place:=fun i=>(fs.toList.map fun f=>(f.offset,Gg P f.type)).toArray[i]?) (fun i hi=>by
   rw[hp] at hi ⊢
   rw[List.getElem?_toArray,Ad,Aa hi];rfl) hr (by rw[hzs,htl]) hbase h3
  exact Eu cells' (by simp only[Program.built,hi,hu,hz,hpl];exact q1) q2 q3
 obtain⟨n,hn⟩:=Option.isSome_iff_exists.1 h2
 have hu:=Afi hn
 simp only[tok,Ah] at h4
 obtain⟨ie,hie⟩:=Option.isSome_iff_exists.1 h4.2
 have hte:Gg P (Eb P t)=ie.size:=by simp[Gg,hie]
 have htp:tpl P t=(List.range n).map fun i=>(i*ie.size,ie.size):=by simp only[tpl,hu,hte]
 obtain⟨cells',q1,q2,q3⟩:=Akz (C:=C) (pl:=tpl P t) (place:=fun i=>some (i*ie.size,ie.size)) (fun i hi=>by
  rw[htp] at hi ⊢
  rw[A2,List.length_range] at hi
  rw[Ad,Ap,List.getElem?_range hi];rfl) hr (by rw[hzs,htl]) hbase h3
 exact Eu cells' (by simp only[Program.built,hi,hu,hz,hie];exact q1) q2 q3
def Ack (P:Program) (t:TypeId) (len:Nat) (ps:List (Nat×AV)) (nid:Nat):Lz :=
 ⟨.own nid len,[(nid,.row (Eb P t) (Gg P (Eb P t)) (ps.all fun p=>p.2.cl.all AV.fresh) false (ps.map fun p=>p.2.cl.map AV.toT))],
  Hv P t=true/\zok P (Eb P t)=true/\0<Gg P (Eb P t)/\ps.map (·.1)=List.range len/\(∀p∈ps,p.2.cl.length=Gg P (Eb P t)/\∀c∈p.2.cl,c.laid=true)/\len*Gg P (Eb P t)<=16777216⟩
variable {us:List (Nat×Value)}
theorem Rn.length (h:Rn C ps us):ps.length=us.length:=by
 induction h with
 | nil=>rfl
 | cons _ _ ih=>simp[ih]
theorem Rn.fst (h:Rn C ps us):ps.map (·.1)=us.map (·.1):=by
 induction h with
 | nil=>rfl
 | cons _ _ ih=>simp[ih]
theorem Rn.get (h:Rn C ps us):∀(i:Nat) (p:Nat×AV) (u:Nat×Value),ps[i]? = some p->us[i]? = some u->Ea C p.2 u.2:=by
 induction h with
 | nil=>intro i p u hp;simp at hp
 | cons h1 _ ih =>
  intro i p u hp hu
  cases i with
  | zero=>simp at hp hu;subst hp hu;exact h1
  | succ i=>simp at hp hu;exact ih i p u hp hu
theorem Anv {k:Nat}:∀(us:List (Nat×Value)) (n:Nat) (cells:Array Value),us.map (·.1)=List.range' n us.length->(∀u∈us,u.2.cells.size=k)->(n+us.length)*k<=cells.size ->
 ∃cells',Instr.fill (fun i=>some (i*k,k)) cells us=some cells'/\cells'.size=cells.size/\(∀p,p<n*k->cells'[p]? = cells[p]?)/\∀(q:Nat) (u:Nat×Value) (j:Nat),us[q]? = some u->j<k->cells'[(n+q)*k+j]? = u.2.cells[j]?
 | [],n,cells,_,_,_=>⟨cells,rfl,rfl,fun _ _=>rfl,fun q u j h=>by simp at h⟩
 | (i,u)::us,n,cells,h1,h2,h3=>by
  simp only[List.map_cons,A6,List.range'_succ,List.cons.injEq] at h1
  obtain⟨rfl,h1⟩:=h1
  have hk:=h2 (i,u) (by simp)
  have hk:u.cells.size=k:=hk
  simp only[A6] at h3
  have hle:i*k+k<=cells.size:=by
   have:=A1 k (show i+1<=i+(us.length+1) by omega)
   rw[Be] at this;omega
  obtain⟨g1,g2⟩:=Anw (i*k) u.cells cells (by omega)
  obtain⟨cells',q1,q2,q3,q4⟩:=Anv (k:=k) us (i+1) _ h1 (fun x hx=>h2 x (by simp[hx])) (by rw[g1];rw[show i+1+us.length=i+(us.length+1) by omega];exact h3)
  refine⟨cells',?_,by rw[q2,g1],fun p hp=>?_,fun q x j hq hj=>?_⟩
  ·rw[Instr.fill]
   simp only[]
   rw[if_neg]
   ·exact q1
   simp only[Bool.or_eq_true,bne_iff_ne,ne_eq,decide_eq_true_eq,not_or,Decidable.not_not]
   exact⟨hk,by omega⟩
  ·rw[q3 p (by rw[Be];omega),g2,if_neg (by omega)]
  cases q with
  | zero =>
   simp at hq
   subst hq
   rw[Nat.add_zero,q3 _ (by rw[Be];omega),g2,if_pos (by omega),show i*k+j - i*k=j by omega]
  | succ q =>
   simp at hq
   rw[show i+(q+1)=i+1+q by omega]
   exact q4 q x j hq hj
theorem Ax3 {E:Gp} {β:Nat->Option Nat} {st:St} {a:Act} (r:Es E β st a w) {nid:Nat} (hn:st.o nid=.gone) {len:Nat} {us:Array (Nat×Value)} (hr:Rn (E.C β st w) ps us.toList) (hc:(Ack P t len ps nid).c) :
 ∃u w' β' o,(Instr.buildSlice t len us).run P w=.ok u w'/\(Ack P t len ps nid).up=[(nid,o)]/\Es E β' (st.set nid o) a w'/\Ea (E.C β' (st.set nid o) w') (Ack P t len ps nid).v u:=by
 obtain⟨h1,h2,h3,h4,h5,h6⟩:=hc
 obtain⟨i,z,hi,hz,hsz,hzs,htl,_⟩:=Qf h2
 have hlen:ps.length=len:=by have:=congrArg List.length h4;simpa using this
 have hul:us.toList.length=len:=by rw[<- hr.length,hlen]
 have hbase:((Array.range (len*Gg P (Eb P t))).map (z.cells[· % z.cells.size]!)).size=len*Gg P (Eb P t):=by simp
 have hcl:∀(q:Nat) (p:Nat×AV) (u:Nat×Value),ps[q]? = some p->us.toList[q]? = some u->u.2.cells.size=Gg P (Eb P t)/\∀(j:Nat) (c:AV) (x:Value),p.2.cl[j]? = some c->u.2.cells[j]? = some x->Ea (E.C β st w) c x:=fun q p u hp hu=>by
  have hm:=h5 p (Ac hp)
  obtain⟨e1,e2⟩:=(hr.get q p u hp hu).cells fun c hc=>AV.laid_one (hm.2 c hc)
  exact⟨by rw[e1,hm.1],fun j c x hc hx=>(e2 j c x hc hx).1⟩
 obtain⟨cells',q1,q2,_,q4⟩:=Anv (k:=Gg P (Eb P t)) us.toList 0 ((Array.range (len*Gg P (Eb P t))).map (z.cells[· % z.cells.size]!)) (by rw[<- hr.fst,h4,hul,List.range_eq_range']) (fun u hu=>by
  obtain⟨q,hq⟩:=A3.1 hu
  have hlt:q<ps.length:=by rw[hlen,<- hul];exact (Ab.1 hq).1
  exact (hcl q _ u (Aa hlt) hq).1) (by rw[Bm,hul,hbase];exact Aj _)
 have hrun:(Instr.buildSlice t len us).run P w=.ok (.slice (some ⟨w.heap.size,0,none⟩) len len) (w.alloc (.cells cells' (Eb P t))):=by
  have hz2:(zeroValue (Eb P t)).run P w=.ok z w:=by simp[zeroValue,typeInfo,hi,hz]
  have htk:tok P (Eb P t)=true:=by simp only[zok,Ah] at h2;exact h2.1.1.1.1
  by_cases h0:len*Gg P (Eb P t)=0
  ·have e:cells' = #[]:=Array.eq_empty_of_size_eq_zero (by rw[q2,hbase,h0])
   have e0:((Array.range (len*Gg P (Eb P t))).map (z.cells[· % z.cells.size]!)) = #[]:=Array.eq_empty_of_size_eq_zero (by rw[hbase,h0])
   rw[e0] at q1
   have e1:(Array.map (fun (x:Nat)=>(default:Value)) (Array.range 0)) = #[]:=Array.eq_empty_of_size_eq_zero (by simp)
   simp[Instr.buildSlice,run_underlying (Ft h1),L8 htk,h0,e1,q1,newRow]
  have h6':¬len*Gg P (Eb P t) > 16777216:=by omega
  simp[Instr.buildSlice,run_underlying (Ft h1),L8 htk,h0,h6',hz2,q1,newRow]
 obtain⟨p1,p2⟩:=Akg (ty:=Eb P t) (fr:=ps.all fun p=>p.2.cl.all AV.fresh) r hn (es:=ps.map fun p=>p.2.cl.map AV.toT) (cur:=cells') (c:=len) h3
  (fun i e he=>by
   rw[Ap] at he
   cases hp:ps[i]? with
   | none=>rw[hp] at he;cases he
   | some p =>
    rw[hp] at he
    simp only[Ai,Option.some.injEq] at he
    rw[<- he,A2,(h5 p (Ac hp)).1]) (by rw[q2,hbase]) (by rw[A2,hlen];exact Aj _) (by
   have:len<=len*Gg P (Eb P t):=Nat.le_mul_of_pos_right _ h3
   simp only[maxLen];omega) (fun i e j x he hx=>by
   rw[Ap] at he
   cases hp:ps[i]? with
   | none=>rw[hp] at he;cases he
   | some p =>
    rw[hp] at he
    simp only[Ai,Option.some.injEq] at he
    subst he
    rw[Ap] at hx
    cases hq:p.2.cl[j]? with
    | none=>rw[hq] at hx;cases hx
    | some c =>
     rw[hq] at hx
     simp only[Ai,Option.some.injEq] at hx
     subst hx
     have hlt:i<us.toList.length:=by rw[hul,<- hlen];exact (Ab.1 hp).1
     have hu:=Aa hlt
     have hm:=h5 p (Ac hp)
     obtain⟨e1,e2⟩:=hcl i p _ hp hu
     have hj:j<Gg P (Eb P t):=by rw[<- hm.1];exact (Ab.1 hq).1
     have hx:=Al (xs:=us.toList[i].2.cells) (i:=j) (by omega)
     refine⟨_,?_,(e2 j c _ hq hx).toT (hm.2 c (Ac hq)) fun hf=>?_⟩
     ·have:=q4 i _ j hu hj
      rw[Bm] at this
      rw[this,hx]
     have hf':=Am.1 hf p (Ac hp)
     exact Am.1 hf' c (Ac hq))
 rw[A2,hlen] at p2
 exact⟨_,_,_,_,hrun,rfl,p1,p2⟩
end
section
variable {P:Program}
mutual
def AV.shift (N:Nat):AV->AV
 | .own id n=>.own (N+id) n
 | .sub id n lo m=>.sub (N+id) n lo m
 | .ptr id off=>.ptr (N+id) off
 | .rptr id n i off=>.rptr (N+id) n i off
 | .bsl id n=>.bsl (N+id) n
 | .agg cs=>.agg (Ou N cs)
 | .tup cs=>.tup (Ou N cs)
 | .fn f cs=>.fn f (Ou N cs)
 | .gd t v=>.gd t (v.shift N)
 | .any=>.any
 | .lit v=>.lit v
 | .nil k=>.nil k
 | .imm fr k es=>.imm fr k es
 | .iptr fr cs off=>.iptr fr cs off
def Ou (N:Nat):List AV->List AV
 | []=>[]
 | c::cs=>c.shift N::Ou N cs
end
theorem Ot (N:Nat):∀(cs:List AV) (i:Nat),(Ou N cs)[i]? = (cs[i]?).map (AV.shift N)
 | [],i=>by simp[Ou]
 | c::cs,0=>by simp[Ou]
 | c::cs,i+1=>by simp[Ou,Ot N cs i]
theorem Lu (N:Nat):∀(cs:List AV),(Ou N cs).length=cs.length
 | []=>rfl
 | c::cs=>by simp[Ou,Lu N cs]
def AV.sv:AV->AV
 | .gd _ v=>v.sv
 | v=>v
def AV.sb:AV->Bool
 | .gd t v=>t&&v.sb
 | _=>true
variable {C:VC} {v:AV} {u:Value}
theorem Ea.sv (h:Ea C v u):(v.sb=true->Ea C v.sv u)/\(v.sb=false->u=undef):=by
 induction h with
 | gd t v u h1 h2 ih =>
  cases t with
  | false=>exact⟨fun e=>by simp[AV.sb] at e,fun _=>h2 rfl⟩
  | true =>
   have:=ih rfl
   simpa[AV.sb,AV.sv] using this
 | any u=>exact⟨fun _=>.any u,fun e=>by cases e⟩
 | lit v=>exact⟨fun _=>.lit v,fun e=>by cases e⟩
 | nil k A=>exact⟨fun _=>.nil k A,fun e=>by cases e⟩
 | imm fr k es u h=>exact⟨fun _=>.imm fr k es u h,fun e=>by cases e⟩
 | own id n u h=>exact⟨fun _=>.own id n u h,fun e=>by cases e⟩
 | sub id n lo m u h=>exact⟨fun _=>.sub id n lo m u h,fun e=>by cases e⟩
 | ptr id off u h=>exact⟨fun _=>.ptr id off u h,fun e=>by cases e⟩
 | rptr id n i off u h=>exact⟨fun _=>.rptr id n i off u h,fun e=>by cases e⟩
 | bsl id n u h=>exact⟨fun _=>.bsl id n u h,fun e=>by cases e⟩
 | iptr fr cs off b o cur ty fz us h1 h2 h3=>exact⟨fun _=>.iptr fr cs off b o cur ty fz us h1 h2 h3,fun e=>by cases e⟩
 | agg cs us h1 h2 _=>exact⟨fun _=>.agg cs us h1 h2,fun e=>by cases e⟩
 | tup cs us h1 h2 _=>exact⟨fun _=>.tup cs us h1 h2,fun e=>by cases e⟩
 | fn f cs us h1 h2 _=>exact⟨fun _=>.fn f cs us h1 h2,fun e=>by cases e⟩
theorem Mm (h:Ih v=true) (r:Ea C v u):v=.lit (.bool (Fh v))/\u=.bool (Fh v):=by
 unfold Ih at h
 split at h
 ·cases r;exact⟨rfl,rfl⟩
 cases h
def Ey (op:BinOp) (k:IntKind) (a b:Int):Int :=
 match op with
 | .and=>k.wrap (BitVec.ofInt k.bits a &&& BitVec.ofInt k.bits b).toNat
 | .or=>k.wrap (BitVec.ofInt k.bits a ||| BitVec.ofInt k.bits b).toNat
 | .xor=>k.wrap (BitVec.ofInt k.bits a ^^^ BitVec.ofInt k.bits b).toNat
 | _=>k.wrap (BitVec.ofInt k.bits a &&& ~~~BitVec.ofInt k.bits b).toNat
def Aov (op:BinOp) (k:IntKind) (a b:Int):Value×Prop :=
 match op with
 | .add=>(.int k (k.wrap (a+b)),True)
 | .sub=>(.int k (k.wrap (a - b)),True)
 | .mul=>(.int k (k.wrap (a*b)),True)
 | .quo=>(.int k (k.wrap (a.tdiv b)),b≠0)
 | .rem=>(.int k (a.tmod b),b≠0)
 | .and=>(.int k (Ey .and k a b),True)
 | .or=>(.int k (Ey .or k a b),True)
 | .xor=>(.int k (Ey .xor k a b),True)
 | .andNot=>(.int k (Ey .andNot k a b),True)
 | .shl=>(.int k (k.wrap (a*2 ^ min b.toNat k.bits)),0<=b)
 | .shr=>(.int k (a.fdiv (2 ^ min b.toNat k.bits)),0<=b)
 | .eql=>(.bool (a == b),True)
 | .neq=>(.bool (a != b),True)
 | .lss=>(.bool (decide (a<b)),True)
 | .leq=>(.bool (decide (a<=b)),True)
 | .gtr=>(.bool (decide (a > b)),True)
 | .geq=>(.bool (decide (a >= b)),True)
def Aub (P:Program) (t:TypeId):Bool:=match P.underlying t with
 | some .bool=>true
 | _=>false
def Aju (P:Program) (op:BinOp) (xt:TypeId) (x y:AV):Lz :=
 match x,y with
 | .lit (.int k a),.lit (.int k' b)=>⟨.lit (Aov op k a b).1,[],(k=k'\/op=.shl\/op=.shr)/\(Aov op k a b).2⟩
 | .lit (.bool a),.lit (.bool b)=>⟨.lit (.bool (if op matches .eql then a == b else !(a == b))),[],Aub P xt=true/\(op=.eql\/op=.neq)⟩
 | .lit (.string a),.lit (.string b)=>⟨.lit (.bool (if op matches .eql then a.toList == b.toList else !(a.toList == b.toList))),[],op=.eql\/op=.neq⟩
 | _,_=>.bad
variable {xt:TypeId}
theorem Afr (hu:P.underlying xt=some .bool) (a b:Bool) (w:World):(Op.equal xt (.bool a) (.bool b)).run P w=.ok (a == b) w:=by
 have h:∀d,(Op.equalIn (d+1) xt (.bool a) (.bool b)).run P w=.ok (a == b) w:=fun d=>by
  rw[Op.equalIn]
  simp only[Sem.run_bind,run_underlying hu,Result.andThen_ok,Sem.run_pure]
 exact h 9999
variable {w:World}
theorem Az3 {op:BinOp} {x y:AV} {ox oy:Operand} {ux uy:Value} (hx:Ea C x ux) (hy:Ea C y uy) (hc:(Aju P op xt x y).c) :
 ∃v,(do eqGuard op xt ox oy ux uy;binOp op xt ux uy:Sem Value).run P w=.ok v w/\Ea C (Aju P op xt x y).v v/\(Aju P op xt x y).up=[]:=by
 unfold Aju at hc ⊢
 split at hc
 ·rename_i k a k' b
  cases hx
  cases hy
  obtain⟨h1,h2⟩:=hc
  refine⟨_,?_,.lit _,rfl⟩
  have hg:(eqGuard op xt ox oy (.int k a) (.int k' b)).run P w=.ok () w:=by
   unfold eqGuard
   cases op<;>rfl
  simp only[Sem.run_bind,hg,Result.andThen_ok]
  by_cases hs:op=.shl\/op=.shr
  ·rcases hs with rfl | rfl<;>simp only[Aov] at h2<;>simp[binOp,Op.shift,Aov,show ¬b<0 by omega]
  have hk:k=k':=by
   rcases h1 with h1 | h1
   ·exact h1
   exact absurd h1 hs
  subst hk
  cases op<;>first
   | exact absurd (Or.inl rfl) hs
   | exact absurd (Or.inr rfl) hs
   | (simp only[Aov] at h2;simp[binOp,Op.intArith,Op.intDiv,Op.intBits,Op.intCmp,Aov,Ey,h2])
 ·rename_i a b
  cases hx
  cases hy
  obtain⟨h1,h2⟩:=hc
  have hu:P.underlying xt=some .bool:=by
   unfold Aub at h1
   split at h1
   ·assumption
   cases h1
  refine⟨_,?_,.lit _,rfl⟩
  have he:=Afr hu a b w
  rcases h2 with rfl | rfl
  ·have hg:(eqGuard .eql xt ox oy (.bool a) (.bool b)).run P w=.ok () w:=rfl
   have hb:binOp .eql xt (.bool a) (.bool b)=(do pure (.bool (<- Op.equal xt (.bool a) (.bool b)))):=rfl
   simp only[Sem.run_bind,hg,Result.andThen_ok,hb,he,Sem.run_pure]
   simp
  have hg:(eqGuard .neq xt ox oy (.bool a) (.bool b)).run P w=.ok () w:=rfl
  have hb:binOp .neq xt (.bool a) (.bool b)=(do pure (.bool (!(<- Op.equal xt (.bool a) (.bool b))))):=rfl
  simp only[Sem.run_bind,hg,Result.andThen_ok,hb,he,Sem.run_pure]
  simp
 ·rename_i a b
  cases hx
  cases hy
  refine⟨_,?_,.lit _,rfl⟩
  rcases hc with rfl | rfl
  ·have hg:(eqGuard .eql xt ox oy (.string a) (.string b)).run P w=.ok () w:=rfl
   simp[hg,binOp,Op.stringOp]
  have hg:(eqGuard .neq xt ox oy (.string a) (.string b)).run P w=.ok () w:=rfl
  simp[hg,binOp,Op.stringOp]
 exact hc.elim
def vun (op:UnOp) (x:AV):Lz :=
 match op,x with
 | .not,.lit (.bool b)=>⟨.lit (.bool !b),[],True⟩
 | .neg,.lit (.int k n)=>⟨.lit (.int k (k.wrap (0 - n))),[],True⟩
 | .xor,.lit (.int k n)=>⟨.lit (.int k (Ey .xor k (if k.signed then -1 else k.max) n)),[],True⟩
 | _,_=>.bad
variable {x:AV}
theorem A0t {op:UnOp} {ux:Value} (hx:Ea C x ux) (hc:(vun op x).c) :
 ∃v,(Op.unary op ux).run P w=.ok v w/\Ea C (vun op x).v v/\(vun op x).up=[]:=by
 unfold vun at hc ⊢
 split at hc
 ·cases hx;exact⟨_,rfl,.lit _,rfl⟩
 ·cases hx;exact⟨_,rfl,.lit _,rfl⟩
 ·cases hx;exact⟨_,rfl,.lit _,rfl⟩
 exact hc.elim
def Apx:List T->Int
 | [.lit (.int .u8 n)]=>n
 | _=>0
def Agc:List T->Bool
 | [.lit (.int .u8 n)]=>true
 | _=>false
def Auf (es:List (List T)):ByteArray:=(es.map Apx).foldl (fun r n=>r.push (UInt8.ofNat n.toNat)) ByteArray.empty
def Abq (P:Program) (t:TypeId):Option IntKind:=match P.underlying t with
 | some (.int k)=>some k
 | _=>none
def Xo (P:Program) (t:TypeId):Bool:=match P.underlying t with
 | some .string=>true
 | _=>false
def Rw (P:Program) (src dst:TypeId) (x:AV) (o:Nat->Ob):Lz :=
 match x with
 | .lit (.int _ n)=>match Abq P dst with
  | some k=>⟨.lit (.int k (k.wrap n)),[],(P.underlying src).isSome=true⟩
  | none=>.bad
 | x=>⟨.lit (.string (Auf (Gu o x))),[],Hv P src=true/\Abq P (Eb P src)=some .u8/\Xo P dst=true/\Ad3 o 1 x/\(Gu o x).all Agc=true⟩
variable {t:TypeId}
theorem Amn {k:IntKind} (h:Abq P t=some k):P.underlying t=some (.int k):=by
 unfold Abq at h
 split at h
 ·rename_i k' he;injection h with h;subst h;exact he
 cases h
theorem Amj (h:Xo P t=true):P.underlying t=some .string:=by
 unfold Xo at h
 split at h
 ·assumption
 cases h
variable {E:Gp} {β:Nat->Option Nat} {st:St} {a:Act} {src dst:TypeId}
theorem Av7 (r:Es E β st a w) (hx:Ea (E.C β st w) x u) (hc:Hv P src=true/\Abq P (Eb P src)=some .u8/\Xo P dst=true/\Ad3 st.o 1 x/\(Gu st.o x).all Agc=true) :
  ∃v,(convert src dst u).run P w=.ok v w/\Ea (E.C β st w) (.lit (.string (Auf (Gu st.o x)))) v:=by
 obtain⟨h1,h2,h3,h4,h5⟩:=hc
 have hs:=Zg r hx h4
 have hu1:=Ft h1
 have hu2:=Amn h2
 have hu3:=Amj h3
 have hrun:∀A n c,(convert src dst (.slice A n c)).run P w=(Conv.bytesToString (.slice A n c)).run P w:=fun A n c=>by
  simp[convert,run_underlying hu1,run_underlying hu2,run_underlying hu3]
 by_cases he:Gu st.o x=[]
 ·obtain⟨A,c,rfl,_⟩:=hs
  rw[he]
  refine⟨.string ByteArray.empty,?_,.lit _⟩
  rw[hrun]
  cases A with
  | none=>rfl
  | some a=>exact run_bytesToString w a 0 c [] (by simpa using run_loadCells_list (P:=P) w a [] (by simp))
 obtain⟨b,off,c,news,rfl,n1,n2,n3,n4⟩:=hs.news (by decide) w rfl he
 obtain⟨_,_,_,_,hel,_⟩:=hs
 have hnews:news=((Gu st.o x).map Apx).map (Value.int .u8):=by
  apply List.ext_getElem?
  intro i
  by_cases hi:i<(Gu st.o x).length
  ·have hie:=Aa hi
   have hb:=Am.1 h5 _ (List.getElem_mem hi)
   rw[List.map_map,Ap,hie]
   unfold Agc at hb
   split at hb
   ·rename_i n hn
    rw[hn] at hie
    obtain⟨v,p1,p2⟩:=n4 i _ 0 _ hie rfl
    rw[Nat.mul_one,Nat.add_zero] at p1
    rw[p1]
    cases p2
    simp[hn,Apx]
   cases hb
  rw[Ar (by omega),Ar (by simp;omega)]
 refine⟨_,?_,.lit _⟩
 rw[hrun]
 have:=run_loadCells_list (P:=P) w ⟨b,off,none⟩ news n2
 rw[n1,Nat.mul_one,hnews] at this
 exact run_bytesToString w _ _ c _ this
theorem Ayg (r:Es E β st a w) (hx:Ea (E.C β st w) x u) (hc:(Rw P src dst x st.o).c) :
 ∃v,(convert src dst u).run P w=.ok v w/\Ea (E.C β st w) (Rw P src dst x st.o).v v/\(Rw P src dst x st.o).up=[]:=by
 by_cases hn:N8 x=true
 ·obtain⟨k',rfl⟩:=Im hn hx
  unfold N8 at hn
  split at hn
  ·rename_i k'' n
   simp only[Rw] at hc ⊢
   cases hd:Abq P dst with
   | none=>rw[hd] at hc;exact hc.elim
   | some k =>
    rw[hd] at hc
    obtain⟨d,hd'⟩:=Option.isSome_iff_exists.1 hc
    cases hx
    refine⟨_,?_,.lit _,rfl⟩
    simp[convert,run_underlying hd',run_underlying (Amn hd),Conv.intToInt,Fw]
  cases hn
 have e:Rw P src dst x st.o=⟨.lit (.string (Auf (Gu st.o x))),[],Hv P src=true/\Abq P (Eb P src)=some .u8/\Xo P dst=true/\Ad3 st.o 1 x/\(Gu st.o x).all Agc=true⟩:=by
  unfold Rw
  split
  ·simp[N8] at hn
  rfl
 rw[e] at hc ⊢
 obtain⟨v,h1,h2⟩:=Av7 r hx hc
 exact⟨v,h1,h2,rfl⟩
def Adh (P:Program) (t:TypeId) (x:AV) (o:Nat->Ob):Lz :=
 match x with
 | .nil _=>⟨.lit (.int .i64 0),[],Hv P t=true⟩
 | .imm _ _ es=>⟨.lit (.int .i64 es.length),[],Hv P t=true⟩
 | .own id n=>⟨.lit (.int .i64 n),[],Hv P t=true/\F7 (o id)=true/\n=(Lc (o id)).length⟩
 | .bsl _ n=>⟨.lit (.int .i64 n),[],Hv P t=true⟩
 | .sub id n _ m=>⟨.lit (.int .i64 m),[],Hv P t=true/\F7 (o id)=true/\n=(Lc (o id)).length⟩
 | _=>.bad
theorem Azv (r:Es E β st a w) {t ty:TypeId} (hx:Ea (E.C β st w) x u) (hc:(Adh P t x st.o).c) :
 ∃v,(Builtin.len_ #[t] ty #[u]).run P w=.ok v w/\Ea (E.C β st w) (Adh P t x st.o).v v/\(Adh P t x st.o).up=[]:=by
 have hrun:Hv P t=true->∀A n c,(Builtin.len_ #[t] ty #[.slice A n c]).run P w=.ok (.int .i64 n) w:=fun h A n c=>run_len_slice w t ty A n c (Ft h)
 cases hx with
 | nil k A=>exact⟨_,hrun hc A 0 0,.lit _,rfl⟩
 | imm fr k es u h=>cases h with
  | nil k A c=>exact⟨_,hrun hc A 0 c,.lit _,rfl⟩
  | sl k es b off c cur ty fz us h1 h2 h3 h4 h5 h6=>exact⟨_,hrun hc _ _ c,.lit _,rfl⟩
 | own id n u h =>
  obtain⟨c1,c2,c3⟩:=hc
  obtain⟨ty',fz,ho⟩:=Kl c2
  rcases r.own_val ho h c3 with⟨_,e,A,rfl⟩ | ⟨b,cur,c,hb,_,_,g3,_,rfl,_⟩
  ·have e0:n=0:=by rw[c3,e];rfl
   subst e0
   exact⟨_,hrun c1 A 0 0,.lit _,rfl⟩
  rw[<- c3]
  exact⟨_,hrun c1 _ n c,.lit _,rfl⟩
 | bsl id n u h =>
  obtain⟨ty',cs,b,c,ho,hb,rfl,hle⟩:=h
  exact⟨_,hrun hc _ n c,.lit _,rfl⟩
 | sub id n lo m u h =>
  obtain⟨c1,c2,c3⟩:=hc
  obtain⟨ty',fz,ho⟩:=Kl c2
  obtain⟨_,ty',k',fr',fz',es',ho',_,h5⟩:=h
  have ho':st.o id=_:=ho'
  rw[ho] at ho'
  injection ho' with e1 e2 e3 e4 e5
  subst e1 e2 e3 e4 e5
  obtain⟨h6,A,c,rfl,_⟩:=h5 c3
  exact⟨_,hrun c1 A m c,.lit _,rfl⟩
 | _=>simp[Adh,Lz.bad] at hc
def Ho (mx:Bool) (x y:AV):Lz :=
 match x,y with
 | .lit (.int k a),.lit (.int _ b)=>⟨.lit (.int k (if mx then (if b > a then b else a) else (if b<a then b else a))),[],True⟩
 | _,_=>.bad
def At1 (x y z:AV):Lz:=⟨(Ho false (Ho false x y).v z).v,[],(Ho false x y).c/\(Ho false (Ho false x y).v z).c⟩
def Ajs (x:AV) (i:Nat):Lz :=
 match x with
 | .tup vs=>⟨vs.getD i .any,[],i<vs.length⟩
 | _=>.bad
theorem Az0 {i:Nat} (hx:Ea C x u) (hc:(Ajs x i).c) :
 ∃v,(Instr.extract u i).run P w=.ok v w/\Ea C (Ajs x i).v v/\(Ajs x i).up=[]:=by
 cases hx with
 | tup cs us h1 h2 =>
  have hc:i<cs.length:=hc
  have hi:i<us.size:=by omega
  refine⟨us[i],?_,?_,rfl⟩
  ·simp[Instr.extract,hi]
  show Ea C (cs.getD i .any) us[i]
  rw[Ad,Aa hc]
  exact h2 i _ _ (Aa hc) (Al hi)
 | _=>simp[Ajs,Lz.bad] at hc
def Ahd (x:AV):Lz :=
 match x with
 | .ptr id off=>⟨.ptr id off,[],True⟩
 | .iptr fr cs off=>⟨.iptr fr cs off,[],True⟩
 | .fn f cs=>⟨.fn f cs,[],True⟩
 | _=>.bad
def Ah2 (P:Program) (t:TypeId):AV->AV
 | .nil _=>.nil (Gg P (Eb P t))
 | v=>v
theorem Aky (h:Ea C v u):Ea C (Ah2 P t v) u:=by
 cases h with
 | nil k A=>exact .nil _ A
 | any u=>exact .any u
 | lit v=>exact .lit _
 | imm fr k es u h=>exact .imm fr k es u h
 | own id n u h=>exact .own id n u h
 | sub id n lo m u h=>exact .sub id n lo m u h
 | ptr id off u h=>exact .ptr id off u h
 | rptr id n i off u h=>exact .rptr id n i off u h
 | bsl id n u h=>exact .bsl id n u h
 | iptr fr cs off b o cur ty fz us h1 h2 h3=>exact .iptr fr cs off b o cur ty fz us h1 h2 h3
 | agg cs us h1 h2=>exact .agg cs us h1 h2
 | tup cs us h1 h2=>exact .tup cs us h1 h2
 | fn f cs us h1 h2=>exact .fn f cs us h1 h2
 | gd t v u h1 h2=>exact .gd t v u h1 h2
def Zw (c a b:AV):Lz :=
 ⟨.lit (.bool (bif Fh c.sv then Fh a.sv else Fh b.sv)),[],Ih c.sv=true/\c.sb=true/\(Fh c.sv=true->Ih a.sv=true/\a.sb=true)/\(Fh c.sv=false->Ih b.sv=true/\b.sb=true)⟩
end
section
variable {P:Program}
def Ak0:Value->AV
 | .slice none 0 0=>.nil 0
 | v=>.lit v
def St.raw (st:St):Operand->AV
 | .tmp t=>E5 st.sl t
 | .const v=>Ak0 v
 | .global _=>.any
 | .func f=>.fn f []
theorem Apv (C:VC) (v:Value):Ea C (Ak0 v) v:=by
 unfold Ak0
 split
 ·exact .nil 0 none
 exact .lit _
variable {β:Nat->Option Nat} {w:World}
theorem Mk {E:Gp} {st:St} {a:Act} (r:Es E β st a w) (x:Operand):Ea (E.C β st w) (st.raw x) (a.eval x):=by
 cases x with
 | tmp t =>
  exact r.sl t
 | const v=>exact Apv _ v
 | global g=>exact .any _
 | func f=>exact .fn f [] #[] rfl fun i c u h=>by simp at h
def M9 (P:Program) (op:Op) (ty:TypeId) (raw:Operand->AV) (o:Nat->Ob) (nid:Nat):Lz :=
 let ev:Operand->AV:=fun x=>(raw x).sv
 match op with
 | .move x=>⟨Ah2 P ty (ev x),[],True⟩
 | .assign x=>⟨Ah2 P ty (ev x),[],True⟩
 | .alloc t=>Aoy P t nid
 | .box t x=>A0r t (ev x) nid
 | .build t ps=>Abg P t (ps.toList.map fun p=>(p.1,ev p.2))
 | .buildSlice t n ps=>Ack P t n (ps.toList.map fun p=>(p.1,ev p.2)) nid
 | .load t x=>Jy P t (ev x) o
 | .store t x v=>Ip P t (ev x) (Ah2 P t (ev v)) o
 | .nilCheck x=>Ahd (ev x)
 | .binOp op xt x y _=>Aju P op xt (ev x) (ev y)
 | .unOp op _ x=>vun op (ev x)
 | .convert s d x=>Rw P s d (ev x) o
 | .makeFunc (.func f) first cs=>⟨.fn f (cs.toList.map ev),[],first = #[]⟩
 | .makeSlice t l c=>Vh P t (ev l) (ev c) nid
 | .slice t x lo hi none=>Iq P t (ev x) (lo.map ev) (hi.map ev) o
 | .fieldAddr s x f=>Pv P s (ev x) f o
 | .indexAddr t x i=>Pu P t (ev x) (ev i) o
 | .extract x i=>Ajs (ev x) i
 | .call { callee:=.builtin b,args,argTypes } =>
  match b,args.toList,argTypes.toList with
  | .len,[x],[t]=>Adh P t (ev x) o
  | .append,[d,x],[t,t']=>let e:=Abh P t (ev d) (ev x) o nid;⟨e.v,e.up,t=t'/\e.c⟩
  | .copy,[d,x],[t,_]=>Vi P t (ev d) (ev x) o
  | .clear,[x],[t]=>Pw P t (ev x) o
  | .min,[x,y],_=>Ho false (ev x) (ev y)
  | .max,[x,y],_=>Ho true (ev x) (ev y)
  | .min,[x,y,z],_=>At1 (ev x) (ev y) (ev z)
  | _,_,_=>.bad
 | _=>.bad
def Fb:Op->Bool
 | .call { callee:=.value _,.. }=>true
 | _=>false
def St.sets (st:St):List (Nat×Ob)->St
 | []=>st
 | (id,o)::l=>(st.set id o).sets l
theorem St.put_set (st:St) (d:Option Tmp) (v:AV) (id:Nat) (o:Ob):(st.put d v).set id o=(st.set id o).put d v:=by cases d<;>rfl
theorem Adc (E:Gp) (β:Nat->Option Nat) (st:St) (d:Option Tmp) (v:AV) (w:World):E.C β (st.put d v) w=E.C β st w:=by
 simp only[Gp.C,St.put_o]
def St.after (st:St) (d:Option Tmp) (v:AV) (up:List (Nat×Ob)):St:=(st.put d v).sets up
theorem Af4 {C:VC} {ev:Operand->AV} {ρ:Operand->Value}:∀(l:List (Nat×Operand)),(∀p∈l,Ea C (ev p.2) (ρ p.2))->Rn C (l.map fun p=>(p.1,ev p.2)) (l.map fun p=>(p.1,ρ p.2))
 | [],_=>.nil
 | p::l,h=>.cons (h p (by simp)) (Af4 l fun q hq=>h q (by simp[hq]))
theorem Xw {C:VC} {mx:Bool} {x y:AV} {ux uy:Value} (hx:Ea C x ux) (hy:Ea C y uy) (hc:(Ho mx x y).c) :
 ∃v,(if mx then Builtin.max2 ux uy else Builtin.min2 ux uy).run P w=.ok v w/\Ea C (Ho mx x y).v v/\(Ho mx x y).up=[]:=by
 unfold Ho at hc ⊢
 split at hc
 ·cases hx
  cases hy
  cases mx
  ·exact⟨_,rfl,.lit _,rfl⟩
  exact⟨_,rfl,.lit _,rfl⟩
 exact hc.elim
theorem A16 {E:Gp} {st:St} {a:Act} (r:Es E β st a w) {o:Oper} {nid:Nat} (hd:∀x,o.dst=some x->x<E.n) (hn:∀p∈(M9 P o.op o.type st.raw st.o nid).up,nid<=p.1->st.o p.1=.gone) (hb:∀x∈o.op.operands,(st.raw x).sb=true) (hc:(M9 P o.op o.type st.raw st.o nid).c) {Q:Exit->Act->World->Prop} :
  o.wp P a w (fun a' w'=>∃β',Es E β' (st.after o.dst (M9 P o.op o.type st.raw st.o nid).v (M9 P o.op o.type st.raw st.o nid).up) a' w') Q:=by
 have hev:∀x∈o.op.operands,Ea (E.C β st w) (st.raw x).sv (a.eval x):=fun x hx=>(Mk r x).sv.1 (hb x hx)
 obtain⟨dst,op,ty,pos,af,gd⟩:=o
 simp only at hc hb hev hd hn ⊢
 have quiet:∀(v:Value) (e:Lz),(execOp a.eval ⟨dst,op,ty,pos,af,gd⟩).run P w=.ok (.value v) w->Ea (E.C β st w) e.v v->e.up=[]->Oper.wp P ⟨dst,op,ty,pos,af,gd⟩ a w (fun a' w'=>∃β',Es E β' (st.after dst e.v e.up) a' w') Q:=fun v e h1 h2 h3=>by
  unfold Oper.wp
  rw[h1,h3]
  exact⟨β,r.put h2 dst hd⟩
 have noisy:∀(v:Value) (w':World) (β':Nat->Option Nat) (id:Nat) (ob:Ob) (e:Lz),(execOp a.eval ⟨dst,op,ty,pos,af,gd⟩).run P w=.ok (.value v) w'->e.up=[(id,ob)]->Es E β' (st.set id ob) a w'->Ea (E.C β' (st.set id ob) w') e.v v ->
  Oper.wp P ⟨dst,op,ty,pos,af,gd⟩ a w (fun a' w'=>∃β',Es E β' (st.after dst e.v e.up) a' w') Q:=fun v w' β' id ob e h1 h2 h3 h4=>by
  unfold Oper.wp
  rw[h1,h2]
  refine⟨β',?_⟩
  show Es E β' ((st.put dst e.v).set id ob) _ w'
  rw[St.put_set]
  exact h3.put h4 dst hd
 cases op with
 | move x =>
  exact quiet _ _ rfl (Aky (hev x (by simp[Op.operands]))) rfl
 | assign x =>
  exact quiet _ _ rfl (Aky (hev x (by simp[Op.operands]))) rfl
 | alloc t =>
  obtain⟨u,w',β',h1,h2,h3⟩:=Awi (P:=P) r (hn (nid,_) (by exact An.2 rfl) (Aj _)) hc
  exact noisy u w' β' nid _ _ (by simp[execOp,h1]) rfl h2 h3
 | box t x =>
  obtain⟨u,w',β',h1,h2,h3⟩:=Az2 (P:=P) r (hn (nid,_) (by exact An.2 rfl) (Aj _)) (hev x (by simp[Op.operands])) hc
  exact noisy u w' β' nid _ _ (by simp[execOp,h1]) rfl h2 h3
 | build t ps =>
  have hp:Rn (E.C β st w) (ps.toList.map fun p=>(p.1,(st.raw p.2).sv)) (ps.map fun p=>(p.1,a.eval p.2)).toList:=by
   rw[Array.toList_map]
   exact Af4 (ev:=fun x=>(st.raw x).sv) (ρ:=a.eval) _ fun p hp=>hev p.2 (by simp only[Op.operands,List.mem_toArray,A4];exact⟨p,hp,rfl⟩)
  obtain⟨v,h1,h2⟩:=Awc (P:=P) (w:=w) hp hc
  exact quiet v _ (by simp[execOp,h1]) h2 rfl
 | buildSlice t n ps =>
  have hp:Rn (E.C β st w) (ps.toList.map fun p=>(p.1,(st.raw p.2).sv)) (ps.map fun p=>(p.1,a.eval p.2)).toList:=by
   rw[Array.toList_map]
   exact Af4 (ev:=fun x=>(st.raw x).sv) (ρ:=a.eval) _ fun p hp=>hev p.2 (by simp only[Op.operands,List.mem_toArray,A4];exact⟨p,hp,rfl⟩)
  obtain⟨u,w',β',ob,h1,h2,h3,h4⟩:=Ax3 (P:=P) r (hn (nid,_) (by exact An.2 rfl) (Aj _)) hp hc
  exact noisy u w' β' nid ob _ (by simp[execOp,h1]) h2 h3 h4
 | load t x =>
  obtain⟨v,h1,h2,h3⟩:=Aq7 (P:=P) r (hev x (by simp[Op.operands])) hc
  exact quiet v _ (by simp[execOp,h1]) h2 h3
 | store t x v =>
  obtain⟨w',id,ob,h1,h2,h3⟩:=Aug (P:=P) r (hev x (by simp[Op.operands])) (Aky (t:=t) (hev v (by simp[Op.operands]))) hc
  unfold Oper.wp
  have hr:(execOp a.eval ⟨dst,.store t x v,ty,pos,af,gd⟩).run P w=.ok .skip w':=by simp[execOp,h1]
  rw[hr]
  refine⟨β,?_⟩
  simp only[M9,St.after,h2]
  show Es E β ((st.put dst _).set id ob) _ w'
  rw[St.put_set]
  refine h3.put ?_ dst hd
  simp only[Ip]
  split
  ·split<;>exact .any _
  ·split<;>exact .any _
  exact .any _
 | nilCheck x =>
  have hx:=hev x (by simp[Op.operands])
  generalize hq:(st.raw x).sv=q at hx hc
  generalize hu:a.eval x=u at hx
  have hc':(Ahd q).c:=by simpa only[M9,hq] using hc
  have key:∃v,(execOp a.eval ⟨dst,.nilCheck x,ty,pos,af,gd⟩).run P w=.ok (.value v) w/\Ea (E.C β st w) (Ahd q).v v/\(Ahd q).up=[]:=by
   cases hx with
   | ptr id off u h =>
    obtain⟨_,_,_,h1,h2,rfl⟩:=h
    refine⟨_,?_,.ptr _ _ _ ⟨_,_,_,h1,h2,rfl⟩,rfl⟩
    simp[execOp,hu]
   | iptr fr cs off b o cur ty fz us h1 h2 h3=>exact⟨_,by simp[execOp,hu],.iptr fr cs off b o cur ty fz us h1 h2 h3,rfl⟩
   | fn f cs us h1 h2=>exact⟨_,by simp[execOp,hu],.fn f cs us h1 h2,rfl⟩
   | _=>simp[Ahd,Lz.bad] at hc'
  obtain⟨v,h1,h2,h3⟩:=key
  have:=quiet v (Ahd q) h1 h2 h3
  simpa only[M9,hq] using this
 | binOp op xt x y yt =>
  obtain⟨v,h1,h2,h3⟩:=Az3 (P:=P) (w:=w) (ox:=x) (oy:=y) (hev x (by simp[Op.operands])) (hev y (by simp[Op.operands])) hc
  refine quiet v _ ?_ h2 h3
  simp only[execOp]
  rw[Sem.run_bind,h1]
  rfl
 | unOp op xt x =>
  obtain⟨v,h1,h2,h3⟩:=A0t (P:=P) (w:=w) (hev x (by simp[Op.operands])) hc
  exact quiet v _ (by simp[execOp,h1]) h2 h3
 | convert s d x =>
  obtain⟨v,h1,h2,h3⟩:=Ayg (P:=P) r (hev x (by simp[Op.operands])) hc
  exact quiet v _ (by simp[execOp,h1]) h2 h3
 | makeFunc fn first cs =>
  cases fn with
  | func f =>
   have hc:first = #[]:=hc
   subst hc
   refine quiet (.func (.func f) #[] (cs.map a.eval)) ⟨.fn f (cs.toList.map fun x=>(st.raw x).sv),[],True⟩ (by simp[execOp,Instr.makeFunc]) (.fn f _ _ (by simp) fun i c u hc hu=>?_) rfl
   rw[Ap] at hc
   rw[Array.getElem?_map] at hu
   cases hx:cs[i]? with
   | none=>rw[hx] at hu;cases hu
   | some x =>
    have hx':cs.toList[i]? = some x:=by simpa using hx
    rw[hx'] at hc
    rw[hx] at hu
    simp only[Ai,Option.some.injEq] at hc hu
    subst hc hu
    exact hev x (by simp only[Op.operands,Array.mem_append];exact .inr (Array.mem_of_getElem? hx))
  | _=>exact hc.elim
 | makeSlice t l c =>
  obtain⟨u,w',β',ob,h1,h2,h3,h4⟩:=Ax2 (P:=P) r (hn (nid,_) (by exact An.2 rfl) (Aj _)) (hev l (by simp[Op.operands])) (hev c (by simp[Op.operands])) hc
  exact noisy u w' β' nid ob _ (by simp[execOp,h1]) h2 h3 h4
 | slice t x lo hi mx =>
  cases mx with
  | some m=>exact hc.elim
  | none =>
   obtain⟨v,h1,h2,h3⟩:=Auh (P:=P) r (t:=t) (x:=(st.raw x).sv) (u:=a.eval x) (lo:=lo.map fun x=>(st.raw x).sv) (hi:=hi.map fun x=>(st.raw x).sv) (ulo:=lo.map a.eval) (uhi:=hi.map a.eval) (hev x (by simp[Op.operands]))
    (fun v e=>by cases lo with
     | none=>cases e
     | some y=>simp only[Ai,Option.some.injEq] at e;subst e;exact⟨_,rfl,hev y (by simp[Op.operands])⟩) (fun e=>by cases lo<;>first | rfl | cases e)
    (fun v e=>by cases hi with
     | none=>cases e
     | some y=>simp only[Ai,Option.some.injEq] at e;subst e;exact⟨_,rfl,hev y (by simp[Op.operands])⟩) (fun e=>by cases hi<;>first | rfl | cases e) hc
   exact quiet v _ (by simp[execOp,h1]) h2 h3
 | fieldAddr s x f =>
  obtain⟨v,h1,h2,h3⟩:=Av1 (P:=P) (w:=w) (C:=E.C β st w) (hev x (by simp[Op.operands])) hc
  exact quiet v _ (by simp[execOp,h1]) h2 h3
 | indexAddr t x i =>
  obtain⟨v,h1,h2,h3⟩:=Avr (P:=P) r (hev x (by simp[Op.operands])) (hev i (by simp[Op.operands])) hc
  exact quiet v _ (by simp[execOp,h1]) h2 h3
 | extract x i =>
  obtain⟨v,h1,h2,h3⟩:=Az0 (P:=P) (w:=w) (hev x (by simp[Op.operands])) hc
  exact quiet v _ (by simp[execOp,h1]) h2 h3
 | call c =>
  obtain⟨callee,args,argTypes⟩:=c
  cases callee with
  | value f=>exact hc.elim
  | invoke rv m=>exact hc.elim
  | builtin b =>
   have hargs:∀x∈args.toList,Ea (E.C β st w) (st.raw x).sv (a.eval x):=fun x hx=>hev x (by simp[Op.operands,Call.operands];simpa using hx)
   have hrun:(execOp a.eval ⟨dst,.call ⟨.builtin b,args,argTypes⟩,ty,pos,af,gd⟩).run P w=(builtin b argTypes ty (args.map fun | .const _=>true | _=>false) (args.map a.eval)).run P w:=by
    simp[execOp,resolve,invoke]
    rfl
   obtain⟨la⟩:=args
   obtain⟨lt⟩:=argTypes
   simp only[M9] at hc ⊢
   simp only at hargs
   split at hc
   ·rename_i x t
    obtain⟨v,h1,h2,h3⟩:=Azv (P:=P) (ty:=ty) r (hargs x (by simp)) hc
    exact quiet v _ (by rw[hrun];simp[builtin,h1]) h2 h3
   ·rename_i d x t t'
    obtain⟨rfl,hc⟩:=hc
    obtain⟨u,w',β',id,ob,h1,h2,h3,h4⟩:=Az5 (P:=P) (ty:=ty) (nid:=nid) r (fun⟨k,e⟩=>hn (nid,_) (show _∈(Abh P t (st.raw d).sv (st.raw x).sv st.o nid).up by rw[e];exact An.2 rfl) (Aj _)) (hargs d (by simp)) (hargs x (by simp)) hc
    exact noisy u w' β' id ob ⟨_,_,True⟩ (by rw[hrun];simp[builtin,h1]) h2 h3 h4
   ·rename_i d x t t'
    obtain⟨u,w',id,ob,h1,h2,h3,h4⟩:=Ayf (P:=P) (sT:=t') (ty:=ty) r (hargs d (by simp)) (hargs x (by simp)) hc
    exact noisy u w' β id ob _ (by rw[hrun];simp[builtin,h1]) h2 h3 h4
   ·rename_i x t
    obtain⟨u,w',id,ob,h1,h2,h3,h4⟩:=Av8 (P:=P) (ty:=ty) r (hargs x (by simp)) hc
    exact noisy u w' β id ob _ (by rw[hrun];simp[builtin,h1]) h2 h3 h4
   ·rename_i l x y
    obtain⟨v,h1,h2,h3⟩:=Xw (P:=P) (w:=w) (mx:=false) (hargs x (by simp)) (hargs y (by simp)) hc
    exact quiet v _ (by rw[hrun];simp[builtin,Builtin.min_] at h1 ⊢;simp[h1]) h2 h3
   ·rename_i l x y
    obtain⟨v,h1,h2,h3⟩:=Xw (P:=P) (w:=w) (mx:=true) (hargs x (by simp)) (hargs y (by simp)) hc
    exact quiet v _ (by rw[hrun];simp[builtin,Builtin.max_] at h1 ⊢;simp[h1]) h2 h3
   ·rename_i l x y z
    obtain⟨c1,c2⟩:=hc
    obtain⟨v,h1,h2,h3⟩:=Xw (P:=P) (w:=w) (mx:=false) (hargs x (by simp)) (hargs y (by simp)) c1
    obtain⟨v',h1',h2',h3'⟩:=Xw (P:=P) (w:=w) (mx:=false) h2 (hargs z (by simp)) c2
    exact quiet v' (At1 (st.raw x).sv (st.raw y).sv (st.raw z).sv) (by rw[hrun];simp[builtin,Builtin.min_] at h1 h1' ⊢;simp[h1,h1']) h2' rfl
   exact hc.elim
 | _=>exact hc.elim
end
section
variable {P:Program}
structure Agz (P:Program) (f:FuncId):Prop where
  ex:∃fn,P.funcs[f]? = some fn/\fn.body.isNone=false/\(fn.name == "runtime.NumGoroutine")=false
def H0 (n:Nat):List AV->List (Nat×AV)
 | []=>[]
 | c::cs=>(n,c)::H0 (n+1) cs
theorem Lg:∀(cs:List AV) (n t:Nat),E5 (H0 n cs) t=if n<=t then cs.getD (t - n) .any else .any
 | [],n,t=>by simp[H0,E5]
 | c::cs,n,t=>by
  rw[H0,E5,Lg cs (n+1) t]
  by_cases h:n=t
  ·subst h;simp
  have:(n == t)=false:=by simp[h]
  rw[this]
  simp only[cond_false]
  by_cases h1:n+1<=t
  ·rw[if_pos h1,if_pos (by omega),show t - n=(t - (n+1))+1 by omega,List.getD_cons_succ]
  rw[if_neg h1,if_neg (by omega)]
def E4 (P:Program) (f:FuncId) (σa:List Ob) (args:List AV) (σr:List Ob) (res:AV):Prop :=
 Agz P f/\∀(E:Gp) (β:Nat->Option Nat) (us:Array Value),E.n=args.length->E.o0=(St.mk [] σa).o->E.β0=β->Es E β ⟨H0 0 args,σa⟩ ⟨us,[]⟩ E.w0 ->
  Calls P f us E.w0 fun e w'=>∃v β',e=.returned v/\Es { E with n:=1 } β' ⟨[(0,res)],σr⟩ ⟨#[v],[]⟩ w'
mutual
def AV.pass (o:Nat->Ob):AV->AV
 | .own id n=>.imm false (Sw (o id)) (Lc (o id))
 | .sub id n lo m=>.imm false (Sw (o id)) (((Lc (o id)).drop lo).take m)
 | .agg cs=>.agg (J2 o cs)
 | .tup cs=>.tup (J2 o cs)
 | .fn f cs=>.fn f (J2 o cs)
 | .lit v=>.lit v
 | .nil k=>.nil k
 | .imm fr k es=>.imm fr k es
 | .iptr fr cs off=>.iptr fr cs off
 | _=>.any
def J2 (o:Nat->Ob):List AV->List AV
 | []=>[]
 | c::cs=>c.pass o::J2 o cs
end
mutual
def AV.passC (o:Nat->Ob):AV->Prop
 | .own id n=>F7 (o id)=true/\n=(Lc (o id)).length
 | .sub id n lo m=>F7 (o id)=true/\n=(Lc (o id)).length
 | .agg cs=>Jt o cs
 | .tup cs=>Jt o cs
 | .fn f cs=>Jt o cs
 | _=>True
def Jt (o:Nat->Ob):List AV->Prop
 | []=>True
 | c::cs=>c.passC o/\Jt o cs
end
mutual
def AV.bor:AV->Bool
 | .own _ _=>true
 | .sub _ _ _ _=>true
 | .agg cs=>T4 cs
 | .tup cs=>T4 cs
 | .fn _ cs=>T4 cs
 | _=>false
def T4:List AV->Bool
 | []=>false
 | c::cs=>c.bor||T4 cs
end
mutual
def AV.cln:AV->Bool
 | .imm fr _ _=>fr
 | .iptr fr _ _=>fr
 | .agg cs=>Ff cs
 | .tup cs=>Ff cs
 | .fn _ cs=>Ff cs
 | .gd _ v=>v.cln
 | _=>true
def Ff:List AV->Bool
 | []=>true
 | c::cs=>c.cln&&Ff cs
end
def Ob.cln:Ob->Bool
 | .row _ _ fr _ _=>fr
 | .box _ cs=>Ff cs
 | .gone=>true
def Ob.shift (N:Nat):Ob->Ob
 | .box ty cs=>.box ty (Ou N cs)
 | o=>o
theorem Tv (o:Nat->Ob):∀(cs:List AV) (i:Nat),(J2 o cs)[i]? = (cs[i]?).map (AV.pass o)
 | [],i=>by simp[J2]
 | c::cs,0=>by simp[J2]
 | c::cs,i+1=>by simp[J2,Tv o cs i]
theorem Np (o:Nat->Ob):∀(cs:List AV),(J2 o cs).length=cs.length
 | []=>rfl
 | c::cs=>by simp[J2,Np o cs]
theorem Jm {o:Nat->Ob}:∀{cs:List AV} (h:Jt o cs) {i:Nat} {c:AV},cs[i]? = some c->c.passC o
 | [],_,i,c,h=>by simp at h
 | d::cs,⟨h1,h2⟩,0,c,h=>by simp at h;subst h;exact h1
 | d::cs,⟨h1,h2⟩,i+1,c,h=>by simp at h;exact Jm h2 h
theorem Xg:∀{cs:List AV} (h:T4 cs=false) {i:Nat} {c:AV},cs[i]? = some c->c.bor=false
 | [],_,i,c,h=>by simp at h
 | d::cs,h',0,c,h=>by simp at h;subst h;simp only[T4,Bool.or_eq_false_iff] at h';exact h'.1
 | d::cs,h',i+1,c,h=>by simp at h;simp only[T4,Bool.or_eq_false_iff] at h';exact Xg h'.2 h
theorem Nu:∀{cs:List AV} (h:Ff cs=true) {i:Nat} {c:AV},cs[i]? = some c->c.cln=true
 | [],_,i,c,h=>by simp at h
 | d::cs,h',0,c,h=>by simp at h;subst h;simp only[Ff,Ah] at h';exact h'.1
 | d::cs,h',i+1,c,h=>by simp at h;simp only[Ff,Ah] at h';exact Nu h'.2 h
variable {u:Value}
theorem Ea.pass {E:Gp} {β:Nat->Option Nat} {st:St} {a:Act} {w:World} (r:Es E β st a w) {C0:VC} (hh:C0.h=w.heap) (hl:∀b,¬C0.lives b) (hB:C0.B=w.heap.size) (bor:Bool) (him:∀b,(bor=true\/(E.C β st w).S false b)->C0.im b) (hfr:∀b,(E.C β st w).S true b->C0.fr b) {c:AV} (h:Ea (E.C β st w) c u) (hc:c.passC st.o) (hb:bor=false->c.bor=false):Ea C0 (c.pass st.o) u:=by
 have hsize:C0.h.size=w.heap.size:=by rw[hh]
 have hS:∀fr b,(E.C β st w).S fr b->C0.S fr b:=fun fr b hb=>⟨by rw[hsize];exact hb.1,hl b,.inr (.inr ⟨him b (.inr (VC.S_weak hb)),fun e=>hfr b (by rw[e] at hb;exact hb)⟩)⟩
 have hT:∀fr t u,Gn w.heap ((E.C β st w).S fr) t u->Gn C0.h (C0.S fr) t u:=fun fr t u h=>by
  rw[hh]
  exact h.keep (fun _ _=>rfl) (hS fr)
 have hT2:bor=true->∀fr t u,Gn w.heap ((E.C β st w).S fr) t u->Gn C0.h (C0.S false) t u:=fun hb fr t u h=>by
  rw[hh]
  exact h.keep (fun _ _=>rfl) fun b hs=>⟨by rw[hsize];exact hs.1,hl b,.inr (.inr ⟨him b (.inl hb),fun e=>by cases e⟩)⟩
 have hsrc:bor=true->∀(x:AV) (u:Value) (k:Nat),Src (E.C β st w) u (Qh st.o x) k (Gu st.o x)->Ea C0 (.imm false k (Gu st.o x)) u:=by
  intro hb x u k hsr
  obtain⟨A,c,rfl,hle,hel,hs⟩:=hsr
  refine .imm _ _ _ _ ?_
  rcases hs with he | ⟨b,off,cur,ty,fz,rfl,hcur,hcell⟩
  ·rw[he];exact .nil _ _ _
  have hcur':C0.h[b]? = some (.cells cur ty fz):=by rw[hh];exact hcur
  have hlt:b<w.heap.size:=by
   apply Classical.byContradiction
   intro hge
   have:w.heap[b]? = some (.cells cur ty fz):=hcur
   rw[Array.getElem?_eq_none (by omega)] at this
   cases this
  have hch:∀(i:Nat) (e:List T) (j:Nat) (x':T),(Gu st.o x)[i]? = some e->e[j]? = some x'->Gn C0.h (C0.S false) x' ((cur[off+i*k+j]?).getD undef)/\cur[off+i*k+j]? = some ((cur[off+i*k+j]?).getD undef):=fun i e j x' he hx=>by
   obtain⟨u,q1,q2⟩:=hcell i e j x' he hx
   rw[q1]
   exact⟨hT2 hb _ _ _ q2,rfl⟩
  exact .sl k _ b off c cur ty fz (fun i j=>(cur[off+i*k+j]?).getD undef) hcur' ⟨by rw[hsize];exact hlt,hl b,.inr (.inr ⟨him b (.inl hb),fun e=>by cases e⟩)⟩ hle hel (fun i e j x' he hx=>(hch i e j x' he hx).2) fun i e j x' he hx=>(hch i e j x' he hx).1
 induction h with
 | any u=>exact .any u
 | lit v=>exact .lit v
 | nil k A=>exact .nil k A
 | imm fr k es u h=>exact .imm fr k es u (hT fr _ _ h)
 | own id n u h =>
  have hbt:bor=true:=by
   cases bor
   ·have:=hb rfl;cases this
   rfl
  exact hsrc hbt (.own id n) u (Sw (st.o id)) (Zg r (.own id n u h) ⟨hc.1,rfl,hc.2⟩)
 | sub id n lo m u h =>
  have hbt:bor=true:=by
   cases bor
   ·have:=hb rfl;cases this
   rfl
  exact hsrc hbt (.sub id n lo m) u (Sw (st.o id)) (Zg r (.sub id n lo m u h) ⟨hc.1,rfl,hc.2⟩)
 | ptr id off u h=>exact .any u
 | rptr id n i off u h=>exact .any u
 | bsl id n u h=>exact .any u
 | iptr fr cs off b o cur ty fz us h1 h2 h3 =>
  exact .iptr fr cs off b o cur ty fz us (by rw[hh];exact h1) (hS fr b h2) fun j x hx=>⟨(h3 j x hx).1,hT fr _ _ (h3 j x hx).2⟩
 | agg cs us h1 h2 ih =>
  refine .agg _ _ (by rw[Np];exact h1) fun i c u hc' hu=>?_
  rw[Tv] at hc'
  cases hx:cs[i]? with
  | none=>rw[hx] at hc';cases hc'
  | some x =>
   rw[hx] at hc'
   simp only[Ai,Option.some.injEq] at hc'
   subst hc'
   exact ih i x u hx hu (Jm hc hx) fun e=>Xg (by have:=hb e;simpa[AV.bor] using this) hx
 | tup cs us h1 h2 ih =>
  refine .tup _ _ (by rw[Np];exact h1) fun i c u hc' hu=>?_
  rw[Tv] at hc'
  cases hx:cs[i]? with
  | none=>rw[hx] at hc';cases hc'
  | some x =>
   rw[hx] at hc'
   simp only[Ai,Option.some.injEq] at hc'
   subst hc'
   exact ih i x u hx hu (Jm hc hx) fun e=>Xg (by have:=hb e;simpa[AV.bor] using this) hx
 | fn f cs us h1 h2 ih =>
  refine .fn f _ _ (by rw[Np];exact h1) fun i c u hc' hu=>?_
  rw[Tv] at hc'
  cases hx:cs[i]? with
  | none=>rw[hx] at hc';cases hc'
  | some x =>
   rw[hx] at hc'
   simp only[Ai,Option.some.injEq] at hc'
   subst hc'
   exact ih i x u hx hu (Jm hc hx) fun e=>Xg (by have:=hb e;simpa[AV.bor] using this) hx
 | gd t v u h1 h2 ih=>exact .any u
variable {C1 C2:VC}
theorem Ea.back {N:Nat} (hh:C2.h=C1.h) (ho:∀j,C1.ob j≠.gone->C2.ob (N+j)=(C1.ob j).shift N/\C2.β (N+j)=C1.β j) (bor:Bool) (hS:∀fr b,(bor=true->fr=true)->C1.S fr b->C2.S fr b) {c:AV} (h:Ea C1 c u) (hc:bor=true->c.cln=true):Ea C2 (c.shift N) u:=by
 have hT:∀fr,(bor=true->fr=true)->∀t u,Gn C1.h (C1.S fr) t u->Gn C2.h (C2.S fr) t u:=fun fr hf t u h=>by
  rw[hh]
  exact h.keep (fun _ _=>rfl) fun b=>hS fr b hf
 induction h with
 | any u=>exact .any u
 | lit v=>exact .lit v
 | nil k A=>exact .nil k A
 | imm fr k es u h=>exact .imm fr k es u (hT fr hc _ _ h)
 | own id n u h =>
  obtain⟨h0,ty,k,fr,fz,es,h1,h2,h3⟩:=h
  obtain⟨e1,e2⟩:=ho id (by rw[h1];simp)
  exact .own _ _ _ ⟨h0,ty,k,fr,fz,es,by rw[e1,h1];rfl,h2,fun e=>by
   have:=h3 e
   rw[e2,hh];exact this⟩
 | sub id n lo m u h =>
  obtain⟨h0,ty,k,fr,fz,es,h1,h2,h3⟩:=h
  obtain⟨e1,e2⟩:=ho id (by rw[h1];simp)
  exact .sub _ _ _ _ _ ⟨h0,ty,k,fr,fz,es,by rw[e1,h1];rfl,h2,fun e=>by
   have:=h3 e
   rw[e2];exact this⟩
 | ptr id off u h =>
  obtain⟨ty,cs,b,h1,h2,h3⟩:=h
  obtain⟨e1,e2⟩:=ho id (by rw[h1];simp)
  exact .ptr _ _ _ ⟨ty,_,b,by rw[e1,h1];rfl,by rw[e2];exact h2,h3⟩
 | bsl id n u h =>
  obtain⟨ty,cs,b,c,h1,h2,h3⟩:=h
  obtain⟨e1,e2⟩:=ho id (by rw[h1];simp)
  exact .bsl _ _ _ ⟨ty,_,b,c,by rw[e1,h1];rfl,by rw[e2];exact h2,h3⟩
 | rptr id n i off u h =>
  obtain⟨h0,ty,k,fr,fz,es,h1,h2,h3⟩:=h
  obtain⟨e1,e2⟩:=ho id (by rw[h1];simp)
  exact .rptr _ _ _ _ _ ⟨h0,ty,k,fr,fz,es,by rw[e1,h1];rfl,h2,fun e=>by
   have:=h3 e
   rw[e2];exact this⟩
 | iptr fr cs off b o cur ty fz us h1 h2 h3 =>
  exact .iptr fr cs off b o cur ty fz us (by rw[hh];exact h1) (hS fr b hc h2) fun j x hx=>⟨(h3 j x hx).1,hT fr hc _ _ (h3 j x hx).2⟩
 | agg cs us h1 h2 ih =>
  refine .agg _ _ (by rw[Lu];exact h1) fun i c u hc' hu=>?_
  rw[Ot] at hc'
  cases hx:cs[i]? with
  | none=>rw[hx] at hc';cases hc'
  | some x =>
   rw[hx] at hc'
   simp only[Ai,Option.some.injEq] at hc'
   subst hc'
   exact ih i x u hx hu fun e=>Nu (by have:=hc e;simpa[AV.cln] using this) hx
 | tup cs us h1 h2 ih =>
  refine .tup _ _ (by rw[Lu];exact h1) fun i c u hc' hu=>?_
  rw[Ot] at hc'
  cases hx:cs[i]? with
  | none=>rw[hx] at hc';cases hc'
  | some x =>
   rw[hx] at hc'
   simp only[Ai,Option.some.injEq] at hc'
   subst hc'
   exact ih i x u hx hu fun e=>Nu (by have:=hc e;simpa[AV.cln] using this) hx
 | fn f cs us h1 h2 ih =>
  refine .fn f _ _ (by rw[Lu];exact h1) fun i c u hc' hu=>?_
  rw[Ot] at hc'
  cases hx:cs[i]? with
  | none=>rw[hx] at hc';cases hc'
  | some x =>
   rw[hx] at hc'
   simp only[Ai,Option.some.injEq] at hc'
   subst hc'
   exact ih i x u hx hu fun e=>Nu (by have:=hc e;simpa[AV.cln] using this) hx
 | gd t v u h1 h2 ih=>exact .gd t _ u (fun e=>ih e fun e'=>by have:=hc e';simpa[AV.cln] using this) h2
theorem Ki.back {N:Nat} (hh:C2.h=C1.h) (ho:∀j,C1.ob j≠.gone->C2.ob (N+j)=(C1.ob j).shift N/\C2.β (N+j)=C1.β j) (bor:Bool) (hS:∀fr b,(bor=true->fr=true)->C1.S fr b->C2.S fr b) {j:Nat} {o:Ob} (hj:C1.ob j=o) (h:Ki C1 j o) (hc:bor=true->o.cln=true):Ki C2 (N+j) (o.shift N):=by
 cases o with
 | gone=>trivial
 | box ty cs =>
  obtain⟨e1,e2⟩:=ho j (by rw[hj];simp)
  obtain⟨b,cur,h1,h2,h3,h4⟩:=h
  refine⟨b,cur,by rw[e2];exact h1,by rw[hh];exact h2,by rw[Lu];exact h3,fun i c u hc' hu=>?_⟩
  rw[Ot] at hc'
  cases hx:cs[i]? with
  | none=>rw[hx] at hc';cases hc'
  | some x =>
   rw[hx] at hc'
   simp only[Ai,Option.some.injEq] at hc'
   subst hc'
   exact⟨Ea.back hh ho bor hS (h4 i x u hx hu).1 fun e=>Nu (hc e) hx,(h4 i x u hx hu).2⟩
 | row ty k fr fz es =>
  obtain⟨e1,e2⟩:=ho j (by rw[hj];simp)
  obtain⟨h1,h2⟩:=h
  refine⟨h1,?_⟩
  rw[e2]
  cases hb:C1.β j with
  | none=>rw[hb] at h2;exact h2
  | some b =>
   rw[hb] at h2
   obtain⟨cur,c,g1,g2,g3,g4,g5⟩:=h2
   refine⟨cur,c,by rw[hh];exact g1,g2,g3,g4,fun i e j x he hx=>?_⟩
   obtain⟨u,q1,q2⟩:=g5 i e j x he hx
   refine⟨u,q1,?_⟩
   rw[hh]
   exact q2.keep (fun _ _=>rfl) fun b=>hS fr b hc
abbrev PP:=E4 Tryz.prog
end
section
variable {P:Program}
def Lr (N n:Nat):List Ob->List (Nat×Ob)
 | []=>[]
 | o::os=>(N+n,o.shift N)::Lr N (n+1) os
theorem Ail (N:Nat):∀(os:List Ob) (n:Nat) (st:St) (i:Nat),(st.sets (Lr N n os)).o i=if N+n<=i/\i<N+n+os.length then (os.getD (i - (N+n)) .gone).shift N else st.o i
 | [],n,st,i=>by simp[Lr,St.sets];omega
 | o::os,n,st,i=>by
  rw[Lr,St.sets,Ail N os (n+1),St.set_o]
  simp only[A6]
  by_cases h1:N+(n+1)<=i/\i<N+(n+1)+os.length
  ·rw[if_pos h1,if_pos (by omega),show i - (N+n)=(i - (N+(n+1)))+1 by omega,List.getD_cons_succ]
  rw[if_neg h1]
  by_cases h2:i=N+n
  ·subst h2
   rw[if_pos rfl,if_pos (by omega)];simp
  rw[if_neg h2,if_neg (by omega)]
theorem Anh (N:Nat):∀(os:List Ob) (n i:Nat),N+n<=i->i<N+n+os.length->∃p∈Lr N n os,p.1=i
 | [],n,i,h1,h2=>by simp at h2;omega
 | o::os,n,i,h1,h2=>by
  by_cases e:i=N+n
  ·exact⟨(N+n,o.shift N),by simp[Lr],e.symm⟩
  obtain⟨p,h3,h4⟩:=Anh N os (n+1) i (by omega) (by simp at h2;omega)
  exact⟨p,by simp[Lr,h3],h4⟩
theorem Ael:∀(l:List (Nat×Ob)) (st:St),(st.sets l).sl=st.sl
 | [],st=>rfl
 | p::l,st=>by rw[St.sets,Ael l];rfl
theorem Aan (d:Option Tmp) (v:AV):∀(l:List (Nat×Ob)) (st:St),(st.put d v).sets l=(st.sets l).put d v
 | [],st=>rfl
 | (id,o)::l,st=>by rw[St.sets,St.sets,St.put_set,Aan d v l]
def Aw5 (P:Program) (fo:Operand) (args:List Operand) (raw:Operand->AV) (o:Nat->Ob) (nid:Nat) (e:AV×List (Nat×Ob)):Prop :=
 ∃f caps σr res,(raw fo).sv=.fn f caps/\E4 P f [] (J2 o (args.map (fun x=>(raw x).sv)++caps)) σr res/\Jt o (args.map (fun x=>(raw x).sv)++caps) /\
  (T4 (args.map (fun x=>(raw x).sv)++caps)=true->res.cln=true/\σr.all Ob.cln=true)/\e=(res.shift nid,Lr nid 0 σr)
variable {w:World}
theorem Xk {f:FuncId} (h:Agz P f) {us:Array Value}:(callFunc f us).run P w=.ok (.enter f us) w:=by
 obtain⟨fn,h1,h2,h3⟩:=h.ex
 have h2':¬fn.body=none:=fun e=>by rw[e] at h2;cases h2
 have h3':¬fn.name = "runtime.NumGoroutine":=by simpa using h3
 unfold callFunc
 simp[h1,h2',h3']
theorem Ayh {E:Gp} {β:Nat->Option Nat} {st:St} {a:Act} (r:Es E β st a w) {o:Oper} {fo:Operand} {args:Array Operand} {ts:Array TypeId} (hop:o.op=.call { callee:=.value fo,args:=args,argTypes:=ts }) {nid:Nat} (hd:∀x,o.dst=some x->x<E.n) (hb:∀x∈o.op.operands,(st.raw x).sb=true) {e:AV×List (Nat×Ob)} (hc:Aw5 P fo args.toList st.raw st.o nid e) (hn:∀p∈e.2,nid<=p.1->st.o p.1=.gone) {Q:Exit->Act->World->Prop} :
  o.wp P a w (fun a' w'=>∃β',Es E β' (st.after o.dst e.1 e.2) a' w') Q:=by
 obtain⟨f,caps,σr,res,hf,hp,hpc,hcl,rfl⟩:=hc
 obtain⟨hcal,hpure⟩:=hp
 have hev:∀x∈o.op.operands,Ea (E.C β st w) (st.raw x).sv (a.eval x):=fun x hx=>(Mk r x).sv.1 (hb x hx)
 rw[hop] at hev
 have hfo:=hev fo (by simp[Op.operands,Call.operands])
 rw[hf] at hfo
 generalize hufo:a.eval fo=ufo at hfo
 cases hfo with
 | fn f cs ucs hl hcr =>
 generalize hav:args.toList.map (fun x=>(st.raw x).sv)++caps=av at hpure hpc hcl
 have hus:∀(i:Nat) (c:AV) (u:Value),av[i]? = some c->(args.map a.eval++ucs)[i]? = some u->Ea (E.C β st w) c u:=by
  intro i c u hc hu
  rw[<- hav] at hc
  by_cases hi:i<args.size
  ·rw[Au (by simpa using hi),Ap] at hc
   rw[Bk (by simpa using hi),Array.getElem?_map] at hu
   have hx:args[i]? = some args[i]:=Al hi
   have hx':args.toList[i]? = some args[i]:=by simp
   rw[hx'] at hc
   rw[hx] at hu
   simp only[Ai,Option.some.injEq] at hc hu
   subst hc hu
   exact hev args[i] (by simp[Op.operands,Call.operands])
  rw[Ao (by simp;omega)] at hc
  rw[Array.getElem?_append_right (by simp;omega)] at hu
  simp only[A2,Array.length_toList] at hc
  simp only[Array.size_map] at hu
  exact hcr _ c u hc hu
 have hlen:av.length=(args.map a.eval++ucs).size:=by rw[<- hav];simp[hl]
 let E':Gp:=⟨w,fun _=>.gone,fun _=>none,fun b=>T4 av=true\/(E.C β st w).S false b,fun b=>(E.C β st w).S true b,av.length,[],fun _=>none⟩
 have r0:Es E' (fun _=>none) ⟨H0 0 (J2 st.o av),[]⟩ ⟨args.map a.eval++ucs,[]⟩ w:=by
  refine⟨hlen.symm,fun t=>?_,rfl,fun id=>trivial,fun i j b hi=>absurd rfl hi,fun i b hi=>absurd rfl hi,Kp.refl _ _,⟨(fun id ty cs h=>by cases h),(fun id ty k fr fz es h=>by cases h)⟩,(fun b o h=>by cases h),List.nodup_nil,fun D h=>by cases h⟩
  show Ea _ (E5 (H0 0 (J2 st.o av)) t) _
  rw[Lg,Nat.sub_zero,Ad,Tv]
  cases hx:av[t]? with
  | none=>exact .any _
  | some x =>
   have ht:t<(args.map a.eval++ucs).size:=by rw[<- hlen];exact (Ab.1 hx).1
   rw[Av,Al ht]
   exact Ea.pass r (C0:=E'.C (fun _=>none) ⟨H0 0 (J2 st.o av),[]⟩ w) rfl (fun b ⟨id,h,_⟩=>by cases h) rfl (T4 av) (fun b h=>h) (fun b h=>h) (hus t x _ hx (Al ht)) (Jm hpc hx) fun e=>Xg e hx
 have hcall:=hpure E' (fun _=>none) _ (by show av.length=(J2 st.o av).length;rw[Np]) (by funext i;simp[E',St.o]) rfl r0
 unfold Oper.wp
 have hrun:(execOp a.eval o).run P w=.ok (.enter f (args.map a.eval++ucs)) w:=by
  obtain⟨dst,op,ty,pos,af,gd⟩:=o
  simp only at hop
  subst hop
  simp only[execOp,resolve,hufo,Deferred.ofValue,Sem.run_bind,Sem.run_pure,Result.andThen_ok,invoke,Array.empty_append]
  exact Xk hcal
 rw[hrun]
 refine hcall.mono ?_
 rintro e w' ⟨v,β1,rfl,r1⟩
 show ∃β',Es E β' _ _ _
 have hlt1:∀i b,(St.mk [(0,res)] σr).o i≠.gone->β1 i=some b->w.heap.size<=b/\b<w'.heap.size:=fun i b hi hb=>by
  have:=r1.rng i b hi hb
  refine⟨?_,this.1⟩
  rcases this.2 with h | ⟨id,h,_⟩
  ·exact h
  exact absurd rfl h
 have hkeep:∀b,b<w.heap.size->w'.heap[b]? = w.heap[b]?:=fun b hb=>r1.kp.block b hb fun⟨id,h,_⟩=>absurd rfl h
 have hσ:∀i,(St.mk [(0,res)] σr).o i=σr.getD i .gone:=fun i=>rfl
 let β':Nat->Option Nat:=fun i=>if nid<=i/\i<nid+σr.length then β1 (i - nid) else β i
 let st':St:=st.sets (Lr nid 0 σr)
 have ho':∀i,st'.o i=if nid<=i/\i<nid+σr.length then (σr.getD (i - nid) .gone).shift nid else st.o i:=fun i=>by
  have:=Ail nid σr 0 st i
  simpa using this
 have hold:∀i,st.o i≠.gone->¬(nid<=i/\i<nid+σr.length):=fun i hi h=>hi (by
  obtain⟨q,hq1,hq2⟩:=Anh nid σr 0 i (by omega) (by omega)
  have:=hn q hq1 (by omega)
  rw[hq2] at this
  exact this)
 have hshift:∀(o:Ob),o.shift nid≠.gone<->o≠.gone:=fun o=>by cases o<;>simp[Ob.shift]
 have hnew:∀j,(St.mk [(0,res)] σr).o j≠.gone->st'.o (nid+j)=((St.mk [(0,res)] σr).o j).shift nid/\β' (nid+j)=β1 j:=fun j hj=>by
  have hjl:j<σr.length:=by
   apply Classical.byContradiction
   intro h
   exact hj (by rw[hσ,Ad,Ar (by omega)];rfl)
  refine⟨by rw[ho',if_pos (by omega),hσ];congr 2;omega,?_⟩
  show (if _ then _ else _)=_
  rw[if_pos (by omega)]
  congr 1;omega
 have s:N4 (E.C β st w) (E.C β' st' w'):=by
  refine⟨rfl,fun _ h=>h,fun _ h=>h,fun _ h=>h,r1.kp.size,?_,fun b hb _=>hkeep b hb,?_,?_⟩
  ·rintro b hb ⟨i,h1,h2⟩
   have hb:b<w.heap.size:=hb
   have h1:β' i=some b:=h1
   have h2:(st'.o i).live:=h2
   by_cases hi:nid<=i/\i<nid+σr.length
   ·have h1:(if _ then _ else _)=_:=h1
    rw[if_pos hi] at h1
    have hng:(St.mk [(0,res)] σr).o (i - nid)≠.gone:=fun e=>by
     rw[ho',if_pos hi,<- hσ,e] at h2
     exact h2
    have:=hlt1 _ b hng h1
    omega
   have h1:(if _ then _ else _)=_:=h1
   rw[if_neg hi] at h1
   rw[ho',if_neg hi] at h2
   exact⟨i,h1,h2⟩
  ·intro i ty cs h
   have h:st.o i=_:=h
   have hi:=hold i (by rw[h];simp)
   refine⟨⟨cs,?_⟩,if_neg hi⟩
   show st'.o i=_
   rw[ho',if_neg hi];exact h
  intro i ty k fr fz es h
  have h:st.o i=_:=h
  have hi:=hold i (by rw[h];simp)
  refine⟨fr,fz,es,?_,Aj _,fun _=>⟨if_neg hi,fun b cur hb hc=>⟨cur,?_,rfl⟩⟩⟩
  ·show st'.o i=_
   rw[ho',if_neg hi];exact h
  exact (hkeep b (r.rng i b (by rw[h];simp) hb).1).trans hc
 have hS:∀fr b,(T4 av=true->fr=true)->(E'.C β1 ⟨[(0,res)],σr⟩ w').S fr b->(E.C β' st' w').S fr b:=by
  intro fr b hf hs
  by_cases hb:b<w.heap.size
  ·obtain⟨h1,h2,h3⟩:=hs
   have g3:w.heap.size<=b\/E'.M b\/(E'.im b/\(fr=true->E'.fr b)):=h3
   rcases g3 with g3 | ⟨id,g3,_⟩ | ⟨g3,g4⟩
   ·omega
   ·exact absurd rfl g3
   cases fr with
   | true=>exact s.S (g4 rfl)
   | false =>
    rcases g3 with g5 | g5
    ·have:=hf g5;cases this
    exact s.S g5
  obtain⟨h1,h2,h3⟩:=hs
  refine⟨h1,?_,.inl ?_⟩
  ·rintro⟨i,g1,g2⟩
   have g1:β' i=some b:=g1
   have g2:(st'.o i).live:=g2
   by_cases hi:nid<=i/\i<nid+σr.length
   ·have g1:(if _ then _ else _)=_:=g1
    rw[if_pos hi] at g1
    rw[ho',if_pos hi] at g2
    refine h2 ⟨i - nid,g1,?_⟩
    show ((St.mk [(0,res)] σr).o (i - nid)).live
    rw[hσ]
    cases hq:σr.getD (i - nid) .gone with
    | gone=>rw[hq] at g2;exact g2
    | box ty cs=>trivial
    | row ty k fr fz es=>rw[hq] at g2;exact g2
   have g1:(if _ then _ else _)=_:=g1
   rw[if_neg hi] at g1
   rw[ho',if_neg hi] at g2
   have:=(r.rng i b (fun e=>by rw[e] at g2;exact g2) g1).1
   exact hb this
  have:=r.kp.size
  show E.w0.heap.size<=b
  omega
 have r2:Es E β' st' a w':=by
  refine r.move s (Ael _ _) (fun i=>?_) ?_ ?_ ?_
  ·by_cases hi:nid<=i/\i<nid+σr.length
   ·have e:i=nid+(i - nid):=by omega
    rw[e]
    have hr:=r1.ob (i - nid)
    by_cases hg:(St.mk [(0,res)] σr).o (i - nid)=.gone
    ·rw[ho',if_pos (by omega),show nid+(i - nid) - nid=i - nid by omega,<- hσ,hg];trivial
    rw[(hnew _ hg).1]
    refine Ki.back (C1:=E'.C β1 ⟨[(0,res)],σr⟩ w') (C2:=E.C β' st' w') rfl hnew (T4 av) hS rfl hr fun hb=>?_
    have hlt:i - nid<σr.length:=by omega
    have:=(hcl hb).2
    rw[Am] at this
    rw[hσ,Ad,Aa hlt]
    exact this _ (List.getElem_mem hlt)
   rw[ho',if_neg hi]
   by_cases hg:st.o i=.gone
   ·rw[hg];trivial
   exact (r.ob i).step s (if_neg hi) fun b hb=>hkeep b (r.rng i b hg hb).1
  ·intro i j b hi hj h1 h2
   have h1:(if _ then _ else _)=_:=h1
   have h2:(if _ then _ else _)=_:=h2
   rw[ho'] at hi hj
   by_cases ci:nid<=i/\i<nid+σr.length
   ·rw[if_pos ci] at h1 hi
    rw[hshift] at hi
    by_cases cj:nid<=j/\j<nid+σr.length
    ·rw[if_pos cj] at h2 hj
     rw[hshift] at hj
     have:=r1.inj _ _ b hi hj h1 h2
     omega
    rw[if_neg cj] at h2 hj
    have:=(r.rng j b hj h2).1
    have:=(hlt1 _ b hi h1).1
    omega
   rw[if_neg ci] at h1 hi
   by_cases cj:nid<=j/\j<nid+σr.length
   ·rw[if_pos cj] at h2 hj
    rw[hshift] at hj
    have:=(r.rng i b hi h1).1
    have:=(hlt1 _ b hj h2).1
    omega
   rw[if_neg cj] at h2 hj
   exact r.inj i j b hi hj h1 h2
  ·intro i b hi h1
   have h1:(if _ then _ else _)=_:=h1
   rw[ho'] at hi
   have hsz:=r.kp.size
   by_cases ci:nid<=i/\i<nid+σr.length
   ·rw[if_pos ci] at h1 hi
    rw[hshift] at hi
    have:=hlt1 _ b hi h1
    exact⟨this.2,.inl (by omega)⟩
   rw[if_neg ci] at h1 hi
   have:=r.rng i b hi h1
   have h3:=r1.kp.size
   have h3:w.heap.size<=w'.heap.size:=h3
   exact⟨by omega,this.2⟩
  have h3:=r1.kp.size
  have h3:w.heap.size<=w'.heap.size:=h3
  have h4:=r.kp.size
  exact⟨r1.kp.os.trans r.kp.os,r1.kp.tape.trans r.kp.tape,r1.kp.output.trans r.kp.output,by omega,fun b hb hm=>(hkeep b (by omega)).trans (r.kp.block b hb hm)⟩
 refine⟨β',?_⟩
 show Es E β' ((st.put o.dst _).sets _) _ w'
 rw[Aan]
 refine r2.put ?_ o.dst hd
 exact Ea.back (C1:=E'.C β1 ⟨[(0,res)],σr⟩ w') (C2:=E.C β' st' w') rfl hnew (T4 av) hS (r1.sl 0) fun hb=>(hcl hb).1
end
end Go.Proofs.YtkkimgjinbaemaaGreat
