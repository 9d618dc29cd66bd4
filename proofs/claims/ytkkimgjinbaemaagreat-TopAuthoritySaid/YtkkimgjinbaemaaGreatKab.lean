/- The walk. -/
import Derived.Test.YtkkimgjinbaemaaGreatKaa
noncomputable section
namespace Go.Proofs.YtkkimgjinbaemaaGreat
open Go.RowKit
set_option linter.unusedVariables false
set_option linter.unusedSimpArgs false
set_option linter.defProp false
set_option linter.unusedSectionVars false
set_option maxRecDepth 100000
set_option maxHeartbeats 4000000
section
variable {P:Program}
theorem R0 (t:TypeId):P.elem t=Ed P t:=rfl
def tpl (P:Program) (t:TypeId):List (Nat×Nat):=match P.underlying t with
 | some (.struct fs)=>fs.toList.map fun f=>(f.offset,Gj P f.type)
 | some (.array n e)=>(List.range n).map fun i=>(i*Gj P e,Gj P e)
 | _=>[]
def S0 (P:Program) (t:TypeId):Bool:=match P.underlying t with
 | some (.struct fs)=>fs.all fun f=>tok P f.type
 | _=>false
def Aqm (P:Program) (t:TypeId):Option Nat:=match P.underlying t with
 | some (.array n _)=>some n
 | _=>none
variable {t:TypeId}
theorem Adr (h:S0 P t=true):∃fs,P.underlying t=some (.struct fs)/\(∀f∈fs,tok P f.type=true)/\tpl P t=fs.toList.map fun f=>(f.offset,Gj P f.type):=by
 unfold S0 at h
 split at h
 ·rename_i fs he
  exact⟨fs,he,fun f hf=>by simpa using (Array.all_eq_true'.1 h) f hf,by simp[tpl,he]⟩
 cases h
def Qj (P:Program) (s:TypeId) (x:AV) (f:Nat) (o:Nat->Ob):Mp :=
 let c:=S0 P s=true/\f<(tpl P s).length/\((tpl P s).getD f (0,0)).2≠0
 let d:=((tpl P s).getD f (0,0)).1
 match x with
 | .ptr id off=>⟨.ptr id (off+d),[],c⟩
 | .rptr id n i off=>⟨.rptr id n i (off+d),[],n=(Lu (o id)).length/\c⟩
 | .iptr fr cs off=>⟨.iptr fr cs (off+d),[],c⟩
 | _=>.bad
variable {w:World} {u:Value}
theorem Ax1 {C:VC} {s:TypeId} {x:AV} {f:Nat} (hx:Ec C x u) (hc:(Qj P s x f C.ob).c) :
 ∃v,(Instr.fieldAt s u f).run P w=.ok v w/\Ec C (Qj P s x f C.ob).v v/\(Qj P s x f C.ob).up=[]:=by
 have hrun:∀b off,(S0 P s=true/\f<(tpl P s).length/\((tpl P s).getD f (0,0)).2≠0)->(Instr.fieldAt s (.pointer (some ⟨b,off,none⟩)) f).run P w=.ok (.pointer (some ⟨b,off+((tpl P s).getD f (0,0)).1,none⟩)) w:=by
  rintro b off ⟨h1,h2,h3⟩
  obtain⟨fs,hu,hk,hp⟩:=Adr h1
  rw[hp] at h2 h3 ⊢
  rw[A2] at h2
  have hf:fs[f]? = some fs[f]:=by simp
  have hg:((fs.toList.map fun f=>(f.offset,Gj P f.type)).getD f (0,0))=(fs[f].offset,Gj P fs[f].type):=by
   rw[Ad,Ap];simp[hf]
  rw[hg] at h3 ⊢
  simp only[Instr.fieldAt,Sem.run_bind,run_underlying hu,Result.andThen_ok,hf,Instr.sureAddr,Sem.run_pure,fieldPlace,Mw (hk _ (Array.getElem_mem _)),h3,if_false,Addr.add_lit]
 cases hx with
 | ptr id off u h =>
  obtain⟨ty,cs,b,ho,hb,rfl⟩:=h
  exact⟨_,hrun b off hc,.ptr _ _ _ ⟨ty,cs,b,ho,hb,rfl⟩,rfl⟩
 | rptr id n i off u h =>
  obtain⟨h0,ty,k,fr,fz,es,ho,hn,hu⟩:=h
  obtain⟨e,hc⟩:=hc
  rw[ho] at e
  obtain⟨b,hb,rfl⟩:=hu e
  exact⟨_,hrun b _ hc,.rptr _ _ _ _ _ ⟨rfl,ty,k,fr,fz,es,ho,hn,fun _=>⟨b,hb,by rw[Af]⟩⟩,rfl⟩
 | iptr fr cs off b o cur ty fz us h1 h2 h3 =>
  refine⟨_,hrun b _ hc,?_,rfl⟩
  have:=Ec.iptr (C:=C) fr cs (off+((tpl P s).getD f (0,0)).1) b o cur ty fz us h1 h2 h3
  rw[<- Af] at this
  exact this
 | _=>simp[Qj,Mp.bad] at hc
def Qi (P:Program) (t:TypeId) (x ix:AV) (o:Nat->Ob):Mp :=
 let i:=(Fy ix).toNat
 match x with
 | .imm fr k es=>⟨.iptr fr (es.getD i []) 0,[],Ow ix=true/\Hv P t=true/\tok P (Ed P t)=true/\k=Gj P (Ed P t)/\0<=Fy ix/\Fy ix<es.length⟩
 | .own id n=>⟨.rptr id n i 0,[],Ow ix=true/\Hv P t=true/\tok P (Ed P t)=true/\F8 (o id)=true/\T4 (o id)=Gj P (Ed P t)/\n=(Lu (o id)).length/\0<=Fy ix/\Fy ix<n⟩
 | .sub id n lo m=>⟨.rptr id n (lo+i) 0,[],Ow ix=true/\Hv P t=true/\tok P (Ed P t)=true/\F8 (o id)=true/\T4 (o id)=Gj P (Ed P t)/\n=(Lu (o id)).length/\0<=Fy ix/\Fy ix<m⟩
 | .bsl id n=>⟨.ptr id (i*Gj P (Ed P t)),[],Ow ix=true/\Hv P t=true/\tok P (Ed P t)=true/\0<=Fy ix/\Fy ix<n⟩
 | .ptr id off=>⟨.ptr id (off+i*Gj P (Ed P t)),[],Ow ix=true/\tok P (Ed P t)=true/\0<=Fy ix/\∃m,Aqm P t=some m/\Fy ix<m⟩
 | .iptr fr cs off=>⟨.iptr fr cs (off+i*Gj P (Ed P t)),[],Ow ix=true/\tok P (Ed P t)=true/\0<=Fy ix/\∃m,Aqm P t=some m/\Fy ix<m⟩
 | _=>.bad
variable {k:IntKind}
theorem Q7 (h1:Hv P t=true) (h2:tok P (Ed P t)=true) {b off n c:Nat} {i:Int} (h3:0<=i) (h4:i<n) :
 (Instr.indexAt t (.slice (some ⟨b,off,none⟩) n c) (.int k i)).run P w=.ok (.pointer (some ⟨b,off+i.toNat*Gj P (Ed P t),none⟩)) w:=by
 rw[run_indexAt_slice w t _ n c k i (Fv h1),if_pos ⟨h3,h4⟩,R0,Mw h2,Result.andThen_ok,Addr.add_lit]
theorem Agl {m:Nat} (h:Aqm P t=some m):P.underlying t=some (.array m (Ed P t)):=by
 unfold Aqm at h
 unfold Ed
 split at h
 ·rename_i n e he
  injection h with h
  subst h
  rw[he]
 cases h
theorem Zk {m:Nat} (h1:Aqm P t=some m) (h2:tok P (Ed P t)=true) {b off:Nat} {i:Int} (h3:0<=i) (h4:i<m) :
 (Instr.indexAt t (.pointer (some ⟨b,off,none⟩)) (.int k i)).run P w=.ok (.pointer (some ⟨b,off+i.toNat*Gj P (Ed P t),none⟩)) w:=by
 have hl:P.arrayLen t=m:=by simp[Program.arrayLen,Agl h1]
 rw[run_indexAt_array w t _ k i (by rw[hl,R0];exact Agl h1),hl,if_pos ⟨h3,h4⟩,R0,Mw h2,Result.andThen_ok,Addr.add_lit]
variable {β:Nat->Option Nat}
theorem Axo {E:Gs} {st:St} {a:Act} (r:Eu E β st a w) {x ix:AV} {u ui:Value} (hx:Ec (E.C β st w) x u) (hi:Ec (E.C β st w) ix ui) (hc:(Qi P t x ix st.o).c) :
 ∃v,(Instr.indexAt t u ui).run P w=.ok v w/\Ec (E.C β st w) (Qi P t x ix st.o).v v/\(Qi P t x ix st.o).up=[]:=by
 cases hx with
 | imm fr k es u h =>
  obtain⟨c1,c2,c3,c4,c5,c6⟩:=hc
  obtain⟨kk,rfl⟩:=Ir c1 hi
  cases h with
  | nil k A c=>simp at c6;omega
  | sl k es b off c cur ty fz us h1 h2 h3 h4 h5 h6 =>
   refine⟨_,Q7 c2 c3 c5 c6,?_,rfl⟩
   have he:es[(Fy ix).toNat]? = some (es.getD (Fy ix).toNat []):=by rw[Ad,Aa (by omega)];rfl
   have:=Ec.iptr (C:=E.C β st w) fr (es.getD (Fy ix).toNat []) 0 b (off+(Fy ix).toNat*k) cur ty fz (us (Fy ix).toNat) h1 h2 fun j x hx=>⟨h5 _ _ j x he hx,h6 _ _ j x he hx⟩
   rw[Nat.add_zero] at this
   rw[<- c4]
   exact this
 | own id n u h =>
  obtain⟨c1,c2,c3,c4,c5,c6,c7,c8⟩:=hc
  obtain⟨kk,rfl⟩:=Ir c1 hi
  obtain⟨ty,fz,ho⟩:=K3 c4
  rcases r.own_val ho h c6 with⟨_,he,_⟩ | ⟨b,cur,c,hb,g1,g2,g3,g4,rfl,g5⟩
  ·rw[he] at c6;simp at c6;omega
  refine⟨_,Q7 c2 c3 c7 (by rw[<- c6];exact c8),?_,rfl⟩
  refine .rptr _ _ _ _ _ ⟨rfl,ty,_,_,fz,_,ho,by omega,fun _=>⟨b,hb,?_⟩⟩
  rw[Bm,Nat.add_zero,c5]
 | sub id n lo m u h =>
  obtain⟨c1,c2,c3,c4,c5,c6,c7,c8⟩:=hc
  obtain⟨kk,rfl⟩:=Ir c1 hi
  obtain⟨ty,fz,ho⟩:=K3 c4
  obtain⟨_,ty',k',fr',fz',es',ho',_,h5⟩:=h
  have ho':st.o id=_:=ho'
  rw[ho] at ho'
  injection ho' with e1 e2 e3 e4 e5
  subst e1 e2 e3 e4 e5
  obtain⟨h6,A,c,rfl,h7,_,h8⟩:=h5 c6
  rcases h8 with h8 | ⟨b,hb,rfl⟩
  ·omega
  refine⟨_,Q7 c2 c3 c7 c8,?_,rfl⟩
  refine .rptr _ _ _ _ _ ⟨rfl,ty,_,_,fz,_,ho,by omega,fun _=>⟨b,hb,?_⟩⟩
  rw[Nat.add_zero,c5,Be]
 | bsl id n u h =>
  obtain⟨c1,c2,c3,c5,c6⟩:=hc
  obtain⟨kk,rfl⟩:=Ir c1 hi
  obtain⟨ty,cs,b,c,ho,hb,rfl,hle⟩:=h
  refine⟨_,Q7 c2 c3 c5 c6,?_,rfl⟩
  exact .ptr _ _ _ ⟨ty,cs,b,ho,hb,by rw[Bm]⟩
 | ptr id off u h =>
  obtain⟨c1,c3,c5,m,c4,c6⟩:=hc
  obtain⟨kk,rfl⟩:=Ir c1 hi
  obtain⟨ty,cs,b,ho,hb,rfl⟩:=h
  exact⟨_,Zk c4 c3 c5 c6,.ptr _ _ _ ⟨ty,cs,b,ho,hb,rfl⟩,rfl⟩
 | iptr fr cs off b o cur ty fz us h1 h2 h3 =>
  obtain⟨c1,c3,c5,m,c4,c6⟩:=hc
  obtain⟨kk,rfl⟩:=Ir c1 hi
  refine⟨_,Zk c4 c3 c5 c6,?_,rfl⟩
  have:=Ec.iptr (C:=E.C β st w) fr cs (off+(Fy ix).toNat*Gj P (Ed P t)) b o cur ty fz us h1 h2 h3
  rw[<- Af] at this
  exact this
 | _=>simp[Qi,Mp.bad] at hc
def R9:Option AV->Int
 | some v=>Fy v
 | none=>0
def Ub (n:Nat):Option AV->Int
 | some v=>Fy v
 | none=>n
def Iu (P:Program) (t:TypeId) (x:AV) (lo hi:Option AV) (o:Nat->Ob):Mp :=
 let ok:=(∀v,lo=some v->Ow v=true)/\(∀v,hi=some v->Ow v=true)/\Hv P t=true/\tok P (Ed P t)=true
 match x with
 | .nil k=>⟨.nil k,[],ok/\R9 lo=0/\Ub 0 hi=0⟩
 | .imm fr k es=>⟨.imm fr k ((es.take (Ub es.length hi).toNat).drop (R9 lo).toNat),[],ok/\k=Gj P (Ed P t)/\0<=R9 lo/\R9 lo<=Ub es.length hi/\Ub es.length hi<=es.length⟩
 | .own id n=>⟨.sub id n (R9 lo).toNat ((Ub n hi).toNat - (R9 lo).toNat),[],ok/\F8 (o id)=true/\T4 (o id)=Gj P (Ed P t)/\n=(Lu (o id)).length/\0<=R9 lo/\R9 lo<=Ub n hi/\Ub n hi<=n⟩
 | .sub id n a m=>⟨.sub id n (a+(R9 lo).toNat) ((Ub m hi).toNat - (R9 lo).toNat),[],ok/\F8 (o id)=true/\T4 (o id)=Gj P (Ed P t)/\n=(Lu (o id)).length/\0<=R9 lo/\R9 lo<=Ub m hi/\Ub m hi<=m⟩
 | _=>.bad
variable {lo hi:Option AV} {ulo uhi:Option Value}
theorem Kt (h1:Hv P t=true) (h2:tok P (Ed P t)=true) {A:Option Addr} {n c:Nat} (hnc:n<=c) {C:VC} (hlo:∀v,lo=some v->Ow v=true/\∃u,ulo=some u/\Ec C v u) (hlo':lo=none->ulo=none) (hhi:∀v,hi=some v->Ow v=true/\∃u,uhi=some u/\Ec C v u) (hhi':hi=none->uhi=none) (h3:0<=R9 lo) (h4:(R9 lo)<=(Ub n hi)) (h5:(Ub n hi)<=n) :
  (Instr.sliceAt t (.slice A n c) ulo uhi none).run P w=.ok (sliced A (R9 lo).toNat (Ub n hi).toNat c (Gj P (Ed P t))) w:=by
 have ht:=Fv h1
 rw[run_sliceAt_slice w t _ _ _ _ ht]
 cases lo with
 | none =>
  have:=hlo' rfl
  subst this
  cases hi with
  | none =>
   have:=hhi' rfl
   subst this
   rw[run_slice_all w t A n c ht,R0,Mw h2];rfl
  | some v =>
   obtain⟨e1,u,rfl,e2⟩:=hhi v rfl
   obtain⟨k,rfl⟩:=Ir e1 e2
   simp only[R9,Ub] at h3 h4 h5 ⊢
   rw[run_slice_h w t A n c ht k _ (by omega) (by omega),R0,Mw h2];rfl
 | some v =>
  obtain⟨e1,u,rfl,e2⟩:=hlo v rfl
  obtain⟨k,rfl⟩:=Ir e1 e2
  cases hi with
  | none =>
   have:=hhi' rfl
   subst this
   simp only[R9,Ub] at h3 h4 h5 ⊢
   rw[run_slice_l w t A n c ht k _ h3 (by omega),R0,Mw h2];rfl
  | some v2 =>
   obtain⟨e3,u,rfl,e4⟩:=hhi v2 rfl
   obtain⟨k2,rfl⟩:=Ir e3 e4
   simp only[R9,Ub] at h3 h4 h5 ⊢
   rw[run_slice_lh w t A n c ht k k2 _ _ h3 (by omega) (by omega),R0,Mw h2];rfl
theorem Awa {E:Gs} {st:St} {a:Act} (r:Eu E β st a w) {x:AV} (hx:Ec (E.C β st w) x u) (hlo:∀v,lo=some v->∃u,ulo=some u/\Ec (E.C β st w) v u) (hlo':lo=none->ulo=none) (hhi:∀v,hi=some v->∃u,uhi=some u/\Ec (E.C β st w) v u) (hhi':hi=none->uhi=none) (hc:(Iu P t x lo hi st.o).c) :
  ∃v,(Instr.sliceAt t u ulo uhi none).run P w=.ok v w/\Ec (E.C β st w) (Iu P t x lo hi st.o).v v/\(Iu P t x lo hi st.o).up=[]:=by
 cases hx with
 | nil k A =>
  obtain⟨⟨c1,c2,c3,c4⟩,c5,c6⟩:=hc
  refine⟨_,Kt c3 c4 (Aj 0) (fun v e=>⟨c1 v e,hlo v e⟩) hlo' (fun v e=>⟨c2 v e,hhi v e⟩) hhi' (by omega) (by omega) (by omega),?_,rfl⟩
  rw[c5,c6]
  exact .nil _ _
 | imm fr k es u h =>
  obtain⟨⟨c1,c2,c3,c4⟩,rfl,c5,c6,c7⟩:=hc
  cases h with
  | nil k A c =>
   have a1:=c7
   simp only[List.length_nil] at c5 c6 c7
   refine⟨_,Kt c3 c4 (Ae c) (fun v e=>⟨c1 v e,hlo v e⟩) hlo' (fun v e=>⟨c2 v e,hhi v e⟩) hhi' c5 c6 c7,?_,rfl⟩
   simp only[Iu,List.take_nil,List.drop_nil,sliced]
   refine .imm _ _ _ _ ?_
   have e0:(Ub 0 hi).toNat - (R9 lo).toNat=0:=by omega
   rw[e0]
   exact .nil _ _ _
  | sl k es b off c cur ty fz us h1 h2 h3 h4 h5 h6 =>
   refine⟨_,Kt c3 c4 h3 (fun v e=>⟨c1 v e,hlo v e⟩) hlo' (fun v e=>⟨c2 v e,hhi v e⟩) hhi' c5 c6 c7,?_,rfl⟩
   simp only[Iu]
   generalize hL:R9 lo=L at c5 c6 c7 ⊢
   generalize hH:Ub es.length hi=H at c5 c6 c7 ⊢
   refine .imm _ _ _ _ ?_
   have hlen:((es.take H.toNat).drop L.toNat).length=H.toNat - L.toNat:=by rw[Bc,A5];omega
   have hget:∀(i:Nat) (e:List T),((es.take H.toNat).drop L.toNat)[i]? = some e->es[L.toNat+i]? = some e:=fun i e he=>by
    have hi:i<H.toNat - L.toNat:=by rw[<- hlen];exact (Ab.1 he).1
    rw[Bd,Ag (by omega)] at he
    exact he
   unfold sliced
   rw[<- hlen]
   by_cases hcl:c=L.toNat
   ·have:(es.take H.toNat).drop L.toNat=[]:=List.eq_nil_of_length_eq_zero (by omega)
    rw[this]
    exact .nil _ _ _
   rw[if_neg hcl]
   simp only[Ai,Addr.add_lit]
   refine .sl _ _ b _ _ cur ty fz (fun i j=>us (L.toNat+i) j) h1 h2 (by omega) (fun i e he=>h4 _ e (hget i e he)) (fun i e j x he hx=>?_) (fun i e j x he hx=>h6 _ e j x (hget i e he) hx)
   rw[<- h5 _ e j x (hget i e he) hx]
   congr 1
   rw[Be]
   omega
 | own id n u h =>
  obtain⟨⟨c1,c2,c3,c4⟩,c8,c9,c10,c5,c6,c7⟩:=hc
  obtain⟨ty,fz,ho⟩:=K3 c8
  have hval:∃A c,u=.slice A n c/\n<=c/\(c=0\/∃b,β id=some b/\A=some ⟨b,0,none⟩):=by
   rcases r.own_val ho h c10 with⟨_,e,A,rfl⟩ | ⟨b,cur,c,hb,_,_,g3,_,rfl,_⟩
   ·rw[e] at c10
    exact⟨A,0,by rw[c10];rfl,by rw[c10];exact Aj _,.inl rfl⟩
   exact⟨_,c,by rw[<- c10],by omega,.inr ⟨b,hb,rfl⟩⟩
  obtain⟨A,c,rfl,hnc,hA⟩:=hval
  refine⟨_,Kt c3 c4 hnc (fun v e=>⟨c1 v e,hlo v e⟩) hlo' (fun v e=>⟨c2 v e,hhi v e⟩) hhi' c5 c6 c7,?_,rfl⟩
  simp only[Iu]
  generalize hL:R9 lo=L at c5 c6 c7 ⊢
  generalize hH:Ub n hi=H at c5 c6 c7 ⊢
  unfold sliced
  refine .sub _ _ _ _ _ ⟨rfl,ty,_,_,fz,_,ho,by omega,fun _=>⟨by omega,_,_,rfl,by omega,by omega,?_⟩⟩
  by_cases h0:c=L.toNat
  ·exact .inl (by omega)
  rcases hA with hA | ⟨b,hb,rfl⟩
  ·exact .inl (by omega)
  refine .inr ⟨b,hb,?_⟩
  rw[if_neg h0]
  simp only[Ai,Addr.add_lit,Bm,c9]
 | sub id n lo' m u h =>
  obtain⟨⟨c1,c2,c3,c4⟩,c8,c9,c10,c5,c6,c7⟩:=hc
  obtain⟨ty,fz,ho⟩:=K3 c8
  obtain⟨_,ty',k',fr',fz',es',ho',_,h5⟩:=h
  have ho':st.o id=_:=ho'
  rw[ho] at ho'
  injection ho' with e1 e2 e3 e4 e5
  subst e1 e2 e3 e4 e5
  obtain⟨h6,A,c,rfl,hnc,hes,hA⟩:=h5 c10
  refine⟨_,Kt c3 c4 hnc (fun v e=>⟨c1 v e,hlo v e⟩) hlo' (fun v e=>⟨c2 v e,hhi v e⟩) hhi' c5 c6 c7,?_,rfl⟩
  simp only[Iu]
  generalize hL:R9 lo=L at c5 c6 c7 ⊢
  generalize hH:Ub m hi=H at c5 c6 c7 ⊢
  unfold sliced
  refine .sub _ _ _ _ _ ⟨rfl,ty,_,_,fz,_,ho,by omega,fun _=>⟨by omega,_,_,rfl,by omega,by omega,?_⟩⟩
  by_cases h0:c=L.toNat
  ·exact .inl (by omega)
  rcases hA with hA | ⟨b,hb,rfl⟩
  ·exact .inl (by omega)
  refine .inr ⟨b,hb,?_⟩
  rw[if_neg h0]
  simp only[Ai,Addr.add_lit,c9,Be]
 | _=>simp[Iu,Mp.bad] at hc
end
section
variable {P:Program}
theorem Akf (off:Nat):∀(vs:List Value) (n:Nat) (cs:Array Value) (p:Nat),off+n+vs.length<=cs.size->((vs.zipIdx n).foldl (fun (cs:Array Value) (x:Value×Nat)=>cs.setIfInBounds (off+x.2) x.1) cs)[p]? = if off+n<=p/\p<off+n+vs.length then vs[p - (off+n)]? else cs[p]?
 | [],n,cs,p,_=>by simp;omega
 | v::vs,n,cs,p,h=>by
  simp only[A6] at h
  rw[List.zipIdx_cons,List.foldl_cons,Akf off vs (n+1) _ p (by simp;omega)]
  simp only[A6]
  by_cases h1:off+(n+1)<=p/\p<off+(n+1)+vs.length
  ·rw[if_pos h1,if_pos (by omega),show p - (off+n)=(p - (off+(n+1)))+1 by omega,Bb]
  rw[if_neg h1,Array.getElem?_setIfInBounds]
  by_cases h2:off+n=p
  ·subst h2
   rw[if_pos rfl,if_pos (by omega),if_pos (by omega)];simp
  rw[if_neg h2,if_neg (by omega)]
theorem Ahk (off:Nat):∀(vs:List Value) (n:Nat) (cs:Array Value),((vs.zipIdx n).foldl (fun (cs:Array Value) (x:Value×Nat)=>cs.setIfInBounds (off+x.2) x.1) cs).size=cs.size
 | [],n,cs=>rfl
 | v::vs,n,cs=>by rw[List.zipIdx_cons,List.foldl_cons,Ahk off vs];simp
theorem Ape (off:Nat) (v cs:Array Value) (h:off+v.size<=cs.size):(v.zipIdx.foldl (fun (cs:Array Value) (x:Value×Nat)=>cs.setIfInBounds (off+x.2) x.1) cs).size=cs.size /\
 ∀p,(v.zipIdx.foldl (fun (cs:Array Value) (x:Value×Nat)=>cs.setIfInBounds (off+x.2) x.1) cs)[p]? = if off<=p/\p<off+v.size then v[p - off]? else cs[p]?:=by
 have e:v.zipIdx.foldl (fun (cs:Array Value) (x:Value×Nat)=>cs.setIfInBounds (off+x.2) x.1) cs=(v.toList.zipIdx 0).foldl (fun (cs:Array Value) (x:Value×Nat)=>cs.setIfInBounds (off+x.2) x.1) cs:=by
  rw[<- Array.foldl_toList];simp
 rw[e]
 refine⟨Ahk off _ 0 cs,fun p=>?_⟩
 rw[Akf off v.toList 0 cs p (by simpa using h)]
 simp
def Ad5 (pl:List (Nat×Nat)) (cs:List AV):List (Nat×AV)->List AV
 | []=>cs
 | p::ps=>Ad5 pl (K4 cs (pl.getD p.1 (0,0)).1 p.2.cl) ps
def As5 (pl:List (Nat×Nat)) (n:Nat):List (Nat×AV)->Prop
 | []=>True
 | p::ps=>(p.1<pl.length/\(pl.getD p.1 (0,0)).2=p.2.cl.length/\(pl.getD p.1 (0,0)).1+p.2.cl.length<=n/\∀c∈p.2.cl,c.one=true)/\As5 pl n ps
theorem Abt (pl:List (Nat×Nat)):∀(ps:List (Nat×AV)) (cs:List AV),(Ad5 pl cs ps).length=cs.length
 | [],_=>rfl
 | p::ps,cs=>by rw[Ad5,Abt pl ps,Fr]
inductive Sh (C:VC):List (Nat×AV)->List (Nat×Value)->Prop
  | nil:Sh C [] []
  | cons {i:Nat} {v:AV} {u:Value} {ps:List (Nat×AV)} {us:List (Nat×Value)}:Ec C v u->Sh C ps us->Sh C ((i,v)::ps) ((i,u)::us)
theorem Amg {C:VC} {pl:List (Nat×Nat)} {place:Nat->Option (Nat×Nat)} (hp:∀i,i<pl.length->place i=some (pl.getD i (0,0))):∀{ps:List (Nat×AV)} {us:List (Nat×Value)} (hr:Sh C ps us) {cs:List AV} {cells:Array Value},
 cells.size=cs.length->(∀(j:Nat) (c:AV) (u:Value),cs[j]? = some c->cells[j]? = some u->Ec C c u)->As5 pl cs.length ps ->
  ∃cells',Instr.fill place cells us=some cells'/\cells'.size=cs.length/\∀(j:Nat) (c:AV) (u:Value),(Ad5 pl cs ps)[j]? = some c->cells'[j]? = some u->Ec C c u
 | _,_,.nil,cs,cells,hs,hc,_=>⟨cells,rfl,hs,hc⟩
 | _,_,.cons (i:=i) (v:=v) (u:=u) (ps:=ps) (us:=us) hv hr,cs,cells,hs,hc,⟨⟨h1,h2,h3,h4⟩,h5⟩=>by
  have h1:i<pl.length:=h1
  have h2:(pl.getD i (0,0)).2=v.cl.length:=h2
  have h3:(pl.getD i (0,0)).1+v.cl.length<=cs.length:=h3
  have h4:∀c∈v.cl,c.one=true:=h4
  obtain⟨e1,e2⟩:=hv.cells h4
  obtain⟨g1,g2⟩:=Ape (pl.getD i (0,0)).1 u.cells cells (by omega)
  have hfill:Instr.fill place cells ((i,u)::us)=Instr.fill place (u.cells.zipIdx.foldl (fun (cs:Array Value) (x:Value×Nat)=>cs.setIfInBounds ((pl.getD i (0,0)).1+x.2) x.1) cells) us:=by
   rw[Instr.fill,hp i h1]
   simp only[]
   rw[if_neg]
   simp only[Bool.or_eq_true,bne_iff_ne,ne_eq,decide_eq_true_eq,not_or,Decidable.not_not]
   exact⟨by omega,by omega⟩
  rw[hfill]
  obtain⟨cells',q1,q2,q3⟩:=Amg hp hr (cs:=K4 cs (pl.getD i (0,0)).1 v.cl) (cells:=u.cells.zipIdx.foldl (fun (cs:Array Value) (x:Value×Nat)=>cs.setIfInBounds ((pl.getD i (0,0)).1+x.2) x.1) cells) (by rw[g1,Fr,hs]) (fun j c x hj hx=>by
   rw[g2] at hx
   rw[Jy] at hj
   by_cases hin:(pl.getD i (0,0)).1<=j/\j<(pl.getD i (0,0)).1+v.cl.length
   ·rw[if_pos (by omega)] at hj hx
    exact (e2 _ c x hj hx).1
   rw[if_neg (by omega)] at hj hx
   exact hc j c x hj hx) (by rw[Fr];exact h5)
  exact⟨cells',q1,by rw[q2,Fr],q3⟩
def Aci (P:Program) (t:TypeId) (ps:List (Nat×AV)):Mp :=
 ⟨.agg (Ad5 (tpl P t) (Hj P t) ps),[],zok P t=true/\(S0 P t=true\/((Aqm P t).isSome=true/\tok P (Ed P t)=true))/\As5 (tpl P t) (Gj P t) ps⟩
theorem Aj9 {α β:Type} {f:α->Option β} {g:α->β}:∀(l:List α),(∀x∈l,f x=some (g x))->l.mapM f=some (l.map g)
 | [],_=>rfl
 | x::l,h=>by
  rw[List.mapM_cons,h x (by simp),Aj9 l fun y hy=>h y (by simp[hy])]
  rfl
variable {C:VC} {w:World} {t:TypeId} {ps:List (Nat×AV)}
theorem Ayb {us:Array (Nat×Value)} (hr:Sh C ps us.toList) (hc:(Aci P t ps).c) :
 ∃v,(Instr.build t us).run P w=.ok v w/\Ec C (Aci P t ps).v v:=by
 obtain⟨h1,h2,h3⟩:=hc
 obtain⟨i,z,hi,hz,hsz,hzs,htl,hcell⟩:=Q2 h1
 rw[<- htl] at h3
 have hbase:∀(j:Nat) (c:AV) (u:Value),(Hj P t)[j]? = some c->z.cells[j]? = some u->Ec C c u:=fun j c u hc hu=>(hcell j c u hc hu).1 C
 have fin:∀cells',P.built t us.toList=some cells'->cells'.size=(Hj P t).length->(∀(j:Nat) (c:AV) (u:Value),(Ad5 (tpl P t) (Hj P t) ps)[j]? = some c->cells'[j]? = some u->Ec C c u)->∃v,(Instr.build t us).run P w=.ok v w/\Ec C (Aci P t ps).v v:=fun cells' e1 e2 e3 =>
  ⟨_,run_build w t us cells' e1,.agg _ _ (by rw[Abt,e2]) e3⟩
 rcases h2 with h2 | ⟨h2,h4⟩
 ·obtain⟨fs,hu,hk,hp⟩:=Adr h2
  have hpl:fs.toList.mapM (fun f=>(P.info? f.type).map fun i=>(f.offset,i.size))=some (fs.toList.map fun f=>(f.offset,Gj P f.type)):=Aj9 _ fun f hf=>by
   have:=hk f (by simpa using hf)
   simp only[tok,Ah] at this
   obtain⟨j,hj⟩:=Option.isSome_iff_exists.1 this.2
   simp[hj,Gj]
  obtain⟨cells',q1,q2,q3⟩:=Amg (C:=C) (pl:=tpl P t) (place:=fun i=>(fs.toList.map fun f=>(f.offset,Gj P f.type)).toArray[i]?) (fun i hi=>by
   rw[hp] at hi ⊢
   rw[List.getElem?_toArray,Ad,Aa hi];rfl) hr (by rw[hzs,htl]) hbase h3
  exact fin cells' (by simp only[Program.built,hi,hu,hz,hpl];exact q1) q2 q3
 obtain⟨n,hn⟩:=Option.isSome_iff_exists.1 h2
 have hu:=Agl hn
 simp only[tok,Ah] at h4
 obtain⟨ie,hie⟩:=Option.isSome_iff_exists.1 h4.2
 have hte:Gj P (Ed P t)=ie.size:=by simp[Gj,hie]
 have htp:tpl P t=(List.range n).map fun i=>(i*ie.size,ie.size):=by simp only[tpl,hu,hte]
 obtain⟨cells',q1,q2,q3⟩:=Amg (C:=C) (pl:=tpl P t) (place:=fun i=>some (i*ie.size,ie.size)) (fun i hi=>by
  rw[htp] at hi ⊢
  rw[A2,List.length_range] at hi
  rw[Ad,Ap,List.getElem?_range hi];rfl) hr (by rw[hzs,htl]) hbase h3
 exact fin cells' (by simp only[Program.built,hi,hu,hz,hie];exact q1) q2 q3
def Adk (P:Program) (t:TypeId) (len:Nat) (ps:List (Nat×AV)) (nid:Nat):Mp :=
 ⟨.own nid len,[(nid,.row (Ed P t) (Gj P (Ed P t)) (ps.all fun p=>p.2.cl.all AV.fresh) false (ps.map fun p=>p.2.cl.map AV.toT))],
  Hv P t=true/\zok P (Ed P t)=true/\0<Gj P (Ed P t)/\ps.map (·.1)=List.range len/\(∀p∈ps,p.2.cl.length=Gj P (Ed P t)/\∀c∈p.2.cl,c.laid=true)/\len*Gj P (Ed P t)<=16777216⟩
variable {us:List (Nat×Value)}
theorem Sh.length (h:Sh C ps us):ps.length=us.length:=by
 induction h with
 | nil=>rfl
 | cons _ _ ih=>simp[ih]
theorem Sh.fst (h:Sh C ps us):ps.map (·.1)=us.map (·.1):=by
 induction h with
 | nil=>rfl
 | cons _ _ ih=>simp[ih]
theorem Sh.get (h:Sh C ps us):∀(i:Nat) (p:Nat×AV) (u:Nat×Value),ps[i]? = some p->us[i]? = some u->Ec C p.2 u.2:=by
 induction h with
 | nil=>intro i p u hp;simp at hp
 | cons h1 _ ih =>
  intro i p u hp hu
  cases i with
  | zero=>simp at hp hu;subst hp hu;exact h1
  | succ i=>simp at hp hu;exact ih i p u hp hu
theorem Apd {k:Nat}:∀(us:List (Nat×Value)) (n:Nat) (cells:Array Value),us.map (·.1)=List.range' n us.length->(∀u∈us,u.2.cells.size=k)->(n+us.length)*k<=cells.size ->
 ∃cells',Instr.fill (fun i=>some (i*k,k)) cells us=some cells'/\cells'.size=cells.size/\(∀p,p<n*k->cells'[p]? = cells[p]?)/\∀(q:Nat) (u:Nat×Value) (j:Nat),us[q]? = some u->j<k->cells'[(n+q)*k+j]? = u.2.cells[j]?
 | [],n,cells,_,_,_=>⟨cells,rfl,rfl,fun _ _=>rfl,fun q u j h=>by simp at h⟩
 | (i,u)::us,n,cells,h1,h2,h3=>by
  simp only[List.map_cons,A6,List.range'_succ,List.cons.injEq] at h1
  obtain⟨rfl,h1⟩:=h1
  have hk:=h2 (i,u) (by simp)
  have hk:u.cells.size=k:=hk
  simp only[A6] at h3
  have hle:i*k+k<=cells.size:=by
   have:=A1 k (show i+1<=i+(us.length+1) by omega)
   rw[Be] at this;omega
  obtain⟨g1,g2⟩:=Ape (i*k) u.cells cells (by omega)
  obtain⟨cells',q1,q2,q3,q4⟩:=Apd (k:=k) us (i+1) _ h1 (fun x hx=>h2 x (by simp[hx])) (by rw[g1];rw[show i+1+us.length=i+(us.length+1) by omega];exact h3)
  refine⟨cells',?_,by rw[q2,g1],fun p hp=>?_,fun q x j hq hj=>?_⟩
  ·rw[Instr.fill]
   simp only[]
   rw[if_neg]
   ·exact q1
   simp only[Bool.or_eq_true,bne_iff_ne,ne_eq,decide_eq_true_eq,not_or,Decidable.not_not]
   exact⟨hk,by omega⟩
  ·rw[q3 p (by rw[Be];omega),g2,if_neg (by omega)]
  cases q with
  | zero =>
   simp at hq
   subst hq
   rw[Nat.add_zero,q3 _ (by rw[Be];omega),g2,if_pos (by omega),show i*k+j - i*k=j by omega]
  | succ q =>
   simp at hq
   rw[show i+(q+1)=i+1+q by omega]
   exact q4 q x j hq hj
theorem A0a {E:Gs} {β:Nat->Option Nat} {st:St} {a:Act} (r:Eu E β st a w) {nid:Nat} (hn:st.o nid=.gone) {len:Nat} {us:Array (Nat×Value)} (hr:Sh (E.C β st w) ps us.toList) (hc:(Adk P t len ps nid).c) :
 ∃u w' β' o,(Instr.buildSlice t len us).run P w=.ok u w'/\(Adk P t len ps nid).up=[(nid,o)]/\Eu E β' (st.set nid o) a w'/\Ec (E.C β' (st.set nid o) w') (Adk P t len ps nid).v u:=by
 obtain⟨h1,h2,h3,h4,h5,h6⟩:=hc
 obtain⟨i,z,hi,hz,hsz,hzs,htl,_⟩:=Q2 h2
 have hlen:ps.length=len:=by have:=congrArg List.length h4;simpa using this
 have hul:us.toList.length=len:=by rw[<- hr.length,hlen]
 have hbase:((Array.range (len*Gj P (Ed P t))).map (z.cells[· % z.cells.size]!)).size=len*Gj P (Ed P t):=by simp
 have hcl:∀(q:Nat) (p:Nat×AV) (u:Nat×Value),ps[q]? = some p->us.toList[q]? = some u->u.2.cells.size=Gj P (Ed P t)/\∀(j:Nat) (c:AV) (x:Value),p.2.cl[j]? = some c->u.2.cells[j]? = some x->Ec (E.C β st w) c x:=fun q p u hp hu=>by
  have hm:=h5 p (Ac hp)
  obtain⟨e1,e2⟩:=(hr.get q p u hp hu).cells fun c hc=>AV.laid_one (hm.2 c hc)
  exact⟨by rw[e1,hm.1],fun j c x hc hx=>(e2 j c x hc hx).1⟩
 obtain⟨cells',q1,q2,_,q4⟩:=Apd (k:=Gj P (Ed P t)) us.toList 0 ((Array.range (len*Gj P (Ed P t))).map (z.cells[· % z.cells.size]!)) (by rw[<- hr.fst,h4,hul,List.range_eq_range']) (fun u hu=>by
  obtain⟨q,hq⟩:=A3.1 hu
  have hlt:q<ps.length:=by rw[hlen,<- hul];exact (Ab.1 hq).1
  exact (hcl q _ u (Aa hlt) hq).1) (by rw[Bm,hul,hbase];exact Aj _)
 have hrun:(Instr.buildSlice t len us).run P w=.ok (.slice (some ⟨w.heap.size,0,none⟩) len len) (w.alloc (.cells cells' (Ed P t))):=by
  have hz2:(zeroValue (Ed P t)).run P w=.ok z w:=by simp[zeroValue,typeInfo,hi,hz]
  have htk:tok P (Ed P t)=true:=by simp only[zok,Ah] at h2;exact h2.1.1.1.1
  by_cases h0:len*Gj P (Ed P t)=0
  ·have e:cells' = #[]:=Array.eq_empty_of_size_eq_zero (by rw[q2,hbase,h0])
   have e0:((Array.range (len*Gj P (Ed P t))).map (z.cells[· % z.cells.size]!)) = #[]:=Array.eq_empty_of_size_eq_zero (by rw[hbase,h0])
   rw[e0] at q1
   have e1:(Array.map (fun (x:Nat)=>(default:Value)) (Array.range 0)) = #[]:=Array.eq_empty_of_size_eq_zero (by simp)
   simp[Instr.buildSlice,run_underlying (Fv h1),Mw htk,h0,e1,q1,newRow]
  have h6':¬len*Gj P (Ed P t) > 16777216:=by omega
  simp[Instr.buildSlice,run_underlying (Fv h1),Mw htk,h0,h6',hz2,q1,newRow]
 obtain⟨p1,p2⟩:=Alt (ty:=Ed P t) (fr:=ps.all fun p=>p.2.cl.all AV.fresh) r hn (es:=ps.map fun p=>p.2.cl.map AV.toT) (cur:=cells') (c:=len) h3
  (fun i e he=>by
   rw[Ap] at he
   cases hp:ps[i]? with
   | none=>rw[hp] at he;cases he
   | some p =>
    rw[hp] at he
    simp only[Ai,Option.some.injEq] at he
    rw[<- he,A2,(h5 p (Ac hp)).1]) (by rw[q2,hbase]) (by rw[A2,hlen];exact Aj _) (by
   have:len<=len*Gj P (Ed P t):=Nat.le_mul_of_pos_right _ h3
   simp only[maxLen];omega) (fun i e j x he hx=>by
   rw[Ap] at he
   cases hp:ps[i]? with
   | none=>rw[hp] at he;cases he
   | some p =>
    rw[hp] at he
    simp only[Ai,Option.some.injEq] at he
    subst he
    rw[Ap] at hx
    cases hq:p.2.cl[j]? with
    | none=>rw[hq] at hx;cases hx
    | some c =>
     rw[hq] at hx
     simp only[Ai,Option.some.injEq] at hx
     subst hx
     have hlt:i<us.toList.length:=by rw[hul,<- hlen];exact (Ab.1 hp).1
     have hu:=Aa hlt
     have hm:=h5 p (Ac hp)
     obtain⟨e1,e2⟩:=hcl i p _ hp hu
     have hj:j<Gj P (Ed P t):=by rw[<- hm.1];exact (Ab.1 hq).1
     have hx:=Al (xs:=us.toList[i].2.cells) (i:=j) (by omega)
     refine⟨_,?_,(e2 j c _ hq hx).toT (hm.2 c (Ac hq)) fun hf=>?_⟩
     ·have:=q4 i _ j hu hj
      rw[Bm] at this
      rw[this,hx]
     have hf':=Am.1 hf p (Ac hp)
     exact Am.1 hf' c (Ac hq))
 rw[A2,hlen] at p2
 exact⟨_,_,_,_,hrun,rfl,p1,p2⟩
end
section
variable {P:Program}
mutual
def AV.shift (N:Nat):AV->AV
 | .own id n=>.own (N+id) n
 | .sub id n lo m=>.sub (N+id) n lo m
 | .ptr id off=>.ptr (N+id) off
 | .rptr id n i off=>.rptr (N+id) n i off
 | .bsl id n=>.bsl (N+id) n
 | .agg cs=>.agg (Pf N cs)
 | .tup cs=>.tup (Pf N cs)
 | .fn f cs=>.fn f (Pf N cs)
 | .gd t v=>.gd t (v.shift N)
 | .any=>.any
 | .lit v=>.lit v
 | .nil k=>.nil k
 | .imm fr k es=>.imm fr k es
 | .iptr fr cs off=>.iptr fr cs off
def Pf (N:Nat):List AV->List AV
 | []=>[]
 | c::cs=>c.shift N::Pf N cs
end
theorem Pe (N:Nat):∀(cs:List AV) (i:Nat),(Pf N cs)[i]? = (cs[i]?).map (AV.shift N)
 | [],i=>by simp[Pf]
 | c::cs,0=>by simp[Pf]
 | c::cs,i+1=>by simp[Pf,Pe N cs i]
theorem Mg (N:Nat):∀(cs:List AV),(Pf N cs).length=cs.length
 | []=>rfl
 | c::cs=>by simp[Pf,Mg N cs]
def AV.sv:AV->AV
 | .gd _ v=>v.sv
 | v=>v
def AV.sb:AV->Bool
 | .gd t v=>t&&v.sb
 | _=>true
variable {C:VC} {v:AV} {u:Value}
theorem Ec.sv (h:Ec C v u):(v.sb=true->Ec C v.sv u)/\(v.sb=false->u=undef):=by
 induction h with
 | gd t v u h1 h2 ih =>
  cases t with
  | false=>exact⟨fun e=>by simp[AV.sb] at e,fun _=>h2 rfl⟩
  | true =>
   have:=ih rfl
   simpa[AV.sb,AV.sv] using this
 | any u=>exact⟨fun _=>.any u,fun e=>by cases e⟩
 | lit v=>exact⟨fun _=>.lit v,fun e=>by cases e⟩
 | nil k A=>exact⟨fun _=>.nil k A,fun e=>by cases e⟩
 | imm fr k es u h=>exact⟨fun _=>.imm fr k es u h,fun e=>by cases e⟩
 | own id n u h=>exact⟨fun _=>.own id n u h,fun e=>by cases e⟩
 | sub id n lo m u h=>exact⟨fun _=>.sub id n lo m u h,fun e=>by cases e⟩
 | ptr id off u h=>exact⟨fun _=>.ptr id off u h,fun e=>by cases e⟩
 | rptr id n i off u h=>exact⟨fun _=>.rptr id n i off u h,fun e=>by cases e⟩
 | bsl id n u h=>exact⟨fun _=>.bsl id n u h,fun e=>by cases e⟩
 | iptr fr cs off b o cur ty fz us h1 h2 h3=>exact⟨fun _=>.iptr fr cs off b o cur ty fz us h1 h2 h3,fun e=>by cases e⟩
 | agg cs us h1 h2 _=>exact⟨fun _=>.agg cs us h1 h2,fun e=>by cases e⟩
 | tup cs us h1 h2 _=>exact⟨fun _=>.tup cs us h1 h2,fun e=>by cases e⟩
 | fn f cs us h1 h2 _=>exact⟨fun _=>.fn f cs us h1 h2,fun e=>by cases e⟩
theorem Nb (h:Ik v=true) (r:Ec C v u):v=.lit (.bool (Fh v))/\u=.bool (Fh v):=by
 unfold Ik at h
 split at h
 ·cases r;exact⟨rfl,rfl⟩
 cases h
def Ey (op:BinOp) (k:IntKind) (a b:Int):Int :=
 match op with
 | .and=>k.wrap (BitVec.ofInt k.bits a &&& BitVec.ofInt k.bits b).toNat
 | .or=>k.wrap (BitVec.ofInt k.bits a ||| BitVec.ofInt k.bits b).toNat
 | .xor=>k.wrap (BitVec.ofInt k.bits a ^^^ BitVec.ofInt k.bits b).toNat
 | _=>k.wrap (BitVec.ofInt k.bits a &&& ~~~BitVec.ofInt k.bits b).toNat
def Aqd (op:BinOp) (k:IntKind) (a b:Int):Value×Prop :=
 match op with
 | .add=>(.int k (k.wrap (a+b)),True)
 | .sub=>(.int k (k.wrap (a - b)),True)
 | .mul=>(.int k (k.wrap (a*b)),True)
 | .quo=>(.int k (k.wrap (a.tdiv b)),b≠0)
 | .rem=>(.int k (a.tmod b),b≠0)
 | .and=>(.int k (Ey .and k a b),True)
 | .or=>(.int k (Ey .or k a b),True)
 | .xor=>(.int k (Ey .xor k a b),True)
 | .andNot=>(.int k (Ey .andNot k a b),True)
 | .shl=>(.int k (k.wrap (a*2 ^ min b.toNat k.bits)),0<=b)
 | .shr=>(.int k (a.fdiv (2 ^ min b.toNat k.bits)),0<=b)
 | .eql=>(.bool (a == b),True)
 | .neq=>(.bool (a != b),True)
 | .lss=>(.bool (decide (a<b)),True)
 | .leq=>(.bool (decide (a<=b)),True)
 | .gtr=>(.bool (decide (a > b)),True)
 | .geq=>(.bool (decide (a >= b)),True)
def Av4 (P:Program) (t:TypeId):Bool:=match P.underlying t with
 | some .bool=>true
 | _=>false
def Aul:List AV->List AV->Bool
 | .lit (.int k _)::cs,.lit (.int k' _)::ds=>(k == k')&&Aul cs ds
 | [],[]=>true
 | _,_=>false
def Al9:List AV->List AV->Bool
 | .lit (.int _ a)::cs,.lit (.int _ b)::ds=>(a == b)&&Al9 cs ds
 | _,_=>true
def A2r (op:BinOp) (b:Bool):Bool:=if op matches .eql then b else !b
def Amd (P:Program):Nat->List Field->Bool
 | _,[]=>true
 | o,f::fs=>((f.name != "_" && f.offset == o)&&(match P.underlying f.type with
  | some (.int _)=>true
  | _=>false))&&Amd P (o+1) fs
def Atp (P:Program) (t:TypeId) (n:Nat):Bool:=match P.underlying t with
 | some (.struct fs)=>((fs.size == n&&Amd P 0 fs.toList) && !P.stoodInHeld t) && !P.eqGuardType P.depth t
 | _=>false
def Ak7 (P:Program) (op:BinOp) (xt:TypeId) (x y:AV):Mp :=
 match x,y with
 | .lit (.int k a),.lit (.int k' b)=>⟨.lit (Aqd op k a b).1,[],(k=k'\/op=.shl\/op=.shr)/\(Aqd op k a b).2⟩
 | .lit (.bool a),.lit (.bool b)=>⟨.lit (.bool (if op matches .eql then a == b else !(a == b))),[],Av4 P xt=true/\(op=.eql\/op=.neq)⟩
 | .lit (.string a),.lit (.string b)=>⟨.lit (.bool (if op matches .eql then a.toList == b.toList else !(a.toList == b.toList))),[],op=.eql\/op=.neq⟩
 | .agg cs,.agg ds=>⟨.lit (.bool (A2r op (Al9 cs ds))),[],Atp P xt cs.length=true/\Aul cs ds=true/\(op=.eql\/op=.neq)⟩
 | _,_=>.bad
variable {xt:TypeId}
theorem Agu (hu:P.underlying xt=some .bool) (a b:Bool) (w:World):(Op.equal xt (.bool a) (.bool b)).run P w=.ok (a == b) w:=by
 have h:∀d,(Op.equalIn (d+1) xt (.bool a) (.bool b)).run P w=.ok (a == b) w:=fun d=>by
  rw[Op.equalIn]
  simp only[Sem.run_bind,run_underlying hu,Result.andThen_ok,Sem.run_pure]
 exact h 9999
theorem eqF {C:VC} {w:World} {xs ys:Array Value} {d:Nat}:∀(fs:List Field) (cs ds:List AV) (o:Nat),Amd P o fs=true->fs.length=cs.length->Aul cs ds=true ->
 (∀(i:Nat) (c:AV),cs[i]? = some c->∃u,xs[o+i]? = some u/\Ec C c u)->(∀(i:Nat) (c:AV),ds[i]? = some c->∃u,ys[o+i]? = some u/\Ec C c u) ->
 (Op.eqFields (d+1) xs ys fs).run P w=.ok (Al9 cs ds) w
 | [],[],ds,o,_,_,hi,_,_=>by
  match ds,hi with
  | [],_=>simp[Op.eqFields,Al9]
 | f::fs,[],ds,o,_,hl,_,_,_=>by cases hl
 | [],c::cs,ds,o,_,hl,_,_,_=>by cases hl
 | f::fs,c::cs,ds,o,hf,hl,hi,hx,hy=>by
  match c,ds,hi with
  | .lit (.int k a),.lit (.int k' b)::ds,hi =>
   simp only[Aul,Ah,beq_iff_eq] at hi
   simp only[Amd,Ah,bne_iff_ne,ne_eq,beq_iff_eq] at hf
   obtain⟨⟨⟨h1,h2⟩,h3⟩,h4⟩:=hf
   obtain⟨k2,hk2⟩:∃k2,P.underlying f.type=some (.int k2):=by
    split at h3
    ·rename_i k2 hk;exact⟨k2,hk⟩
    cases h3
   have hp:P.plainKey f.type=true:=by unfold Program.plainKey;rw[hk2]
   obtain⟨u,hu,ru⟩:=hx 0 _ rfl
   cases ru
   obtain⟨u,hv,rv⟩:=hy 0 _ rfl
   cases rv
   obtain⟨rfl,hi2⟩:=hi
   have ih:=eqF (w:=w) (d:=d) fs cs ds (o+1) h4 (by simpa using hl) hi2 (fun i c hc=>by have:=hx (i+1) c hc;rwa[show o+(i+1)=o+1+i by omega] at this) (fun i c hc=>by have:=hy (i+1) c hc;rwa[show o+(i+1)=o+1+i by omega] at this)
   rw[Op.eqFields,if_pos h1]
   simp only[Sem.run_bind]
   rw[run_part_plain (w:=w) hp (by rw[h2];exact hu),Result.andThen_ok,run_part_plain (w:=w) hp (by rw[h2];exact hv),Result.andThen_ok,run_equalIn_int w d f.type k k2 a b hk2,Result.andThen_ok]
   by_cases hab:a=b
   ·subst hab
    simp[ih,Al9]
   have hne:(a == b)=false:=by simp[hab]
   simp[hne,Al9]
variable {w:World} {op:BinOp} {ox oy:Operand}
theorem A0r {cs ds:List AV} {us vs:Array Value} (h1:cs.length=us.size) (h2:∀(i:Nat) (c:AV) (u:Value),cs[i]? = some c->us[i]? = some u->Ec C c u) (h3:ds.length=vs.size) (h4:∀(i:Nat) (c:AV) (u:Value),ds[i]? = some c->vs[i]? = some u->Ec C c u) (hs:Atp P xt cs.length=true) (hi:Aul cs ds=true) (ho:op=.eql\/op=.neq):(do eqGuard op xt ox oy (.agg us) (.agg vs);binOp op xt (.agg us) (.agg vs):Sem Value).run P w=.ok (.bool (A2r op (Al9 cs ds))) w:=by
 unfold Atp at hs
 split at hs
 case h_2=>cases hs
 rename_i fs hu
 simp only[Ah,Bool.not_eq_true',beq_iff_eq] at hs
 obtain⟨⟨⟨a1,a2⟩,a3⟩,a4⟩:=hs
 have hf:P.fieldsOf xt=fs:=by unfold Program.fieldsOf;rw[hu]
 have hu':P.underlying xt=some (.struct (P.fieldsOf xt)):=by rw[hf];exact hu
 have he:=eqF (P:=P) (C:=C) (w:=w) (xs:=us) (ys:=vs) (d:=9998) fs.toList cs ds 0 a2 (by simpa using a1) hi
  (fun i c hc=>by
   have hl:=(Ab.1 hc).1
   have hg:us[i]? = some us[i]:=Al (by omega)
   exact⟨_,by rw[Bm];exact hg,h2 i c _ hc hg⟩)
  (fun i c hc=>by
   have hl:=(Ab.1 hc).1
   have hg:vs[i]? = some vs[i]:=Al (by omega)
   exact⟨_,by rw[Bm];exact hg,h4 i c _ hc hg⟩)
 have hE:(Op.equalIn 10000 xt (.agg us) (.agg vs)).run P w=.ok (Al9 cs ds) w:=by
  rw[show (10000:Nat)=9999+1 from rfl,run_equalIn_agg w 9999 xt us vs hu' a3,hf]
  exact he
 simp only[Sem.run_bind]
 rw[run_eqGuard_agg w op xt ox oy us vs a4,Result.andThen_ok]
 rcases ho with rfl | rfl
 ·rw[run_eql_struct,hE];rfl
 rw[run_neq_struct,hE];rfl
theorem A2l {x y:AV} {ux uy:Value} (hx:Ec C x ux) (hy:Ec C y uy) (hc:(Ak7 P op xt x y).c) :
 ∃v,(do eqGuard op xt ox oy ux uy;binOp op xt ux uy:Sem Value).run P w=.ok v w/\Ec C (Ak7 P op xt x y).v v/\(Ak7 P op xt x y).up=[]:=by
 unfold Ak7 at hc ⊢
 split at hc
 ·rename_i k a k' b
  cases hx
  cases hy
  obtain⟨h1,h2⟩:=hc
  refine⟨_,?_,.lit _,rfl⟩
  have hg:(eqGuard op xt ox oy (.int k a) (.int k' b)).run P w=.ok () w:=by
   unfold eqGuard
   cases op<;>rfl
  simp only[Sem.run_bind,hg,Result.andThen_ok]
  by_cases hs:op=.shl\/op=.shr
  ·rcases hs with rfl | rfl<;>simp only[Aqd] at h2<;>simp[binOp,Op.shift,Aqd,show ¬b<0 by omega]
  have hk:k=k':=by
   rcases h1 with h1 | h1
   ·exact h1
   exact absurd h1 hs
  subst hk
  cases op<;>first
   | exact absurd (Or.inl rfl) hs
   | exact absurd (Or.inr rfl) hs
   | (simp only[Aqd] at h2;simp[binOp,Op.intArith,Op.intDiv,Op.intBits,Op.intCmp,Aqd,Ey,h2])
 ·rename_i a b
  cases hx
  cases hy
  obtain⟨h1,h2⟩:=hc
  have hu:P.underlying xt=some .bool:=by
   unfold Av4 at h1
   split at h1
   ·assumption
   cases h1
  refine⟨_,?_,.lit _,rfl⟩
  have he:=Agu hu a b w
  rcases h2 with rfl | rfl
  ·have hg:(eqGuard .eql xt ox oy (.bool a) (.bool b)).run P w=.ok () w:=rfl
   have hb:binOp .eql xt (.bool a) (.bool b)=(do pure (.bool (<- Op.equal xt (.bool a) (.bool b)))):=rfl
   simp only[Sem.run_bind,hg,Result.andThen_ok,hb,he,Sem.run_pure]
   simp
  have hg:(eqGuard .neq xt ox oy (.bool a) (.bool b)).run P w=.ok () w:=rfl
  have hb:binOp .neq xt (.bool a) (.bool b)=(do pure (.bool (!(<- Op.equal xt (.bool a) (.bool b))))):=rfl
  simp only[Sem.run_bind,hg,Result.andThen_ok,hb,he,Sem.run_pure]
  simp
 ·rename_i a b
  cases hx
  cases hy
  refine⟨_,?_,.lit _,rfl⟩
  rcases hc with rfl | rfl
  ·have hg:(eqGuard .eql xt ox oy (.string a) (.string b)).run P w=.ok () w:=rfl
   simp[hg,binOp,Op.stringOp]
  have hg:(eqGuard .neq xt ox oy (.string a) (.string b)).run P w=.ok () w:=rfl
  simp[hg,binOp,Op.stringOp]
 ·rename_i cs ds
  cases hx with
  | agg _ us h1 h2 =>
   cases hy with
   | agg _ vs h3 h4 =>
    exact⟨_,A0r h1 h2 h3 h4 hc.1 hc.2.1 hc.2.2,.lit _,rfl⟩
 exact hc.elim
def vun (op:UnOp) (x:AV):Mp :=
 match op,x with
 | .not,.lit (.bool b)=>⟨.lit (.bool !b),[],True⟩
 | .neg,.lit (.int k n)=>⟨.lit (.int k (k.wrap (0 - n))),[],True⟩
 | .xor,.lit (.int k n)=>⟨.lit (.int k (Ey .xor k (if k.signed then -1 else k.max) n)),[],True⟩
 | _,_=>.bad
variable {x:AV}
theorem A3j {op:UnOp} {ux:Value} (hx:Ec C x ux) (hc:(vun op x).c) :
 ∃v,(Op.unary op ux).run P w=.ok v w/\Ec C (vun op x).v v/\(vun op x).up=[]:=by
 unfold vun at hc ⊢
 split at hc
 ·cases hx;exact⟨_,rfl,.lit _,rfl⟩
 ·cases hx;exact⟨_,rfl,.lit _,rfl⟩
 ·cases hx;exact⟨_,rfl,.lit _,rfl⟩
 exact hc.elim
def Amj:List T->Int
 | [.lit (.int .u8 n)]=>n
 | _=>0
def Ac6:List T->Bool
 | [.lit (.int .u8 n)]=>true
 | _=>false
def Aa8 (es:List (List T)):ByteArray:=(es.map Amj).foldl (fun r n=>r.push (UInt8.ofNat n.toNat)) ByteArray.empty
def Acr (P:Program) (t:TypeId):Option IntKind:=match P.underlying t with
 | some (.int k)=>some k
 | _=>none
def Yh (P:Program) (t:TypeId):Bool:=match P.underlying t with
 | some .string=>true
 | _=>false
def Ss (P:Program) (src dst:TypeId) (x:AV) (o:Nat->Ob):Mp :=
 match x with
 | .lit (.int _ n)=>match Acr P dst with
  | some k=>⟨.lit (.int k (k.wrap n)),[],(P.underlying src).isSome=true⟩
  | none=>.bad
 | x=>⟨.lit (.string (Aa8 (Gw o x))),[],Hv P src=true/\Acr P (Ed P src)=some .u8/\Yh P dst=true/\Ae1 o 1 x/\(Gw o x).all Ac6=true⟩
variable {t:TypeId}
theorem An7 {k:IntKind} (h:Acr P t=some k):P.underlying t=some (.int k):=by
 unfold Acr at h
 split at h
 ·rename_i k' he;injection h with h;subst h;exact he
 cases h
theorem An2 (h:Yh P t=true):P.underlying t=some .string:=by
 unfold Yh at h
 split at h
 ·assumption
 cases h
variable {E:Gs} {β:Nat->Option Nat} {st:St} {a:Act} {src dst:TypeId}
theorem Ax6 (r:Eu E β st a w) (hx:Ec (E.C β st w) x u) (hc:Hv P src=true/\Acr P (Ed P src)=some .u8/\Yh P dst=true/\Ae1 st.o 1 x/\(Gw st.o x).all Ac6=true) :
  ∃v,(convert src dst u).run P w=.ok v w/\Ec (E.C β st w) (.lit (.string (Aa8 (Gw st.o x)))) v:=by
 obtain⟨h1,h2,h3,h4,h5⟩:=hc
 have hs:=Aac r hx h4
 have hu1:=Fv h1
 have hu2:=An7 h2
 have hu3:=An2 h3
 have hrun:∀A n c,(convert src dst (.slice A n c)).run P w=(Conv.bytesToString (.slice A n c)).run P w:=fun A n c=>by
  simp[convert,run_underlying hu1,run_underlying hu2,run_underlying hu3]
 by_cases he:Gw st.o x=[]
 ·obtain⟨A,c,rfl,_⟩:=hs
  rw[he]
  refine⟨.string ByteArray.empty,?_,.lit _⟩
  rw[hrun]
  cases A with
  | none=>rfl
  | some a=>exact run_bytesToString w a 0 c [] (by simpa using run_loadCells_list (P:=P) w a [] (by simp))
 obtain⟨b,off,c,news,rfl,n1,n2,n3,n4⟩:=hs.news (by decide) w rfl he
 obtain⟨_,_,_,_,hel,_⟩:=hs
 have hnews:news=((Gw st.o x).map Amj).map (Value.int .u8):=by
  apply List.ext_getElem?
  intro i
  by_cases hi:i<(Gw st.o x).length
  ·have hie:=Aa hi
   have hb:=Am.1 h5 _ (List.getElem_mem hi)
   rw[List.map_map,Ap,hie]
   unfold Ac6 at hb
   split at hb
   ·rename_i n hn
    rw[hn] at hie
    obtain⟨v,p1,p2⟩:=n4 i _ 0 _ hie rfl
    rw[Nat.mul_one,Nat.add_zero] at p1
    rw[p1]
    cases p2
    simp[hn,Amj]
   cases hb
  rw[Ar (by omega),Ar (by simp;omega)]
 refine⟨_,?_,.lit _⟩
 rw[hrun]
 have:=run_loadCells_list (P:=P) w ⟨b,off,none⟩ news n2
 rw[n1,Nat.mul_one,hnews] at this
 exact run_bytesToString w _ _ c _ this
theorem A0p (r:Eu E β st a w) (hx:Ec (E.C β st w) x u) (hc:(Ss P src dst x st.o).c) :
 ∃v,(convert src dst u).run P w=.ok v w/\Ec (E.C β st w) (Ss P src dst x st.o).v v/\(Ss P src dst x st.o).up=[]:=by
 by_cases hn:Ow x=true
 ·obtain⟨k',rfl⟩:=Ir hn hx
  unfold Ow at hn
  split at hn
  ·rename_i k'' n
   simp only[Ss] at hc ⊢
   cases hd:Acr P dst with
   | none=>rw[hd] at hc;exact hc.elim
   | some k =>
    rw[hd] at hc
    obtain⟨d,hd'⟩:=Option.isSome_iff_exists.1 hc
    cases hx
    refine⟨_,?_,.lit _,rfl⟩
    simp[convert,run_underlying hd',run_underlying (An7 hd),Conv.intToInt,Fy]
  cases hn
 have e:Ss P src dst x st.o=⟨.lit (.string (Aa8 (Gw st.o x))),[],Hv P src=true/\Acr P (Ed P src)=some .u8/\Yh P dst=true/\Ae1 st.o 1 x/\(Gw st.o x).all Ac6=true⟩:=by
  unfold Ss
  split
  ·simp[Ow] at hn
  rfl
 rw[e] at hc ⊢
 obtain⟨v,h1,h2⟩:=Ax6 r hx hc
 exact⟨v,h1,h2,rfl⟩
def Aef (P:Program) (t:TypeId) (x:AV) (o:Nat->Ob):Mp :=
 match x with
 | .nil _=>⟨.lit (.int .i64 0),[],Hv P t=true⟩
 | .imm _ _ es=>⟨.lit (.int .i64 es.length),[],Hv P t=true⟩
 | .own id n=>⟨.lit (.int .i64 n),[],Hv P t=true/\F8 (o id)=true/\n=(Lu (o id)).length⟩
 | .bsl _ n=>⟨.lit (.int .i64 n),[],Hv P t=true⟩
 | .sub id n _ m=>⟨.lit (.int .i64 m),[],Hv P t=true/\F8 (o id)=true/\n=(Lu (o id)).length⟩
 | _=>.bad
theorem A2c (r:Eu E β st a w) {t ty:TypeId} (hx:Ec (E.C β st w) x u) (hc:(Aef P t x st.o).c) :
 ∃v,(Builtin.len_ #[t] ty #[u]).run P w=.ok v w/\Ec (E.C β st w) (Aef P t x st.o).v v/\(Aef P t x st.o).up=[]:=by
 have hrun:Hv P t=true->∀A n c,(Builtin.len_ #[t] ty #[.slice A n c]).run P w=.ok (.int .i64 n) w:=fun h A n c=>run_len_slice w t ty A n c (Fv h)
 cases hx with
 | nil k A=>exact⟨_,hrun hc A 0 0,.lit _,rfl⟩
 | imm fr k es u h=>cases h with
  | nil k A c=>exact⟨_,hrun hc A 0 c,.lit _,rfl⟩
  | sl k es b off c cur ty fz us h1 h2 h3 h4 h5 h6=>exact⟨_,hrun hc _ _ c,.lit _,rfl⟩
 | own id n u h =>
  obtain⟨c1,c2,c3⟩:=hc
  obtain⟨ty',fz,ho⟩:=K3 c2
  rcases r.own_val ho h c3 with⟨_,e,A,rfl⟩ | ⟨b,cur,c,hb,_,_,g3,_,rfl,_⟩
  ·have e0:n=0:=by rw[c3,e];rfl
   subst e0
   exact⟨_,hrun c1 A 0 0,.lit _,rfl⟩
  rw[<- c3]
  exact⟨_,hrun c1 _ n c,.lit _,rfl⟩
 | bsl id n u h =>
  obtain⟨ty',cs,b,c,ho,hb,rfl,hle⟩:=h
  exact⟨_,hrun hc _ n c,.lit _,rfl⟩
 | sub id n lo m u h =>
  obtain⟨c1,c2,c3⟩:=hc
  obtain⟨ty',fz,ho⟩:=K3 c2
  obtain⟨_,ty',k',fr',fz',es',ho',_,h5⟩:=h
  have ho':st.o id=_:=ho'
  rw[ho] at ho'
  injection ho' with e1 e2 e3 e4 e5
  subst e1 e2 e3 e4 e5
  obtain⟨h6,A,c,rfl,_⟩:=h5 c3
  exact⟨_,hrun c1 A m c,.lit _,rfl⟩
 | _=>simp[Aef,Mp.bad] at hc
def Hl (mx:Bool) (x y:AV):Mp :=
 match x,y with
 | .lit (.int k a),.lit (.int _ b)=>⟨.lit (.int k (if mx then (if b > a then b else a) else (if b<a then b else a))),[],True⟩
 | _,_=>.bad
def Avu (x y z:AV):Mp:=⟨(Hl false (Hl false x y).v z).v,[],(Hl false x y).c/\(Hl false (Hl false x y).v z).c⟩
def Ak5 (x:AV) (i:Nat):Mp :=
 match x with
 | .tup vs=>⟨vs.getD i .any,[],i<vs.length⟩
 | _=>.bad
theorem A2h {i:Nat} (hx:Ec C x u) (hc:(Ak5 x i).c) :
 ∃v,(Instr.extract u i).run P w=.ok v w/\Ec C (Ak5 x i).v v/\(Ak5 x i).up=[]:=by
 cases hx with
 | tup cs us h1 h2 =>
  have hc:i<cs.length:=hc
  have hi:i<us.size:=by omega
  refine⟨us[i],?_,?_,rfl⟩
  ·simp[Instr.extract,hi]
  show Ec C (cs.getD i .any) us[i]
  rw[Ad,Aa hc]
  exact h2 i _ _ (Aa hc) (Al hi)
 | _=>simp[Ak5,Mp.bad] at hc
def Aik (x:AV):Mp :=
 match x with
 | .ptr id off=>⟨.ptr id off,[],True⟩
 | .iptr fr cs off=>⟨.iptr fr cs off,[],True⟩
 | .fn f cs=>⟨.fn f cs,[],True⟩
 | _=>.bad
def Ai7 (P:Program) (t:TypeId):AV->AV
 | .nil _=>.nil (Gj P (Ed P t))
 | v=>v
theorem Amf (h:Ec C v u):Ec C (Ai7 P t v) u:=by
 cases h with
 | nil k A=>exact .nil _ A
 | any u=>exact .any u
 | lit v=>exact .lit _
 | imm fr k es u h=>exact .imm fr k es u h
 | own id n u h=>exact .own id n u h
 | sub id n lo m u h=>exact .sub id n lo m u h
 | ptr id off u h=>exact .ptr id off u h
 | rptr id n i off u h=>exact .rptr id n i off u h
 | bsl id n u h=>exact .bsl id n u h
 | iptr fr cs off b o cur ty fz us h1 h2 h3=>exact .iptr fr cs off b o cur ty fz us h1 h2 h3
 | agg cs us h1 h2=>exact .agg cs us h1 h2
 | tup cs us h1 h2=>exact .tup cs us h1 h2
 | fn f cs us h1 h2=>exact .fn f cs us h1 h2
 | gd t v u h1 h2=>exact .gd t v u h1 h2
def Aau (c a b:AV):Mp :=
 ⟨.lit (.bool (bif Fh c.sv then Fh a.sv else Fh b.sv)),[],Ik c.sv=true/\c.sb=true/\(Fh c.sv=true->Ik a.sv=true/\a.sb=true)/\(Fh c.sv=false->Ik b.sv=true/\b.sb=true)⟩
end
section
variable {P:Program}
def Amh:Value->AV
 | .slice none 0 0=>.nil 0
 | v=>.lit v
def St.raw (st:St):Operand->AV
 | .tmp t=>E9 st.sl t
 | .const v=>Amh v
 | .global _=>.any
 | .func f=>.fn f []
theorem Are (C:VC) (v:Value):Ec C (Amh v) v:=by
 unfold Amh
 split
 ·exact .nil 0 none
 exact .lit _
variable {β:Nat->Option Nat} {w:World}
theorem M9 {E:Gs} {st:St} {a:Act} (r:Eu E β st a w) (x:Operand):Ec (E.C β st w) (st.raw x) (a.eval x):=by
 cases x with
 | tmp t =>
  exact r.sl t
 | const v=>exact Are _ v
 | global g=>exact .any _
 | func f=>exact .fn f [] #[] rfl fun i c u h=>by simp at h
def Nw (P:Program) (op:Op) (ty:TypeId) (raw:Operand->AV) (o:Nat->Ob) (nid:Nat):Mp :=
 let ev:Operand->AV:=fun x=>(raw x).sv
 match op with
 | .move x=>⟨Ai7 P ty (ev x),[],True⟩
 | .assign x=>⟨Ai7 P ty (ev x),[],True⟩
 | .alloc t=>Aqg P t nid
 | .box t x=>A3h t (ev x) nid
 | .build t ps=>Aci P t (ps.toList.map fun p=>(p.1,ev p.2))
 | .buildSlice t n ps=>Adk P t n (ps.toList.map fun p=>(p.1,ev p.2)) nid
 | .load t x=>J9 P t (ev x) o
 | .store t x v=>It P t (ev x) (Ai7 P t (ev v)) o
 | .nilCheck x=>Aik (ev x)
 | .binOp op xt x y _=>Ak7 P op xt (ev x) (ev y)
 | .unOp op _ x=>vun op (ev x)
 | .convert s d x=>Ss P s d (ev x) o
 | .makeFunc (.func f) first cs=>⟨.fn f (cs.toList.map ev),[],first = #[]⟩
 | .makeSlice t l c=>V8 P t (ev l) (ev c) nid
 | .slice t x lo hi none=>Iu P t (ev x) (lo.map ev) (hi.map ev) o
 | .fieldAddr s x f=>Qj P s (ev x) f o
 | .indexAddr t x i=>Qi P t (ev x) (ev i) o
 | .extract x i=>Ak5 (ev x) i
 | .call { callee:=.builtin b,args,argTypes } =>
  match b,args.toList,argTypes.toList with
  | .len,[x],[t]=>Aef P t (ev x) o
  | .append,[d,x],[t,t']=>let e:=Acj P t (ev d) (ev x) o nid;⟨e.v,e.up,t=t'/\e.c⟩
  | .copy,[d,x],[t,_]=>V9 P t (ev d) (ev x) o
  | .clear,[x],[t]=>Qk P t (ev x) o
  | .min,[x,y],_=>Hl false (ev x) (ev y)
  | .max,[x,y],_=>Hl true (ev x) (ev y)
  | .min,[x,y,z],_=>Avu (ev x) (ev y) (ev z)
  | _,_,_=>.bad
 | _=>.bad
def Ff:Op->Bool
 | .call { callee:=.value _,.. }=>true
 | _=>false
def St.sets (st:St):List (Nat×Ob)->St
 | []=>st
 | (id,o)::l=>(st.set id o).sets l
theorem St.put_set (st:St) (d:Option Tmp) (v:AV) (id:Nat) (o:Ob):(st.put d v).set id o=(st.set id o).put d v:=by cases d<;>rfl
theorem Ad9 (E:Gs) (β:Nat->Option Nat) (st:St) (d:Option Tmp) (v:AV) (w:World):E.C β (st.put d v) w=E.C β st w:=by
 simp only[Gs.C,St.put_o]
def St.after (st:St) (d:Option Tmp) (v:AV) (up:List (Nat×Ob)):St:=(st.put d v).sets up
theorem Ag7 {C:VC} {ev:Operand->AV} {ρ:Operand->Value}:∀(l:List (Nat×Operand)),(∀p∈l,Ec C (ev p.2) (ρ p.2))->Sh C (l.map fun p=>(p.1,ev p.2)) (l.map fun p=>(p.1,ρ p.2))
 | [],_=>.nil
 | p::l,h=>.cons (h p (by simp)) (Ag7 l fun q hq=>h q (by simp[hq]))
theorem Yq {C:VC} {mx:Bool} {x y:AV} {ux uy:Value} (hx:Ec C x ux) (hy:Ec C y uy) (hc:(Hl mx x y).c) :
 ∃v,(if mx then Builtin.max2 ux uy else Builtin.min2 ux uy).run P w=.ok v w/\Ec C (Hl mx x y).v v/\(Hl mx x y).up=[]:=by
 unfold Hl at hc ⊢
 split at hc
 ·cases hx
  cases hy
  cases mx
  ·exact⟨_,rfl,.lit _,rfl⟩
  exact⟨_,rfl,.lit _,rfl⟩
 exact hc.elim
theorem A40 {E:Gs} {st:St} {a:Act} (r:Eu E β st a w) {o:Oper} {nid:Nat} (hd:∀x,o.dst=some x->x<E.n) (hn:∀p∈(Nw P o.op o.type st.raw st.o nid).up,nid<=p.1->st.o p.1=.gone) (hb:∀x∈o.op.operands,(st.raw x).sb=true) (hc:(Nw P o.op o.type st.raw st.o nid).c) {Q:Exit->Act->World->Prop} :
  o.wp P a w (fun a' w'=>∃β',Eu E β' (st.after o.dst (Nw P o.op o.type st.raw st.o nid).v (Nw P o.op o.type st.raw st.o nid).up) a' w') Q:=by
 have hev:∀x∈o.op.operands,Ec (E.C β st w) (st.raw x).sv (a.eval x):=fun x hx=>(M9 r x).sv.1 (hb x hx)
 obtain⟨dst,op,ty,pos,af,gd⟩:=o
 simp only at hc hb hev hd hn ⊢
 have quiet:∀(v:Value) (e:Mp),(execOp a.eval ⟨dst,op,ty,pos,af,gd⟩).run P w=.ok (.value v) w->Ec (E.C β st w) e.v v->e.up=[]->Oper.wp P ⟨dst,op,ty,pos,af,gd⟩ a w (fun a' w'=>∃β',Eu E β' (st.after dst e.v e.up) a' w') Q:=fun v e h1 h2 h3=>by
  unfold Oper.wp
  rw[h1,h3]
  exact⟨β,r.put h2 dst hd⟩
 have noisy:∀(v:Value) (w':World) (β':Nat->Option Nat) (id:Nat) (ob:Ob) (e:Mp),(execOp a.eval ⟨dst,op,ty,pos,af,gd⟩).run P w=.ok (.value v) w'->e.up=[(id,ob)]->Eu E β' (st.set id ob) a w'->Ec (E.C β' (st.set id ob) w') e.v v ->
  Oper.wp P ⟨dst,op,ty,pos,af,gd⟩ a w (fun a' w'=>∃β',Eu E β' (st.after dst e.v e.up) a' w') Q:=fun v w' β' id ob e h1 h2 h3 h4=>by
  unfold Oper.wp
  rw[h1,h2]
  refine⟨β',?_⟩
  show Eu E β' ((st.put dst e.v).set id ob) _ w'
  rw[St.put_set]
  exact h3.put h4 dst hd
 cases op with
 | move x =>
  exact quiet _ _ rfl (Amf (hev x (by simp[Op.operands]))) rfl
 | assign x =>
  exact quiet _ _ rfl (Amf (hev x (by simp[Op.operands]))) rfl
 | alloc t =>
  obtain⟨u,w',β',h1,h2,h3⟩:=Ayi (P:=P) r (hn (nid,_) (by exact An.2 rfl) (Aj _)) hc
  exact noisy u w' β' nid _ _ (by simp[execOp,h1]) rfl h2 h3
 | box t x =>
  obtain⟨u,w',β',h1,h2,h3⟩:=A2k (P:=P) r (hn (nid,_) (by exact An.2 rfl) (Aj _)) (hev x (by simp[Op.operands])) hc
  exact noisy u w' β' nid _ _ (by simp[execOp,h1]) rfl h2 h3
 | build t ps =>
  have hp:Sh (E.C β st w) (ps.toList.map fun p=>(p.1,(st.raw p.2).sv)) (ps.map fun p=>(p.1,a.eval p.2)).toList:=by
   rw[Array.toList_map]
   exact Ag7 (ev:=fun x=>(st.raw x).sv) (ρ:=a.eval) _ fun p hp=>hev p.2 (by simp only[Op.operands,List.mem_toArray,A4];exact⟨p,hp,rfl⟩)
  obtain⟨v,h1,h2⟩:=Ayb (P:=P) (w:=w) hp hc
  exact quiet v _ (by simp[execOp,h1]) h2 rfl
 | buildSlice t n ps =>
  have hp:Sh (E.C β st w) (ps.toList.map fun p=>(p.1,(st.raw p.2).sv)) (ps.map fun p=>(p.1,a.eval p.2)).toList:=by
   rw[Array.toList_map]
   exact Ag7 (ev:=fun x=>(st.raw x).sv) (ρ:=a.eval) _ fun p hp=>hev p.2 (by simp only[Op.operands,List.mem_toArray,A4];exact⟨p,hp,rfl⟩)
  obtain⟨u,w',β',ob,h1,h2,h3,h4⟩:=A0a (P:=P) r (hn (nid,_) (by exact An.2 rfl) (Aj _)) hp hc
  exact noisy u w' β' nid ob _ (by simp[execOp,h1]) h2 h3 h4
 | load t x =>
  obtain⟨v,h1,h2,h3⟩:=Asv (P:=P) r (hev x (by simp[Op.operands])) hc
  exact quiet v _ (by simp[execOp,h1]) h2 h3
 | store t x v =>
  obtain⟨w',id,ob,h1,h2,h3⟩:=Av9 (P:=P) r (hev x (by simp[Op.operands])) (Amf (t:=t) (hev v (by simp[Op.operands]))) hc
  unfold Oper.wp
  have hr:(execOp a.eval ⟨dst,.store t x v,ty,pos,af,gd⟩).run P w=.ok .skip w':=by simp[execOp,h1]
  rw[hr]
  refine⟨β,?_⟩
  simp only[Nw,St.after,h2]
  show Eu E β ((st.put dst _).set id ob) _ w'
  rw[St.put_set]
  refine h3.put ?_ dst hd
  simp only[It]
  split
  ·split<;>exact .any _
  ·split<;>exact .any _
  exact .any _
 | nilCheck x =>
  have hx:=hev x (by simp[Op.operands])
  generalize hq:(st.raw x).sv=q at hx hc
  generalize hu:a.eval x=u at hx
  have hc':(Aik q).c:=by simpa only[Nw,hq] using hc
  have key:∃v,(execOp a.eval ⟨dst,.nilCheck x,ty,pos,af,gd⟩).run P w=.ok (.value v) w/\Ec (E.C β st w) (Aik q).v v/\(Aik q).up=[]:=by
   cases hx with
   | ptr id off u h =>
    obtain⟨_,_,_,h1,h2,rfl⟩:=h
    refine⟨_,?_,.ptr _ _ _ ⟨_,_,_,h1,h2,rfl⟩,rfl⟩
    simp[execOp,hu]
   | iptr fr cs off b o cur ty fz us h1 h2 h3=>exact⟨_,by simp[execOp,hu],.iptr fr cs off b o cur ty fz us h1 h2 h3,rfl⟩
   | fn f cs us h1 h2=>exact⟨_,by simp[execOp,hu],.fn f cs us h1 h2,rfl⟩
   | _=>simp[Aik,Mp.bad] at hc'
  obtain⟨v,h1,h2,h3⟩:=key
  have:=quiet v (Aik q) h1 h2 h3
  simpa only[Nw,hq] using this
 | binOp op xt x y yt =>
  obtain⟨v,h1,h2,h3⟩:=A2l (P:=P) (w:=w) (ox:=x) (oy:=y) (hev x (by simp[Op.operands])) (hev y (by simp[Op.operands])) hc
  refine quiet v _ ?_ h2 h3
  simp only[execOp]
  rw[Sem.run_bind,h1]
  rfl
 | unOp op xt x =>
  obtain⟨v,h1,h2,h3⟩:=A3j (P:=P) (w:=w) (hev x (by simp[Op.operands])) hc
  exact quiet v _ (by simp[execOp,h1]) h2 h3
 | convert s d x =>
  obtain⟨v,h1,h2,h3⟩:=A0p (P:=P) r (hev x (by simp[Op.operands])) hc
  exact quiet v _ (by simp[execOp,h1]) h2 h3
 | makeFunc fn first cs =>
  cases fn with
  | func f =>
   have hc:first = #[]:=hc
   subst hc
   refine quiet (.func (.func f) #[] (cs.map a.eval)) ⟨.fn f (cs.toList.map fun x=>(st.raw x).sv),[],True⟩ (by simp[execOp,Instr.makeFunc]) (.fn f _ _ (by simp) fun i c u hc hu=>?_) rfl
   rw[Ap] at hc
   rw[Array.getElem?_map] at hu
   cases hx:cs[i]? with
   | none=>rw[hx] at hu;cases hu
   | some x =>
    have hx':cs.toList[i]? = some x:=by simpa using hx
    rw[hx'] at hc
    rw[hx] at hu
    simp only[Ai,Option.some.injEq] at hc hu
    subst hc hu
    exact hev x (by simp only[Op.operands,Array.mem_append];exact .inr (Array.mem_of_getElem? hx))
  | _=>exact hc.elim
 | makeSlice t l c =>
  obtain⟨u,w',β',ob,h1,h2,h3,h4⟩:=Az9 (P:=P) r (hn (nid,_) (by exact An.2 rfl) (Aj _)) (hev l (by simp[Op.operands])) (hev c (by simp[Op.operands])) hc
  exact noisy u w' β' nid ob _ (by simp[execOp,h1]) h2 h3 h4
 | slice t x lo hi mx =>
  cases mx with
  | some m=>exact hc.elim
  | none =>
   obtain⟨v,h1,h2,h3⟩:=Awa (P:=P) r (t:=t) (x:=(st.raw x).sv) (u:=a.eval x) (lo:=lo.map fun x=>(st.raw x).sv) (hi:=hi.map fun x=>(st.raw x).sv) (ulo:=lo.map a.eval) (uhi:=hi.map a.eval) (hev x (by simp[Op.operands]))
    (fun v e=>by cases lo with
     | none=>cases e
     | some y=>simp only[Ai,Option.some.injEq] at e;subst e;exact⟨_,rfl,hev y (by simp[Op.operands])⟩) (fun e=>by cases lo<;>first | rfl | cases e)
    (fun v e=>by cases hi with
     | none=>cases e
     | some y=>simp only[Ai,Option.some.injEq] at e;subst e;exact⟨_,rfl,hev y (by simp[Op.operands])⟩) (fun e=>by cases hi<;>first | rfl | cases e) hc
   exact quiet v _ (by simp[execOp,h1]) h2 h3
 | fieldAddr s x f =>
  obtain⟨v,h1,h2,h3⟩:=Ax1 (P:=P) (w:=w) (C:=E.C β st w) (hev x (by simp[Op.operands])) hc
  exact quiet v _ (by simp[execOp,h1]) h2 h3
 | indexAddr t x i =>
  obtain⟨v,h1,h2,h3⟩:=Axo (P:=P) r (hev x (by simp[Op.operands])) (hev i (by simp[Op.operands])) hc
  exact quiet v _ (by simp[execOp,h1]) h2 h3
 | extract x i =>
  obtain⟨v,h1,h2,h3⟩:=A2h (P:=P) (w:=w) (hev x (by simp[Op.operands])) hc
  exact quiet v _ (by simp[execOp,h1]) h2 h3
 | call c =>
  obtain⟨callee,args,argTypes⟩:=c
  cases callee with
  | value f=>exact hc.elim
  | invoke rv m=>exact hc.elim
  | builtin b =>
   have hargs:∀x∈args.toList,Ec (E.C β st w) (st.raw x).sv (a.eval x):=fun x hx=>hev x (by simp[Op.operands,Call.operands];simpa using hx)
   have hrun:(execOp a.eval ⟨dst,.call ⟨.builtin b,args,argTypes⟩,ty,pos,af,gd⟩).run P w=(builtin b argTypes ty (args.map fun | .const _=>true | _=>false) (args.map a.eval)).run P w:=by
    simp[execOp,resolve,invoke]
    rfl
   obtain⟨la⟩:=args
   obtain⟨lt⟩:=argTypes
   simp only[Nw] at hc ⊢
   simp only at hargs
   split at hc
   ·rename_i x t
    obtain⟨v,h1,h2,h3⟩:=A2c (P:=P) (ty:=ty) r (hargs x (by simp)) hc
    exact quiet v _ (by rw[hrun];simp[builtin,h1]) h2 h3
   ·rename_i d x t t'
    obtain⟨rfl,hc⟩:=hc
    obtain⟨u,w',β',id,ob,h1,h2,h3,h4⟩:=A2o (P:=P) (ty:=ty) (nid:=nid) r (fun⟨k,e⟩=>hn (nid,_) (show _∈(Acj P t (st.raw d).sv (st.raw x).sv st.o nid).up by rw[e];exact An.2 rfl) (Aj _)) (hargs d (by simp)) (hargs x (by simp)) hc
    exact noisy u w' β' id ob ⟨_,_,True⟩ (by rw[hrun];simp[builtin,h1]) h2 h3 h4
   ·rename_i d x t t'
    obtain⟨u,w',id,ob,h1,h2,h3,h4⟩:=A0o (P:=P) (sT:=t') (ty:=ty) r (hargs d (by simp)) (hargs x (by simp)) hc
    exact noisy u w' β id ob _ (by rw[hrun];simp[builtin,h1]) h2 h3 h4
   ·rename_i x t
    obtain⟨u,w',id,ob,h1,h2,h3,h4⟩:=Ax7 (P:=P) (ty:=ty) r (hargs x (by simp)) hc
    exact noisy u w' β id ob _ (by rw[hrun];simp[builtin,h1]) h2 h3 h4
   ·rename_i l x y
    obtain⟨v,h1,h2,h3⟩:=Yq (P:=P) (w:=w) (mx:=false) (hargs x (by simp)) (hargs y (by simp)) hc
    exact quiet v _ (by rw[hrun];simp[builtin,Builtin.min_] at h1 ⊢;simp[h1]) h2 h3
   ·rename_i l x y
    obtain⟨v,h1,h2,h3⟩:=Yq (P:=P) (w:=w) (mx:=true) (hargs x (by simp)) (hargs y (by simp)) hc
    exact quiet v _ (by rw[hrun];simp[builtin,Builtin.max_] at h1 ⊢;simp[h1]) h2 h3
   ·rename_i l x y z
    obtain⟨c1,c2⟩:=hc
    obtain⟨v,h1,h2,h3⟩:=Yq (P:=P) (w:=w) (mx:=false) (hargs x (by simp)) (hargs y (by simp)) c1
    obtain⟨v',h1',h2',h3'⟩:=Yq (P:=P) (w:=w) (mx:=false) h2 (hargs z (by simp)) c2
    exact quiet v' (Avu (st.raw x).sv (st.raw y).sv (st.raw z).sv) (by rw[hrun];simp[builtin,Builtin.min_] at h1 h1' ⊢;simp[h1,h1']) h2' rfl
   exact hc.elim
 | _=>exact hc.elim
end
section
variable {P:Program}
structure Ah5 (P:Program) (f:FuncId):Prop where
  ex:∃fn,P.funcs[f]? = some fn/\fn.body.isNone=false/\(fn.name == "runtime.NumGoroutine")=false
def Ic (n:Nat):List AV->List (Nat×AV)
 | []=>[]
 | c::cs=>(n,c)::Ic (n+1) cs
theorem Lx:∀(cs:List AV) (n t:Nat),E9 (Ic n cs) t=if n<=t then cs.getD (t - n) .any else .any
 | [],n,t=>by simp[Ic,E9]
 | c::cs,n,t=>by
  rw[Ic,E9,Lx cs (n+1) t]
  by_cases h:n=t
  ·subst h;simp
  have:(n == t)=false:=by simp[h]
  rw[this]
  simp only[cond_false]
  by_cases h1:n+1<=t
  ·rw[if_pos h1,if_pos (by omega),show t - n=(t - (n+1))+1 by omega,List.getD_cons_succ]
  rw[if_neg h1,if_neg (by omega)]
def E7 (P:Program) (f:FuncId) (σa:List Ob) (args:List AV) (σr:List Ob) (res:AV):Prop :=
 Ah5 P f/\∀(E:Gs) (β:Nat->Option Nat) (us:Array Value),E.n=args.length->E.o0=(St.mk [] σa).o->E.β0=β->Eu E β ⟨Ic 0 args,σa⟩ ⟨us,[]⟩ E.w0 ->
  Calls P f us E.w0 fun e w'=>∃v β',e=.returned v/\Eu { E with n:=1 } β' ⟨[(0,res)],σr⟩ ⟨#[v],[]⟩ w'
mutual
def AV.pass (o:Nat->Ob):AV->AV
 | .own id n=>.imm false (T4 (o id)) (Lu (o id))
 | .sub id n lo m=>.imm false (T4 (o id)) (((Lu (o id)).drop lo).take m)
 | .agg cs=>.agg (Kd o cs)
 | .tup cs=>.tup (Kd o cs)
 | .fn f cs=>.fn f (Kd o cs)
 | .lit v=>.lit v
 | .nil k=>.nil k
 | .imm fr k es=>.imm fr k es
 | .iptr fr cs off=>.iptr fr cs off
 | _=>.any
def Kd (o:Nat->Ob):List AV->List AV
 | []=>[]
 | c::cs=>c.pass o::Kd o cs
end
mutual
def AV.passC (o:Nat->Ob):AV->Prop
 | .own id n=>F8 (o id)=true/\n=(Lu (o id)).length
 | .sub id n lo m=>F8 (o id)=true/\n=(Lu (o id)).length
 | .agg cs=>J4 o cs
 | .tup cs=>J4 o cs
 | .fn f cs=>J4 o cs
 | _=>True
def J4 (o:Nat->Ob):List AV->Prop
 | []=>True
 | c::cs=>c.passC o/\J4 o cs
end
mutual
def AV.bor:AV->Bool
 | .own _ _=>true
 | .sub _ _ _ _=>true
 | .agg cs=>U8 cs
 | .tup cs=>U8 cs
 | .fn _ cs=>U8 cs
 | _=>false
def U8:List AV->Bool
 | []=>false
 | c::cs=>c.bor||U8 cs
end
mutual
def AV.cln:AV->Bool
 | .imm fr _ _=>fr
 | .iptr fr _ _=>fr
 | .agg cs=>Fu cs
 | .tup cs=>Fu cs
 | .fn _ cs=>Fu cs
 | .gd _ v=>v.cln
 | _=>true
def Fu:List AV->Bool
 | []=>true
 | c::cs=>c.cln&&Fu cs
end
def Ob.cln:Ob->Bool
 | .row _ _ fr _ _=>fr
 | .box _ cs=>Fu cs
 | .gone=>true
def Ob.shift (N:Nat):Ob->Ob
 | .box ty cs=>.box ty (Pf N cs)
 | o=>o
theorem U2 (o:Nat->Ob):∀(cs:List AV) (i:Nat),(Kd o cs)[i]? = (cs[i]?).map (AV.pass o)
 | [],i=>by simp[Kd]
 | c::cs,0=>by simp[Kd]
 | c::cs,i+1=>by simp[Kd,U2 o cs i]
theorem Of (o:Nat->Ob):∀(cs:List AV),(Kd o cs).length=cs.length
 | []=>rfl
 | c::cs=>by simp[Kd,Of o cs]
theorem Js {o:Nat->Ob}:∀{cs:List AV} (h:J4 o cs) {i:Nat} {c:AV},cs[i]? = some c->c.passC o
 | [],_,i,c,h=>by simp at h
 | d::cs,⟨h1,h2⟩,0,c,h=>by simp at h;subst h;exact h1
 | d::cs,⟨h1,h2⟩,i+1,c,h=>by simp at h;exact Js h2 h
theorem Ya:∀{cs:List AV} (h:U8 cs=false) {i:Nat} {c:AV},cs[i]? = some c->c.bor=false
 | [],_,i,c,h=>by simp at h
 | d::cs,h',0,c,h=>by simp at h;subst h;simp only[U8,Bool.or_eq_false_iff] at h';exact h'.1
 | d::cs,h',i+1,c,h=>by simp at h;simp only[U8,Bool.or_eq_false_iff] at h';exact Ya h'.2 h
theorem Oj:∀{cs:List AV} (h:Fu cs=true) {i:Nat} {c:AV},cs[i]? = some c->c.cln=true
 | [],_,i,c,h=>by simp at h
 | d::cs,h',0,c,h=>by simp at h;subst h;simp only[Fu,Ah] at h';exact h'.1
 | d::cs,h',i+1,c,h=>by simp at h;simp only[Fu,Ah] at h';exact Oj h'.2 h
variable {u:Value}
theorem Ec.pass {E:Gs} {β:Nat->Option Nat} {st:St} {a:Act} {w:World} (r:Eu E β st a w) {C0:VC} (hh:C0.h=w.heap) (hl:∀b,¬C0.lives b) (hB:C0.B=w.heap.size) (bor:Bool) (him:∀b,(bor=true\/(E.C β st w).S false b)->C0.im b) (hfr:∀b,(E.C β st w).S true b->C0.fr b) {c:AV} (h:Ec (E.C β st w) c u) (hc:c.passC st.o) (hb:bor=false->c.bor=false):Ec C0 (c.pass st.o) u:=by
 have hsize:C0.h.size=w.heap.size:=by rw[hh]
 have hS:∀fr b,(E.C β st w).S fr b->C0.S fr b:=fun fr b hb=>⟨by rw[hsize];exact hb.1,hl b,.inr (.inr ⟨him b (.inr (VC.S_weak hb)),fun e=>hfr b (by rw[e] at hb;exact hb)⟩)⟩
 have hT:∀fr t u,Gq w.heap ((E.C β st w).S fr) t u->Gq C0.h (C0.S fr) t u:=fun fr t u h=>by
  rw[hh]
  exact h.keep (fun _ _=>rfl) (hS fr)
 have hT2:bor=true->∀fr t u,Gq w.heap ((E.C β st w).S fr) t u->Gq C0.h (C0.S false) t u:=fun hb fr t u h=>by
  rw[hh]
  exact h.keep (fun _ _=>rfl) fun b hs=>⟨by rw[hsize];exact hs.1,hl b,.inr (.inr ⟨him b (.inl hb),fun e=>by cases e⟩)⟩
 have hsrc:bor=true->∀(x:AV) (u:Value) (k:Nat),Src (E.C β st w) u (Q4 st.o x) k (Gw st.o x)->Ec C0 (.imm false k (Gw st.o x)) u:=by
  intro hb x u k hsr
  obtain⟨A,c,rfl,hle,hel,hs⟩:=hsr
  refine .imm _ _ _ _ ?_
  rcases hs with he | ⟨b,off,cur,ty,fz,rfl,hcur,hcell⟩
  ·rw[he];exact .nil _ _ _
  have hcur':C0.h[b]? = some (.cells cur ty fz):=by rw[hh];exact hcur
  have hlt:b<w.heap.size:=by
   apply Classical.byContradiction
   intro hge
   have:w.heap[b]? = some (.cells cur ty fz):=hcur
   rw[Array.getElem?_eq_none (by omega)] at this
   cases this
  have hch:∀(i:Nat) (e:List T) (j:Nat) (x':T),(Gw st.o x)[i]? = some e->e[j]? = some x'->Gq C0.h (C0.S false) x' ((cur[off+i*k+j]?).getD undef)/\cur[off+i*k+j]? = some ((cur[off+i*k+j]?).getD undef):=fun i e j x' he hx=>by
   obtain⟨u,q1,q2⟩:=hcell i e j x' he hx
   rw[q1]
   exact⟨hT2 hb _ _ _ q2,rfl⟩
  exact .sl k _ b off c cur ty fz (fun i j=>(cur[off+i*k+j]?).getD undef) hcur' ⟨by rw[hsize];exact hlt,hl b,.inr (.inr ⟨him b (.inl hb),fun e=>by cases e⟩)⟩ hle hel (fun i e j x' he hx=>(hch i e j x' he hx).2) fun i e j x' he hx=>(hch i e j x' he hx).1
 induction h with
 | any u=>exact .any u
 | lit v=>exact .lit v
 | nil k A=>exact .nil k A
 | imm fr k es u h=>exact .imm fr k es u (hT fr _ _ h)
 | own id n u h =>
  have hbt:bor=true:=by
   cases bor
   ·have:=hb rfl;cases this
   rfl
  exact hsrc hbt (.own id n) u (T4 (st.o id)) (Aac r (.own id n u h) ⟨hc.1,rfl,hc.2⟩)
 | sub id n lo m u h =>
  have hbt:bor=true:=by
   cases bor
   ·have:=hb rfl;cases this
   rfl
  exact hsrc hbt (.sub id n lo m) u (T4 (st.o id)) (Aac r (.sub id n lo m u h) ⟨hc.1,rfl,hc.2⟩)
 | ptr id off u h=>exact .any u
 | rptr id n i off u h=>exact .any u
 | bsl id n u h=>exact .any u
 | iptr fr cs off b o cur ty fz us h1 h2 h3 =>
  exact .iptr fr cs off b o cur ty fz us (by rw[hh];exact h1) (hS fr b h2) fun j x hx=>⟨(h3 j x hx).1,hT fr _ _ (h3 j x hx).2⟩
 | agg cs us h1 h2 ih =>
  refine .agg _ _ (by rw[Of];exact h1) fun i c u hc' hu=>?_
  rw[U2] at hc'
  cases hx:cs[i]? with
  | none=>rw[hx] at hc';cases hc'
  | some x =>
   rw[hx] at hc'
   simp only[Ai,Option.some.injEq] at hc'
   subst hc'
   exact ih i x u hx hu (Js hc hx) fun e=>Ya (by have:=hb e;simpa[AV.bor] using this) hx
 | tup cs us h1 h2 ih =>
  refine .tup _ _ (by rw[Of];exact h1) fun i c u hc' hu=>?_
  rw[U2] at hc'
  cases hx:cs[i]? with
  | none=>rw[hx] at hc';cases hc'
  | some x =>
   rw[hx] at hc'
   simp only[Ai,Option.some.injEq] at hc'
   subst hc'
   exact ih i x u hx hu (Js hc hx) fun e=>Ya (by have:=hb e;simpa[AV.bor] using this) hx
 | fn f cs us h1 h2 ih =>
  refine .fn f _ _ (by rw[Of];exact h1) fun i c u hc' hu=>?_
  rw[U2] at hc'
  cases hx:cs[i]? with
  | none=>rw[hx] at hc';cases hc'
  | some x =>
   rw[hx] at hc'
   simp only[Ai,Option.some.injEq] at hc'
   subst hc'
   exact ih i x u hx hu (Js hc hx) fun e=>Ya (by have:=hb e;simpa[AV.bor] using this) hx
 | gd t v u h1 h2 ih=>exact .any u
variable {C1 C2:VC}
theorem Ec.back {N:Nat} (hh:C2.h=C1.h) (ho:∀j,C1.ob j≠.gone->C2.ob (N+j)=(C1.ob j).shift N/\C2.β (N+j)=C1.β j) (bor:Bool) (hS:∀fr b,(bor=true->fr=true)->C1.S fr b->C2.S fr b) {c:AV} (h:Ec C1 c u) (hc:bor=true->c.cln=true):Ec C2 (c.shift N) u:=by
 have hT:∀fr,(bor=true->fr=true)->∀t u,Gq C1.h (C1.S fr) t u->Gq C2.h (C2.S fr) t u:=fun fr hf t u h=>by
  rw[hh]
  exact h.keep (fun _ _=>rfl) fun b=>hS fr b hf
 induction h with
 | any u=>exact .any u
 | lit v=>exact .lit v
 | nil k A=>exact .nil k A
 | imm fr k es u h=>exact .imm fr k es u (hT fr hc _ _ h)
 | own id n u h =>
  obtain⟨h0,ty,k,fr,fz,es,h1,h2,h3⟩:=h
  obtain⟨e1,e2⟩:=ho id (by rw[h1];simp)
  exact .own _ _ _ ⟨h0,ty,k,fr,fz,es,by rw[e1,h1];rfl,h2,fun e=>by
   have:=h3 e
   rw[e2,hh];exact this⟩
 | sub id n lo m u h =>
  obtain⟨h0,ty,k,fr,fz,es,h1,h2,h3⟩:=h
  obtain⟨e1,e2⟩:=ho id (by rw[h1];simp)
  exact .sub _ _ _ _ _ ⟨h0,ty,k,fr,fz,es,by rw[e1,h1];rfl,h2,fun e=>by
   have:=h3 e
   rw[e2];exact this⟩
 | ptr id off u h =>
  obtain⟨ty,cs,b,h1,h2,h3⟩:=h
  obtain⟨e1,e2⟩:=ho id (by rw[h1];simp)
  exact .ptr _ _ _ ⟨ty,_,b,by rw[e1,h1];rfl,by rw[e2];exact h2,h3⟩
 | bsl id n u h =>
  obtain⟨ty,cs,b,c,h1,h2,h3⟩:=h
  obtain⟨e1,e2⟩:=ho id (by rw[h1];simp)
  exact .bsl _ _ _ ⟨ty,_,b,c,by rw[e1,h1];rfl,by rw[e2];exact h2,h3⟩
 | rptr id n i off u h =>
  obtain⟨h0,ty,k,fr,fz,es,h1,h2,h3⟩:=h
  obtain⟨e1,e2⟩:=ho id (by rw[h1];simp)
  exact .rptr _ _ _ _ _ ⟨h0,ty,k,fr,fz,es,by rw[e1,h1];rfl,h2,fun e=>by
   have:=h3 e
   rw[e2];exact this⟩
 | iptr fr cs off b o cur ty fz us h1 h2 h3 =>
  exact .iptr fr cs off b o cur ty fz us (by rw[hh];exact h1) (hS fr b hc h2) fun j x hx=>⟨(h3 j x hx).1,hT fr hc _ _ (h3 j x hx).2⟩
 | agg cs us h1 h2 ih =>
  refine .agg _ _ (by rw[Mg];exact h1) fun i c u hc' hu=>?_
  rw[Pe] at hc'
  cases hx:cs[i]? with
  | none=>rw[hx] at hc';cases hc'
  | some x =>
   rw[hx] at hc'
   simp only[Ai,Option.some.injEq] at hc'
   subst hc'
   exact ih i x u hx hu fun e=>Oj (by have:=hc e;simpa[AV.cln] using this) hx
 | tup cs us h1 h2 ih =>
  refine .tup _ _ (by rw[Mg];exact h1) fun i c u hc' hu=>?_
  rw[Pe] at hc'
  cases hx:cs[i]? with
  | none=>rw[hx] at hc';cases hc'
  | some x =>
   rw[hx] at hc'
   simp only[Ai,Option.some.injEq] at hc'
   subst hc'
   exact ih i x u hx hu fun e=>Oj (by have:=hc e;simpa[AV.cln] using this) hx
 | fn f cs us h1 h2 ih =>
  refine .fn f _ _ (by rw[Mg];exact h1) fun i c u hc' hu=>?_
  rw[Pe] at hc'
  cases hx:cs[i]? with
  | none=>rw[hx] at hc';cases hc'
  | some x =>
   rw[hx] at hc'
   simp only[Ai,Option.some.injEq] at hc'
   subst hc'
   exact ih i x u hx hu fun e=>Oj (by have:=hc e;simpa[AV.cln] using this) hx
 | gd t v u h1 h2 ih=>exact .gd t _ u (fun e=>ih e fun e'=>by have:=hc e';simpa[AV.cln] using this) h2
theorem Kx.back {N:Nat} (hh:C2.h=C1.h) (ho:∀j,C1.ob j≠.gone->C2.ob (N+j)=(C1.ob j).shift N/\C2.β (N+j)=C1.β j) (bor:Bool) (hS:∀fr b,(bor=true->fr=true)->C1.S fr b->C2.S fr b) {j:Nat} {o:Ob} (hj:C1.ob j=o) (h:Kx C1 j o) (hc:bor=true->o.cln=true):Kx C2 (N+j) (o.shift N):=by
 cases o with
 | gone=>trivial
 | box ty cs =>
  obtain⟨e1,e2⟩:=ho j (by rw[hj];simp)
  obtain⟨b,cur,h1,h2,h3,h4⟩:=h
  refine⟨b,cur,by rw[e2];exact h1,by rw[hh];exact h2,by rw[Mg];exact h3,fun i c u hc' hu=>?_⟩
  rw[Pe] at hc'
  cases hx:cs[i]? with
  | none=>rw[hx] at hc';cases hc'
  | some x =>
   rw[hx] at hc'
   simp only[Ai,Option.some.injEq] at hc'
   subst hc'
   exact⟨Ec.back hh ho bor hS (h4 i x u hx hu).1 fun e=>Oj (hc e) hx,(h4 i x u hx hu).2⟩
 | row ty k fr fz es =>
  obtain⟨e1,e2⟩:=ho j (by rw[hj];simp)
  obtain⟨h1,h2⟩:=h
  refine⟨h1,?_⟩
  rw[e2]
  cases hb:C1.β j with
  | none=>rw[hb] at h2;exact h2
  | some b =>
   rw[hb] at h2
   obtain⟨cur,c,g1,g2,g3,g4,g5⟩:=h2
   refine⟨cur,c,by rw[hh];exact g1,g2,g3,g4,fun i e j x he hx=>?_⟩
   obtain⟨u,q1,q2⟩:=g5 i e j x he hx
   refine⟨u,q1,?_⟩
   rw[hh]
   exact q2.keep (fun _ _=>rfl) fun b=>hS fr b hc
abbrev PP:=E7 Tryz.prog
end
section
variable {P:Program}
def Mc (N n:Nat):List Ob->List (Nat×Ob)
 | []=>[]
 | o::os=>(N+n,o.shift N)::Mc N (n+1) os
theorem Ajp (N:Nat):∀(os:List Ob) (n:Nat) (st:St) (i:Nat),(st.sets (Mc N n os)).o i=if N+n<=i/\i<N+n+os.length then (os.getD (i - (N+n)) .gone).shift N else st.o i
 | [],n,st,i=>by simp[Mc,St.sets];omega
 | o::os,n,st,i=>by
  rw[Mc,St.sets,Ajp N os (n+1),St.set_o]
  simp only[A6]
  by_cases h1:N+(n+1)<=i/\i<N+(n+1)+os.length
  ·rw[if_pos h1,if_pos (by omega),show i - (N+n)=(i - (N+(n+1)))+1 by omega,List.getD_cons_succ]
  rw[if_neg h1]
  by_cases h2:i=N+n
  ·subst h2
   rw[if_pos rfl,if_pos (by omega)];simp
  rw[if_neg h2,if_neg (by omega)]
theorem Aox (N:Nat):∀(os:List Ob) (n i:Nat),N+n<=i->i<N+n+os.length->∃p∈Mc N n os,p.1=i
 | [],n,i,h1,h2=>by simp at h2;omega
 | o::os,n,i,h1,h2=>by
  by_cases e:i=N+n
  ·exact⟨(N+n,o.shift N),by simp[Mc],e.symm⟩
  obtain⟨p,h3,h4⟩:=Aox N os (n+1) i (by omega) (by simp at h2;omega)
  exact⟨p,by simp[Mc,h3],h4⟩
theorem Afl:∀(l:List (Nat×Ob)) (st:St),(st.sets l).sl=st.sl
 | [],st=>rfl
 | p::l,st=>by rw[St.sets,Afl l];rfl
theorem Abk (d:Option Tmp) (v:AV):∀(l:List (Nat×Ob)) (st:St),(st.put d v).sets l=(st.sets l).put d v
 | [],st=>rfl
 | (id,o)::l,st=>by rw[St.sets,St.sets,St.put_set,Abk d v l]
def Ay8 (P:Program) (fo:Operand) (args:List Operand) (raw:Operand->AV) (o:Nat->Ob) (nid:Nat) (e:AV×List (Nat×Ob)):Prop :=
 ∃f caps σr res,(raw fo).sv=.fn f caps/\E7 P f [] (Kd o (args.map (fun x=>(raw x).sv)++caps)) σr res/\J4 o (args.map (fun x=>(raw x).sv)++caps) /\
  (U8 (args.map (fun x=>(raw x).sv)++caps)=true->res.cln=true/\σr.all Ob.cln=true)/\e=(res.shift nid,Mc nid 0 σr)
variable {w:World}
theorem Yd {f:FuncId} (h:Ah5 P f) {us:Array Value}:(callFunc f us).run P w=.ok (.enter f us) w:=by
 obtain⟨fn,h1,h2,h3⟩:=h.ex
 have h2':¬fn.body=none:=fun e=>by rw[e] at h2;cases h2
 have h3':¬fn.name = "runtime.NumGoroutine":=by simpa using h3
 unfold callFunc
 simp[h1,h2',h3']
theorem A0q {E:Gs} {β:Nat->Option Nat} {st:St} {a:Act} (r:Eu E β st a w) {o:Oper} {fo:Operand} {args:Array Operand} {ts:Array TypeId} (hop:o.op=.call { callee:=.value fo,args:=args,argTypes:=ts }) {nid:Nat} (hd:∀x,o.dst=some x->x<E.n) (hb:∀x∈o.op.operands,(st.raw x).sb=true) {e:AV×List (Nat×Ob)} (hc:Ay8 P fo args.toList st.raw st.o nid e) (hn:∀p∈e.2,nid<=p.1->st.o p.1=.gone) {Q:Exit->Act->World->Prop} :
  o.wp P a w (fun a' w'=>∃β',Eu E β' (st.after o.dst e.1 e.2) a' w') Q:=by
 obtain⟨f,caps,σr,res,hf,hp,hpc,hcl,rfl⟩:=hc
 obtain⟨hcal,hpure⟩:=hp
 have hev:∀x∈o.op.operands,Ec (E.C β st w) (st.raw x).sv (a.eval x):=fun x hx=>(M9 r x).sv.1 (hb x hx)
 rw[hop] at hev
 have hfo:=hev fo (by simp[Op.operands,Call.operands])
 rw[hf] at hfo
 generalize hufo:a.eval fo=ufo at hfo
 cases hfo with
 | fn f cs ucs hl hcr =>
 generalize hav:args.toList.map (fun x=>(st.raw x).sv)++caps=av at hpure hpc hcl
 have hus:∀(i:Nat) (c:AV) (u:Value),av[i]? = some c->(args.map a.eval++ucs)[i]? = some u->Ec (E.C β st w) c u:=by
  intro i c u hc hu
  rw[<- hav] at hc
  by_cases hi:i<args.size
  ·rw[Au (by simpa using hi),Ap] at hc
   rw[Bk (by simpa using hi),Array.getElem?_map] at hu
   have hx:args[i]? = some args[i]:=Al hi
   have hx':args.toList[i]? = some args[i]:=by simp
   rw[hx'] at hc
   rw[hx] at hu
   simp only[Ai,Option.some.injEq] at hc hu
   subst hc hu
   exact hev args[i] (by simp[Op.operands,Call.operands])
  rw[Ao (by simp;omega)] at hc
  rw[Array.getElem?_append_right (by simp;omega)] at hu
  simp only[A2,Array.length_toList] at hc
  simp only[Array.size_map] at hu
  exact hcr _ c u hc hu
 have hlen:av.length=(args.map a.eval++ucs).size:=by rw[<- hav];simp[hl]
 let E':Gs:=⟨w,fun _=>.gone,fun _=>none,fun b=>U8 av=true\/(E.C β st w).S false b,fun b=>(E.C β st w).S true b,av.length,[],fun _=>none⟩
 have r0:Eu E' (fun _=>none) ⟨Ic 0 (Kd st.o av),[]⟩ ⟨args.map a.eval++ucs,[]⟩ w:=by
  refine⟨hlen.symm,fun t=>?_,rfl,fun id=>trivial,fun i j b hi=>absurd rfl hi,fun i b hi=>absurd rfl hi,Kp.refl _ _,⟨(fun id ty cs h=>by cases h),(fun id ty k fr fz es h=>by cases h)⟩,(fun b o h=>by cases h),List.nodup_nil,fun D h=>by cases h⟩
  show Ec _ (E9 (Ic 0 (Kd st.o av)) t) _
  rw[Lx,Nat.sub_zero,Ad,U2]
  cases hx:av[t]? with
  | none=>exact .any _
  | some x =>
   have ht:t<(args.map a.eval++ucs).size:=by rw[<- hlen];exact (Ab.1 hx).1
   rw[Av,Al ht]
   exact Ec.pass r (C0:=E'.C (fun _=>none) ⟨Ic 0 (Kd st.o av),[]⟩ w) rfl (fun b ⟨id,h,_⟩=>by cases h) rfl (U8 av) (fun b h=>h) (fun b h=>h) (hus t x _ hx (Al ht)) (Js hpc hx) fun e=>Ya e hx
 have hcall:=hpure E' (fun _=>none) _ (by show av.length=(Kd st.o av).length;rw[Of]) (by funext i;simp[E',St.o]) rfl r0
 unfold Oper.wp
 have hrun:(execOp a.eval o).run P w=.ok (.enter f (args.map a.eval++ucs)) w:=by
  obtain⟨dst,op,ty,pos,af,gd⟩:=o
  simp only at hop
  subst hop
  simp only[execOp,resolve,hufo,Deferred.ofValue,Sem.run_bind,Sem.run_pure,Result.andThen_ok,invoke,Array.empty_append]
  exact Yd hcal
 rw[hrun]
 refine hcall.mono ?_
 rintro e w' ⟨v,β1,rfl,r1⟩
 show ∃β',Eu E β' _ _ _
 have hlt1:∀i b,(St.mk [(0,res)] σr).o i≠.gone->β1 i=some b->w.heap.size<=b/\b<w'.heap.size:=fun i b hi hb=>by
  have:=r1.rng i b hi hb
  refine⟨?_,this.1⟩
  rcases this.2 with h | ⟨id,h,_⟩
  ·exact h
  exact absurd rfl h
 have hkeep:∀b,b<w.heap.size->w'.heap[b]? = w.heap[b]?:=fun b hb=>r1.kp.block b hb fun⟨id,h,_⟩=>absurd rfl h
 have hσ:∀i,(St.mk [(0,res)] σr).o i=σr.getD i .gone:=fun i=>rfl
 let β':Nat->Option Nat:=fun i=>if nid<=i/\i<nid+σr.length then β1 (i - nid) else β i
 let st':St:=st.sets (Mc nid 0 σr)
 have ho':∀i,st'.o i=if nid<=i/\i<nid+σr.length then (σr.getD (i - nid) .gone).shift nid else st.o i:=fun i=>by
  have:=Ajp nid σr 0 st i
  simpa using this
 have hold:∀i,st.o i≠.gone->¬(nid<=i/\i<nid+σr.length):=fun i hi h=>hi (by
  obtain⟨q,hq1,hq2⟩:=Aox nid σr 0 i (by omega) (by omega)
  have:=hn q hq1 (by omega)
  rw[hq2] at this
  exact this)
 have hshift:∀(o:Ob),o.shift nid≠.gone<->o≠.gone:=fun o=>by cases o<;>simp[Ob.shift]
 have hnew:∀j,(St.mk [(0,res)] σr).o j≠.gone->st'.o (nid+j)=((St.mk [(0,res)] σr).o j).shift nid/\β' (nid+j)=β1 j:=fun j hj=>by
  have hjl:j<σr.length:=by
   apply Classical.byContradiction
   intro h
   exact hj (by rw[hσ,Ad,Ar (by omega)];rfl)
  refine⟨by rw[ho',if_pos (by omega),hσ];congr 2;omega,?_⟩
  show (if _ then _ else _)=_
  rw[if_pos (by omega)]
  congr 1;omega
 have s:Ot (E.C β st w) (E.C β' st' w'):=by
  refine⟨rfl,fun _ h=>h,fun _ h=>h,fun _ h=>h,r1.kp.size,?_,fun b hb _=>hkeep b hb,?_,?_⟩
  ·rintro b hb ⟨i,h1,h2⟩
   have hb:b<w.heap.size:=hb
   have h1:β' i=some b:=h1
   have h2:(st'.o i).live:=h2
   by_cases hi:nid<=i/\i<nid+σr.length
   ·have h1:(if _ then _ else _)=_:=h1
    rw[if_pos hi] at h1
    have hng:(St.mk [(0,res)] σr).o (i - nid)≠.gone:=fun e=>by
     rw[ho',if_pos hi,<- hσ,e] at h2
     exact h2
    have:=hlt1 _ b hng h1
    omega
   have h1:(if _ then _ else _)=_:=h1
   rw[if_neg hi] at h1
   rw[ho',if_neg hi] at h2
   exact⟨i,h1,h2⟩
  ·intro i ty cs h
   have h:st.o i=_:=h
   have hi:=hold i (by rw[h];simp)
   refine⟨⟨cs,?_⟩,if_neg hi⟩
   show st'.o i=_
   rw[ho',if_neg hi];exact h
  intro i ty k fr fz es h
  have h:st.o i=_:=h
  have hi:=hold i (by rw[h];simp)
  refine⟨fr,fz,es,?_,Aj _,fun _=>⟨if_neg hi,fun b cur hb hc=>⟨cur,?_,rfl⟩⟩⟩
  ·show st'.o i=_
   rw[ho',if_neg hi];exact h
  exact (hkeep b (r.rng i b (by rw[h];simp) hb).1).trans hc
 have hS:∀fr b,(U8 av=true->fr=true)->(E'.C β1 ⟨[(0,res)],σr⟩ w').S fr b->(E.C β' st' w').S fr b:=by
  intro fr b hf hs
  by_cases hb:b<w.heap.size
  ·obtain⟨h1,h2,h3⟩:=hs
   have g3:w.heap.size<=b\/E'.M b\/(E'.im b/\(fr=true->E'.fr b)):=h3
   rcases g3 with g3 | ⟨id,g3,_⟩ | ⟨g3,g4⟩
   ·omega
   ·exact absurd rfl g3
   cases fr with
   | true=>exact s.S (g4 rfl)
   | false =>
    rcases g3 with g5 | g5
    ·have:=hf g5;cases this
    exact s.S g5
  obtain⟨h1,h2,h3⟩:=hs
  refine⟨h1,?_,.inl ?_⟩
  ·rintro⟨i,g1,g2⟩
   have g1:β' i=some b:=g1
   have g2:(st'.o i).live:=g2
   by_cases hi:nid<=i/\i<nid+σr.length
   ·have g1:(if _ then _ else _)=_:=g1
    rw[if_pos hi] at g1
    rw[ho',if_pos hi] at g2
    refine h2 ⟨i - nid,g1,?_⟩
    show ((St.mk [(0,res)] σr).o (i - nid)).live
    rw[hσ]
    cases hq:σr.getD (i - nid) .gone with
    | gone=>rw[hq] at g2;exact g2
    | box ty cs=>trivial
    | row ty k fr fz es=>rw[hq] at g2;exact g2
   have g1:(if _ then _ else _)=_:=g1
   rw[if_neg hi] at g1
   rw[ho',if_neg hi] at g2
   have:=(r.rng i b (fun e=>by rw[e] at g2;exact g2) g1).1
   exact hb this
  have:=r.kp.size
  show E.w0.heap.size<=b
  omega
 have r2:Eu E β' st' a w':=by
  refine r.move s (Afl _ _) (fun i=>?_) ?_ ?_ ?_
  ·by_cases hi:nid<=i/\i<nid+σr.length
   ·have e:i=nid+(i - nid):=by omega
    rw[e]
    have hr:=r1.ob (i - nid)
    by_cases hg:(St.mk [(0,res)] σr).o (i - nid)=.gone
    ·rw[ho',if_pos (by omega),show nid+(i - nid) - nid=i - nid by omega,<- hσ,hg];trivial
    rw[(hnew _ hg).1]
    refine Kx.back (C1:=E'.C β1 ⟨[(0,res)],σr⟩ w') (C2:=E.C β' st' w') rfl hnew (U8 av) hS rfl hr fun hb=>?_
    have hlt:i - nid<σr.length:=by omega
    have:=(hcl hb).2
    rw[Am] at this
    rw[hσ,Ad,Aa hlt]
    exact this _ (List.getElem_mem hlt)
   rw[ho',if_neg hi]
   by_cases hg:st.o i=.gone
   ·rw[hg];trivial
   exact (r.ob i).step s (if_neg hi) fun b hb=>hkeep b (r.rng i b hg hb).1
  ·intro i j b hi hj h1 h2
   have h1:(if _ then _ else _)=_:=h1
   have h2:(if _ then _ else _)=_:=h2
   rw[ho'] at hi hj
   by_cases ci:nid<=i/\i<nid+σr.length
   ·rw[if_pos ci] at h1 hi
    rw[hshift] at hi
    by_cases cj:nid<=j/\j<nid+σr.length
    ·rw[if_pos cj] at h2 hj
     rw[hshift] at hj
     have:=r1.inj _ _ b hi hj h1 h2
     omega
    rw[if_neg cj] at h2 hj
    have:=(r.rng j b hj h2).1
    have:=(hlt1 _ b hi h1).1
    omega
   rw[if_neg ci] at h1 hi
   by_cases cj:nid<=j/\j<nid+σr.length
   ·rw[if_pos cj] at h2 hj
    rw[hshift] at hj
    have:=(r.rng i b hi h1).1
    have:=(hlt1 _ b hj h2).1
    omega
   rw[if_neg cj] at h2 hj
   exact r.inj i j b hi hj h1 h2
  ·intro i b hi h1
   have h1:(if _ then _ else _)=_:=h1
   rw[ho'] at hi
   have hsz:=r.kp.size
   by_cases ci:nid<=i/\i<nid+σr.length
   ·rw[if_pos ci] at h1 hi
    rw[hshift] at hi
    have:=hlt1 _ b hi h1
    exact⟨this.2,.inl (by omega)⟩
   rw[if_neg ci] at h1 hi
   have:=r.rng i b hi h1
   have h3:=r1.kp.size
   have h3:w.heap.size<=w'.heap.size:=h3
   exact⟨by omega,this.2⟩
  have h3:=r1.kp.size
  have h3:w.heap.size<=w'.heap.size:=h3
  have h4:=r.kp.size
  exact⟨r1.kp.os.trans r.kp.os,r1.kp.tape.trans r.kp.tape,r1.kp.output.trans r.kp.output,by omega,fun b hb hm=>(hkeep b (by omega)).trans (r.kp.block b hb hm)⟩
 refine⟨β',?_⟩
 show Eu E β' ((st.put o.dst _).sets _) _ w'
 rw[Abk]
 refine r2.put ?_ o.dst hd
 exact Ec.back (C1:=E'.C β1 ⟨[(0,res)],σr⟩ w') (C2:=E.C β' st' w') rfl hnew (U8 av) hS (r1.sl 0) fun hb=>(hcl hb).1
end
end Go.Proofs.YtkkimgjinbaemaaGreat
