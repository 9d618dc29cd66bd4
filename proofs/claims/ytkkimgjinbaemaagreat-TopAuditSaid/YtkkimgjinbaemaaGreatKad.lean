/- The walk. -/
import Derived.Test.YtkkimgjinbaemaaGreatKac
noncomputable section
namespace Go.Proofs.YtkkimgjinbaemaaGreat
open Go.RowKit
set_option linter.unusedVariables false
set_option linter.unusedSimpArgs false
set_option linter.defProp false
set_option linter.unusedSectionVars false
set_option maxRecDepth 100000
set_option maxHeartbeats 4000000
section
variable {P:Program}
structure E1 where
  d:Option Tmp
  v:AV
  up:List (Nat×Ob)
def E1.ap (s:St) (e:E1):St:=s.after e.d e.v e.up
inductive Loc where
  | s (t:Nat)
  | o (id:Nat)
def gt (s:St):Loc->AV×Ob
 | .s t=>(E5 s.sl t,.gone)
 | .o id=>(.any,s.o id)
def E1.wr (e:E1):Loc->Bool
 | .s t=>e.d == some t
 | .o id=>e.up.any fun p=>p.1 == id
def upv (id:Nat):List (Nat×Ob)->Ob
 | []=>.gone
 | p::l=>bif l.any (fun p=>p.1 == id) then upv id l else p.2
def E1.wv (e:E1):Loc->AV×Ob
 | .s t=>(e.v,.gone)
 | .o id=>(.any,upv id e.up)
theorem Auk (id:Nat):∀(l:List (Nat×Ob)) (s:St),(s.sets l).o id=bif l.any (fun p=>p.1 == id) then upv id l else s.o id
 | [],s=>rfl
 | (i,o)::l,s=>by
  rw[St.sets,Auk id l,St.set_o,List.any_cons]
  cases h1:l.any (fun p=>p.1 == id) with
  | true=>simp[upv,h1]
  | false =>
   by_cases h2:id=i
   ·subst h2;simp[upv,h1]
   have:(i == id)=false:=by simp[Ne.symm h2]
   simp[h2,this]
theorem Ay5 (s:St) (e:E1) (ℓ:Loc):gt (E1.ap s e) ℓ=bif e.wr ℓ then e.wv ℓ else gt s ℓ:=by
 cases ℓ with
 | s t =>
  simp only[gt,E1.ap,St.after,Ael,E1.wr,E1.wv]
  cases hd:e.d with
  | none=>rfl
  | some d =>
   simp only[St.put,E5]
   by_cases h:d=t
   ·subst h;simp
   have h1:(d == t)=false:=by simp[h]
   have h2:(some d == some t)=false:=by simpa using h
   rw[h1,h2];rfl
 | o id =>
  simp only[gt,E1.ap,St.after,Auk,E1.wr,E1.wv,St.put_o]
  cases e.up.any (fun p=>p.1 == id)<;>rfl
def T8 (s:St) (L:List E1):St:=L.foldl E1.ap s
theorem Azy (s:St) (ℓ:Loc):∀(L:List E1),gt (T8 s L) ℓ=match (L.filter (fun e=>e.wr ℓ)).getLast? with | some e=>e.wv ℓ | none=>gt s ℓ:=by
 intro L
 generalize hn:L.length=n
 induction n generalizing L with
 | zero=>have:=List.eq_nil_of_length_eq_zero hn;subst this;rfl
 | succ n ih =>
  have hne:L≠[]:=fun e=>by rw[e] at hn;cases hn
  obtain⟨L',e,rfl⟩:∃L' e,L=L'++[e]:=⟨L.dropLast,L.getLast hne,(List.dropLast_concat_getLast hne).symm⟩
  rw[Bo] at hn
  simp only[T8,List.foldl_append,List.foldl_cons,List.foldl_nil]
  rw[Ay5,List.filter_append]
  cases hw:e.wr ℓ with
  | true=>simp[hw]
  | false =>
   simp only[List.filter_cons,hw,Bl,if_false,List.filter_nil,List.append_nil,cond_false]
   exact ih L' (by simpa using hn)
def LD (N:Nat) (f:Nat->E1) (D:Nat->Bool):List E1:=((List.range N).filter D).map f
theorem Avu (N:Nat) (f:Nat->E1) (s:St) (ℓ:Loc) (D:Nat->Bool):gt (T8 s (LD N f D)) ℓ=match ((List.range N).filter fun i=>D i&&(f i).wr ℓ).getLast? with | some i=>(f i).wv ℓ | none=>gt s ℓ:=by
 rw[Azy,LD]
 have:((List.range N).filter D |>.map f).filter (fun e=>e.wr ℓ)=((List.range N).filter fun i=>D i&&(f i).wr ℓ).map f:=by
  rw[List.filter_map,List.filter_filter]
  congr 1
  exact List.filter_congr fun i _=>by simp[Bool.and_comm]
 rw[this,List.getLast?_map]
 cases ((List.range N).filter fun i=>D i&&(f i).wr ℓ).getLast? <;> rfl
variable {f:Nat->E1} {ℓ:Loc}
theorem All {N:Nat} {s:St} {ℓ:Loc} {D D':Nat->Bool} (h:∀i,i<N->(f i).wr ℓ=true->D i=D' i):gt (T8 s (LD N f D)) ℓ=gt (T8 s (LD N f D')) ℓ:=by
 rw[Avu,Avu]
 have:((List.range N).filter fun i=>D i&&(f i).wr ℓ)=((List.range N).filter fun i=>D' i&&(f i).wr ℓ):=List.filter_congr fun i hi=>by
  cases hw:(f i).wr ℓ with
  | true=>rw[h i (List.mem_range.1 hi) hw]
  | false=>simp
 rw[this]
theorem Af8 (p:Nat->Bool):∀(N j:Nat),j<N->p j=true->(∀i,i<N->p i=true->i<=j)->((List.range N).filter p).getLast? = some j
 | 0,j,h,_,_=>by omega
 | N+1,j,h,hp,hall=>by
  rw[List.range_succ,List.filter_append]
  by_cases e:j=N
  ·subst e;simp[hp]
  have:p N=false:=by
   cases hq:p N with
   | false=>rfl
   | true=>have:=hall N (by omega) hq;omega
  simp only[List.filter_cons,this,Bl,if_false,List.filter_nil,List.append_nil]
  exact Af8 p N j (by omega) hp fun i hi hpi=>hall i (by omega) hpi
theorem Ayu {N j:Nat} {s:St} {ℓ:Loc} {D:Nat->Bool} (hj:j<N) (hD:D j=true) (hw:(f j).wr ℓ=true) (hall:∀i,i<N->D i=true->(f i).wr ℓ=true->i<=j):gt (T8 s (LD N f D)) ℓ=(f j).wv ℓ:=by
 rw[Avu,Af8 _ N j hj (by simp[hD,hw]) fun i hi h=>by
  simp only[Ah] at h
  exact hall i hi h.1 h.2]
theorem Aje (f:Nat->E1) (s:St):∀(N j:Nat),j<=N->LD N f (fun i=>decide (i<j))=(List.range j).map f:=by
  intro N j hj
  unfold LD
  congr 1
  induction N with
  | zero => have : j = 0 := by omega
            subst this;rfl
  | succ N ih =>
    rw[List.range_succ,List.filter_append]
    by_cases e:j=N+1
    · subst e
      rw[show ((List.range N).filter fun i=>decide (i<N+1))=List.range N from List.filter_eq_self.2 fun i hi=>by have:=List.mem_range.1 hi;simp;omega]
      simp[List.range_succ]
    · rw[ih (by omega)]
      simp;omega
variable {s s':St}
theorem Es.congr {E:Gp} {β:Nat->Option Nat} {a:Act} {w:World} (r:Es E β s a w) (h:∀ℓ,gt s ℓ=gt s' ℓ):Es E β s' a w:=by
 have h1:∀t,E5 s.sl t=E5 s'.sl t:=fun t=>congrArg Prod.fst (h (.s t))
 have h2:s.o=s'.o:=funext fun id=>congrArg Prod.snd (h (.o id))
 have hC:E.C β s' w=E.C β s w:=by simp only[Gp.C,h2]
 exact⟨r.sz,fun t=>by rw[hC,<- h1];exact r.sl t,r.df,fun id=>by rw[hC,<- h2];exact r.ob id,by rw[<- h2];exact r.inj,by rw[<- h2];exact r.rng,r.kp,by rw[hC];exact r.ct,r.kb,r.dk⟩
def Ix:Op->List Operand:=fun op=>op.operands.toList
def Nh (op:Op) (g:Gd):List Nat:=(Ix op).filterMap (fun x=>match x with | .tmp t=>some t | _=>none)++(match g with | .at t _=>[t] | _=>[])
def F3:Op->Bool
 | .call { callee:=.value _,.. }=>true
 | _=>false
def J3:Op->Bool
 | .move _=>true
 | .assign _=>true
 | _=>false
def Fk (op:Op) (st:St):List Nat:=bif J3 op then [] else bif F3 op then rdC st.o (Ha ((Ix op).map st.raw)) else Ha ((Ix op).map st.raw)
variable {op:Op}
theorem Aiw {st:St} {id:Nat} (hv:J3 op=false) (h:id∈Ha ((Ix op).map st.raw)):id∈Fk op st:=by
 unfold Fk
 rw[hv,cond_false]
 cases F3 op with
 | true=>exact Bj _ h
 | false=>exact h
theorem Aja {o:Nat->Ob}:∀{l:List Nat} {x:Nat},x∈Xe o l->∃id∈l,x∈obI (o id)
 | [],x,h=>by cases h
 | id::l,x,h=>by
  simp only[Xe,A0] at h
  rcases h with h | h
  ·exact⟨id,by simp,h⟩
  obtain⟨y,h1,h2⟩:=Aja h
  exact⟨y,by simp[h1],h2⟩
theorem Anz {o:Nat->Ob} {x id:Nat}:∀{l:List Nat},id∈l->x∈obI (o id)->x∈Xe o l
 | y::l,h,hx=>by
  simp only[Xe,A0]
  cases h with
  | head=>exact .inl hx
  | tail _ h=>exact .inr (Anz h hx)
mutual
theorem Ane {o o':Nat->Ob} {ρ:Nat->Option Nat}:∀(c:AV),(∀id∈c.ids,o id=o' id)->c.passR o ρ=c.passR o' ρ
 | .own id n,h=>by have:=h id (by simp[AV.ids]);simp[AV.passR,this]
 | .sub id n lo m,h=>by have:=h id (by simp[AV.ids]);simp[AV.passR,this]
 | .agg cs,h=>by have:=Lf (ρ:=ρ) cs (by simpa only[AV.ids] using h);simp[AV.passR,this]
 | .tup cs,h=>by have:=Lf (ρ:=ρ) cs (by simpa only[AV.ids] using h);simp[AV.passR,this]
 | .fn f cs,h=>by have:=Lf (ρ:=ρ) cs (by simpa only[AV.ids] using h);simp[AV.passR,this]
 | .any,h=>by simp[AV.passR]
 | .lit _,h=>by simp[AV.passR]
 | .nil _,h=>by simp[AV.passR]
 | .imm _ _ _,h=>by simp[AV.passR]
 | .ptr _ _,h=>by simp[AV.passR]
 | .rptr _ _ _ _,h=>by simp[AV.passR]
 | .bsl _ _,h=>by simp[AV.passR]
 | .iptr _ _ _,h=>by simp[AV.passR]
 | .gd _ _,h=>by simp[AV.passR]
theorem Lf {o o':Nat->Ob} {ρ:Nat->Option Nat}:∀(cs:List AV),(∀id∈Ha cs,o id=o' id)->G9 o ρ cs=G9 o' ρ cs
 | [],h=>by simp[G9]
 | c::cs,h=>by
  have h1:=Ane (ρ:=ρ) c fun id hid=>h id (by simp[Ha,hid])
  have h2:=Lf (ρ:=ρ) cs fun id hid=>h id (by simp[Ha,hid])
  simp[G9,h1,h2]
end
variable {nid:Nat}
theorem Yt.local {f:FuncId} {av:List AV} {o o':Nat->Ob} {sel:List Nat} {σr:List Ob} {res:AV} (h:Yt P f av o nid sel σr res) (ho:∀id∈rdC o (Ha av),o id=o' id):Yt P f av o' nid sel σr res:=by
 obtain⟨h1,h2,h3,h4,h5,h6,h7,h8⟩:=h
 have hav:∀id∈Ha av,o id=o' id:=fun id hid=>ho id (Bj _ hid)
 have hs:∀id∈sel,o id=o' id:=fun id hid=>ho id (h7 id hid).1
 have hin:∀id∈sel,∀x∈obI (o id),o x=o' x:=fun id hid x hx=>ho x ((h7 id hid).2 x hx)
 have hp:∀id∈sel,∀ρ,(o id).passR o ρ=(o' id).passR o' ρ/\((o id).passC o=(o' id).passC o'):=fun id hid ρ=>by
  rw[<- hs id hid]
  have:=hin id hid
  cases hq:o id with
  | gone=>exact⟨rfl,rfl⟩
  | row ty k fr fz es=>exact⟨rfl,rfl⟩
  | box ty cs =>
   rw[hq] at this
   exact⟨by simp only[Ob.passR];rw[Lf cs this],(K3 cs this).2⟩
 have hm:(sel.map fun id=>(o id).passR o fun id=>M3 id sel 0)=sel.map fun id=>(o' id).passR o' fun id=>M3 id sel 0:=List.map_congr_left fun id hid=>(hp id hid _).1
 have hd:∀l,(∀id∈l,o id=o' id)->Xe o l=Xe o' l:=fun l=>by
  induction l with
  | nil=>intro _;rfl
  | cons x xs ih=>intro h;rw[Xe,Xe,h x (by simp),ih fun id hid=>h id (by simp[hid])]
 have hrd:rdC o (Ha av)=rdC o' (Ha av):=by unfold rdC;rw[hd _ hav]
 refine⟨h1,fun id hid=>by rw[<- hs id hid];exact h2 id hid,by rw[<- hm,<- Lf av hav];exact h3,by rw[<- (K3 av hav).2];exact h4,fun id hid=>by rw[<- (hp id hid fun _=>none).2];exact h5 id hid,h6,fun id hid=>by rw[<- hs id hid,<- hrd];exact h7 id hid,?_⟩
 have:(sel.any fun id=>(o' id).borR fun id=>M3 id sel 0)=sel.any fun id=>(o id).borR fun id=>M3 id sel 0:=by
  rw[Bool.eq_iff_iff,List.any_eq_true,List.any_eq_true]
  constructor
  ·rintro⟨x,h1,h2⟩;exact⟨x,h1,by rw[hs x h1];exact h2⟩
  rintro⟨x,h1,h2⟩;exact⟨x,h1,by rw[<- hs x h1];exact h2⟩
 rw[this]
 exact h8
theorem Au5 {g:Gd} (h:∀t∈Nh op g,E5 s.sl t=E5 s'.sl t):∀x∈op.operands,s.raw x=s'.raw x:=by
 intro x hx
 cases x with
 | tmp t=>exact h t (by simp only[Nh,Ix,A0,List.mem_filterMap];exact .inl ⟨.tmp t,by simpa using hx,rfl⟩)
 | const v=>rfl
 | global g=>rfl
 | func f=>rfl
variable {ty:TypeId} {raw raw':Operand->AV}
theorem Axb {o:Nat->Ob} (h:∀x∈op.operands,raw x=raw' x):M9 P op ty raw o nid=M9 P op ty raw' o nid:=by
 have hp:∀(ps:Array (Nat×Operand)),(∀p∈ps,raw p.2=raw' p.2)->(ps.toList.map fun p=>(p.1,(raw p.2).sv))=(ps.toList.map fun p=>(p.1,(raw' p.2).sv)):=fun ps hps=>List.map_congr_left fun p hp=>by rw[hps p (by simpa using hp)]
 cases op with
 | move x=>simp only[M9,h x (by simp[Op.operands])]
 | assign x=>simp only[M9,h x (by simp[Op.operands])]
 | box t x=>simp only[M9,h x (by simp[Op.operands])]
 | build t ps=>simp only[M9];rw[hp ps fun p hp=>h p.2 (by simp only[Op.operands,List.mem_toArray,A4];exact⟨p,by simpa using hp,rfl⟩)]
 | buildSlice t n ps=>simp only[M9];rw[hp ps fun p hp=>h p.2 (by simp only[Op.operands,List.mem_toArray,A4];exact⟨p,by simpa using hp,rfl⟩)]
 | load t x=>simp only[M9,h x (by simp[Op.operands])]
 | store t x y=>simp only[M9,h x (by simp[Op.operands]),h y (by simp[Op.operands])]
 | nilCheck x=>simp only[M9,h x (by simp[Op.operands])]
 | binOp op t x y u=>simp only[M9,h x (by simp[Op.operands]),h y (by simp[Op.operands])]
 | unOp op t x=>simp only[M9,h x (by simp[Op.operands])]
 | convert s d x=>simp only[M9,h x (by simp[Op.operands])]
 | makeFunc f fi cs =>
  cases f with
  | func f =>
   simp only[M9]
   rw[List.map_congr_left (l:=cs.toList) fun x hx=>by rw[h x (by simp only[Op.operands,Array.mem_append];exact .inr (by simpa using hx))]]
  | _=>rfl
 | makeSlice t x y=>simp only[M9,h x (by simp[Op.operands]),h y (by simp[Op.operands])]
 | slice t x lo hi mx =>
  cases mx with
  | some m=>rfl
  | none =>
   simp only[M9,h x (by simp[Op.operands])]
   have h1:lo.map (fun x=>(raw x).sv)=lo.map (fun x=>(raw' x).sv):=by
    cases lo with
    | none=>rfl
    | some y=>simp only[Ai,h y (by simp[Op.operands])]
   have h2:hi.map (fun x=>(raw x).sv)=hi.map (fun x=>(raw' x).sv):=by
    cases hi with
    | none=>rfl
    | some y=>simp only[Ai,h y (by simp[Op.operands])]
   rw[h1,h2]
 | fieldAddr s x f=>simp only[M9,h x (by simp[Op.operands])]
 | indexAddr t x i=>simp only[M9,h x (by simp[Op.operands]),h i (by simp[Op.operands])]
 | extract x i=>simp only[M9,h x (by simp[Op.operands])]
 | call c =>
  obtain⟨callee,args,ts⟩:=c
  cases callee with
  | value f=>rfl
  | invoke r m=>rfl
  | builtin b =>
   have hs':∀x∈args.toList,raw x=raw' x:=fun x hx=>h x (by simp[Op.operands,Call.operands];simpa using hx)
   simp only[M9]
   split
   ·rename_i x t e1 _;rw[hs' x (by rw[e1];simp)]
   ·rename_i d x t t' e1 _;rw[hs' x (by rw[e1];simp),hs' d (by rw[e1];simp)]
   ·rename_i d x t t' e1 _;rw[hs' x (by rw[e1];simp),hs' d (by rw[e1];simp)]
   ·rename_i x t e1 _;rw[hs' x (by rw[e1];simp)]
   ·rename_i x y e1;rw[hs' x (by simp_all),hs' y (by simp_all)]
   ·rename_i x y e1;rw[hs' x (by simp_all),hs' y (by simp_all)]
   ·rename_i x y z e1;rw[hs' x (by simp_all),hs' y (by simp_all),hs' z (by simp_all)]
   rfl
 | _=>rfl
theorem Ave (h:∀x∈op.operands,raw x=raw' x) (hb:P9 raw op):P9 raw' op:=by
 have:=Ang hb
 unfold P9 at hb ⊢
 split<;>first
  | (rw[<- h _ (by simp[Op.operands])];exact hb)
  | (rw[<- h _ (by simp[Op.operands]),<- h _ (by simp[Op.operands])];exact hb)
  | (exact Am.2 fun x hx=>by rw[<- h x (by simpa using hx)];exact this x (by simpa using hx))
theorem Aqk {g:Gd} {e:AV×List (Nat×Ob)} (hs:∀t∈Nh op g,E5 s.sl t=E5 s'.sl t) (ho:∀id∈Fk op s,s.o id=s'.o id) (h:Vd P op ty s nid e):Vd P op ty s' nid e:=by
 have hraw:=Au5 hs
 cases hv:J3 op with
 | true =>
  cases op<;>simp only[J3,Bl,reduceCtorEq] at hv
  ·rename_i x
   have hx:s.raw x=s'.raw x:=hraw x (by simp[Op.operands])
   obtain⟨h1,rfl⟩:=h
   refine⟨?_,?_⟩
   ·revert h1;simp only[Ht,P9,M9,Op.operands];rw[hx];exact id
   simp only[Iv,M9];rw[hx]
  rename_i x
  have hx:s.raw x=s'.raw x:=hraw x (by simp[Op.operands])
  obtain⟨h1,rfl⟩:=h
  refine⟨?_,?_⟩
  ·revert h1;simp only[Ht,P9,M9,Op.operands];rw[hx];exact id
  simp only[Iv,M9];rw[hx]
 | false =>
 have hids:∀x∈op.operands,∀id∈(s.raw x).ids,s.o id=s'.o id:=fun x hx id hid=>ho id (Aiw hv (Agf (A4.2 ⟨x,by simpa[Ix] using hx,rfl⟩) hid))
 unfold Vd at h ⊢
 split at h
 ·rename_i fo args ts
  have hx:∀x∈args.toList,s.raw x=s'.raw x:=fun x hx=>hraw x (by simp[Op.operands,Call.operands];exact .inr (by simpa using hx))
  have hf:s.raw fo=s'.raw fo:=hraw fo (by simp[Op.operands,Call.operands])
  have hm:args.toList.map (fun x=>(s.raw x).sv)=args.toList.map (fun x=>(s'.raw x).sv):=List.map_congr_left fun x h=>by rw[hx x h]
  obtain⟨⟨h1,h2⟩,h⟩:=h
  refine⟨⟨by rw[<- hf];exact h1,Am.2 fun x h=>by rw[<- hx x h];exact Am.1 h2 x h⟩,?_⟩
  have hsub:∀(caps:List AV) (f:FuncId),(s.raw fo).sv=.fn f caps->∀id∈Ha (args.toList.map (fun x=>(s.raw x).sv)++caps),id∈Ha ((Ix (.call ⟨.value fo,args,ts⟩)).map s.raw):=fun caps f h3 id hid=>by
   rw[Ans,A0] at hid
   rcases hid with hid | hid
   ·have:∃x∈args.toList,id∈(s.raw x).ids:=by
     clear h2 h hm hx
     generalize args.toList=l at hid
     induction l with
     | nil=>simp[Ha] at hid
     | cons y ys ih =>
      simp only[List.map_cons,Ha,A0] at hid
      rcases hid with hid | hid
      ·exact⟨y,by simp,Akd _ hid⟩
      obtain⟨x,h8,h9⟩:=ih hid
      exact⟨x,by simp[h8],h9⟩
    obtain⟨x,h8,h9⟩:=this
    exact Agf (A4.2 ⟨x,by simp only[Ix,Op.operands,Call.operands];simp;exact .inr (by simpa using h8),rfl⟩) h9
   exact Agf (A4.2 ⟨fo,by simp[Ix,Op.operands,Call.operands],rfl⟩) (Akd _ (by rw[h3];exact hid))
  rcases h with⟨f,caps,σr,res,h3,h4,h5,h6,h7⟩ | ⟨f,caps,sel,σr,res,h3,h4,h5⟩
  ·have hl:=K3 (o:=s.o) (o':=s'.o) (args.toList.map (fun x=>(s.raw x).sv)++caps) fun id hid=>ho id (Aiw rfl (hsub caps f h3 id hid))
   refine .inl ⟨f,caps,σr,res,by rw[<- hf];exact h3,?_,?_,by rw[<- hm];exact h6,h7⟩
   ·rw[<- hm,<- hl.1];exact h4
   rw[<- hm,<- hl.2];exact h5
  refine .inr ⟨f,caps,sel,σr,res,by rw[<- hf];exact h3,?_,h5⟩
  rw[<- hm]
  refine h4.local fun id hid=>ho id ?_
  have hval:Fk (.call ⟨.value fo,args,ts⟩) s=rdC s.o (Ha ((Ix (.call ⟨.value fo,args,ts⟩)).map s.raw)):=rfl
  rw[hval]
  simp only[rdC,A0] at hid ⊢
  rcases hid with hid | hid
  ·exact .inl (hsub caps f h3 id hid)
  obtain⟨y,h8,h9⟩:=Aja hid
  exact .inr (Anz (hsub caps f h3 y h8) h9)
 obtain⟨h1,h2⟩:=h
 by_cases hp:∃c x y,op=.pick c x y
 ·obtain⟨c,x,y,rfl⟩:=hp
  have e1:=hraw c (by simp[Op.operands])
  have e2:=hraw x (by simp[Op.operands])
  have e3:=hraw y (by simp[Op.operands])
  simp only[Ht,Iv] at h1 h2 ⊢
  rw[<- e1,<- e2,<- e3]
  exact⟨h1,h2⟩
 rw[Agr fun c x y e=>hp ⟨c,x,y,e⟩] at h1 ⊢
 rw[Agn fun c x y e=>hp ⟨c,x,y,e⟩] at h2 ⊢
 have ev:M9 P op ty s.raw s.o nid=M9 P op ty s'.raw s'.o nid:=by rw[Arq hids,Axb hraw]
 rw[<- ev]
 exact⟨⟨Ave hraw h1.1,h1.2⟩,h2⟩
end
section
variable {P:Program}
section
variable (st:St) (g:Gd) (d:Option Tmp) (e:AV×List (Nat×Ob))
include st g d e
def St.eff:E1:=match g with
 | .no=>⟨d,e.1,e.2⟩
 | g=>⟨d,.gd (st.gb g) e.1,bif st.gb g then e.2 else []⟩
theorem Agm:st.afterG g d e=E1.ap st (st.eff g d e):=by
 cases g<;>rfl
theorem Ay6:(st.eff g d e).d=d:=by cases g<;>rfl
theorem Av2:∀p∈(st.eff g d e).up,p∈e.2:=by
 intro p hp
 cases g with
 | no=>exact hp
 | bad=>cases hp
 | _ t b =>
  simp only[St.eff] at hp
  cases hb:st.gb (.at t b)<;>rw[hb] at hp
  ·cases hp
  exact hp
end
abbrev Tr:=List (List Nat×List Nat)
def Gv (P:Program):List VO->St->Tr->(Tr->St->Prop)->Prop
 | [],st,tr,K=>K tr st
 | v::os,st,tr,K=>st.gc v.g /\
  if Fb v.op then ∃e:AV×List (Nat×Ob),(st.gb v.g=true->Vd P v.op v.ty st st.ob.length e)/\Gv P os (st.afterG v.g v.d e) ((Fk v.op st,e.2.map (·.1))::tr) K
  else (st.gb v.g=true->Ht P v.op v.ty st st.ob.length)/\Gv P os (st.afterG v.g v.d (Iv P v.op v.ty st st.ob.length)) ((Fk v.op st,(Iv P v.op v.ty st st.ob.length).2.map (·.1))::tr) K
theorem Ais:∀(l:List VO) (st:St) (tr:Tr) (K:Tr->St->Prop),Gv P l st tr K->∃(f:Nat->E1) (e:Nat->AV×List (Nat×Ob)) (tr':Tr),
 (∀(j:Nat) (v:VO),l[j]? = some v->(T8 st ((List.range j).map f)).gc v.g/\((T8 st ((List.range j).map f)).gb v.g=true->Vd P v.op v.ty (T8 st ((List.range j).map f)) (T8 st ((List.range j).map f)).ob.length (e j)) /\
  f j=(T8 st ((List.range j).map f)).eff v.g v.d (e j)/\tr'.reverse[tr.length+j]? = some (Fk v.op (T8 st ((List.range j).map f)),(e j).2.map (·.1))) /\
  (∃q,tr'=q++tr)/\K tr' (T8 st ((List.range l.length).map f))
 | [],st,tr,K,h=>⟨fun _=>⟨none,.any,[]⟩,fun _=>(.any,[]),tr,fun j v hv=>by simp at hv,⟨[],rfl⟩,h⟩
 | v::os,st,tr,K,h=>by
  obtain⟨hg,h⟩:=h
  have hh:∃e:AV×List (Nat×Ob),(st.gb v.g=true->Vd P v.op v.ty st st.ob.length e)/\Gv P os (st.afterG v.g v.d e) ((Fk v.op st,e.2.map (·.1))::tr) K:=by
   cases hc:Fb v.op with
   | true=>rw[hc,if_pos rfl] at h;exact h
   | false =>
    rw[hc,if_neg (by simp)] at h
    exact⟨_,fun hb=>Aew hc (h.1 hb),h.2⟩
  obtain⟨e0,h1,h2⟩:=hh
  obtain⟨f,e,tr',h3,⟨q,h4⟩,h5⟩:=Ais os _ _ K h2
  have hap:∀j,T8 st ((List.range (j+1)).map fun i=>match i with | 0=>st.eff v.g v.d e0 | i+1=>f i)=T8 (st.afterG v.g v.d e0) ((List.range j).map f):=fun j=>by
   rw[List.range_succ_eq_map,List.map_cons,List.map_map,Agm]
   rfl
  refine⟨fun i=>match i with | 0=>st.eff v.g v.d e0 | i+1=>f i,fun i=>match i with | 0=>e0 | i+1=>e i,tr',fun j v' hv'=>?_,⟨q++[(Fk v.op st,e0.2.map (·.1))],by rw[h4];simp⟩,?_⟩
  ·cases j with
   | zero =>
    simp only[List.getElem?_cons_zero,Option.some.injEq] at hv'
    subst hv'
    refine⟨hg,h1,rfl,?_⟩
    rw[h4]
    simp only[List.reverse_append,List.reverse_cons,List.append_assoc]
    rw[Ao (by simp)]
    simp[T8]
   | succ j =>
    simp only[Bb] at hv'
    rw[hap]
    have:=h3 j v' hv'
    refine⟨this.1,this.2.1,this.2.2.1,?_⟩
    have h6:=this.2.2.2
    rw[A6,show tr.length+1+j=tr.length+(j+1) by omega] at h6
    exact h6
  rw[A6,hap];exact h5
def Aaq {α:Type} (c:α->α->Bool):List Nat->List (Nat×α)->Nat->List α->Bool
 | _,_,_,[]=>true
 | an,acc,j,y::ys=>(acc.all fun p=>!c p.2 y||(an.headD 0).testBit p.1)&&Aaq c an.tail ((j,y)::acc) (j+1) ys
theorem W9 {α:Type} {c:α->α->Bool}:∀(ys:List α) (an:List Nat) (acc:List (Nat×α)) (j:Nat),Aaq c an acc j ys=true ->
 (∀(k:Nat) (y:α) (p:Nat×α),ys[k]? = some y->p∈acc->c p.2 y=true->(an.getD k 0).testBit p.1=true) /\
  ∀(i k:Nat) (x y:α),i<k->ys[i]? = some x->ys[k]? = some y->c x y=true->(an.getD k 0).testBit (j+i)=true
 | [],an,acc,j,h=>⟨fun k y p hy=>by simp at hy,fun i k x y _ hx=>by simp at hx⟩
 | z::ys,an,acc,j,h=>by
  simp only[Aaq,Ah] at h
  obtain⟨h1,h2⟩:=h
  obtain⟨h3,h4⟩:=W9 ys an.tail ((j,z)::acc) (j+1) h2
  have htl:∀k,an.getD (k+1) 0=an.tail.getD k 0:=fun k=>by cases an<;>simp
  refine⟨fun k y p hy hp hc=>?_,fun i k x y hik hx hy hc=>?_⟩
  ·cases k with
   | zero =>
    simp only[List.getElem?_cons_zero,Option.some.injEq] at hy
    subst hy
    have:=Am.1 h1 p hp
    rw[hc] at this
    simpa[List.headD_eq_head?_getD,Ad,List.head?_eq_getElem?] using this
   | succ k =>
    simp only[Bb] at hy
    rw[htl]
    exact h3 k y p hy (by simp[hp]) hc
  cases k with
  | zero=>omega
  | succ k =>
   simp only[Bb] at hy
   rw[htl]
   cases i with
   | zero =>
    simp only[List.getElem?_cons_zero,Option.some.injEq] at hx
    subst hx
    exact h3 k y (j,z) hy (by simp) hc
   | succ i =>
    simp only[Bb] at hx
    have:=h4 i k x y (by omega) hx hy hc
    rwa[show j+(i+1)=j+1+i by omega]
def Afo (x y:VO):Bool:=(match x.d with | some d=>(Nh y.op y.g).contains d||y.d == some d | none=>false)||(match y.d with | some d=>(Nh x.op x.g).contains d | none=>false)
variable {x y:VO}
theorem Amw {t:Nat} (h:x.d=some t) (h2:t∈Nh y.op y.g\/y.d=some t):Afo x y=true:=by
 unfold Afo
 simp only[h,Bool.or_eq_true]
 rcases h2 with h2 | h2
 ·exact .inl (.inl (by simpa using h2))
 exact .inl (.inr (by rw[h2];simp))
theorem Aur {t:Nat} (h:y.d=some t) (h2:t∈Nh x.op x.g):Afo x y=true:=by
 unfold Afo
 simp only[h,Bool.or_eq_true]
 exact .inr (by simpa using h2)
def ov (a b:List Nat):Bool:=a.any fun x=>b.contains x
theorem Aq5 {a b:List Nat} {x:Nat} (ha:x∈a) (hb:x∈b):ov a b=true:=List.any_eq_true.2 ⟨x,ha,by simpa using hb⟩
def Avt (x y:List Nat×List Nat):Bool:=ov x.2 y.1||ov x.2 y.2||ov x.1 y.2
def back (l:List Oper):Bool:=(l.zipIdx).all fun p=>p.1.after.toList.all fun e=>!Region.binds .any e||decide (e.on<p.2)
def Jk (l:List Oper):Bool:=back l&&Aaq Afo (Aeb l []) [] 0 (Gf l)
def Rt (l:List Oper) (tr:Tr):Bool:=Aaq Avt (Aeb l []) [] 0 tr.reverse
variable {l:List Oper}
theorem Awe (h:back l=true):∀(j:Nat) (o:Oper),l[j]? = some o->∀e∈o.after,Region.binds .any e=true->e.on<j:=fun j o ho e he hb=>by
 have:=Am.1 h (o,j) (by rw[List.mem_zipIdx_iff_getElem?];exact ho)
 have:=Am.1 this e (by simpa using he)
 simpa[hb] using this
def Dn (listed:Array Bool) (i:Nat):Bool:=listed.getD i false
def Aua (v:VO) (rd wr:List Nat):Loc->Prop
 | .s t=>t∈Nh v.op v.g\/v.d=some t
 | .o id=>id∈rd\/id∈wr
variable {ℓ:Loc} {s s':St} {F:Fence} {Q:Exit->Act->World->Prop}
section
variable {E:Gp} {l:List Oper} {st:St} {f:Nat->E1} {e:Nat->AV×List (Nat×Ob)} {tr:Tr}
structure Ali (P:Program) (E:Gp) (l:List Oper) (st:St) (f:Nat->E1) (e:Nat->AV×List (Nat×Ob)) (tr:Tr):Prop where
  hd:∀o∈l,∀x,o.dst=some x->x<E.n
  hs:Jk l=true
  hi:Rt l tr=true
  run : ∀ (j : Nat) (v : VO), (Gf l)[j]? = some v -> (T8 st ((List.range j).map f)).gc v.g /\ ((T8 st ((List.range j).map f)).gb v.g = true -> Vd P v.op v.ty (T8 st ((List.range j).map f)) (T8 st ((List.range j).map f)).ob.length (e j)) /\
      f j=(T8 st ((List.range j).map f)).eff v.g v.d (e j)/\tr.reverse[j]? = some (Fk v.op (T8 st ((List.range j).map f)),(e j).2.map (·.1))
theorem Af3 (l:List Oper) (j:Nat):(Gf l)[j]? = (l[j]?).map fun o=>⟨o.dst,o.op,o.type,Ns l.toArray o⟩:=by simp[Gf]
theorem Ali.ord (R:Ali P E l st f e tr) {i j:Nat} (hx:(Gf l)[i]? = some x) (hy:(Gf l)[j]? = some y) (hij:i<j) {ℓ:Loc} (h:((f i).wr ℓ=true/\Aua y (Fk y.op (T8 st ((List.range j).map f))) ((e j).2.map (·.1)) ℓ)\/((f j).wr ℓ=true/\Aua x (Fk x.op (T8 st ((List.range i).map f))) ((e i).2.map (·.1)) ℓ)) :
  ((Aeb l []).getD j 0).testBit i=true:=by
 obtain⟨_,_,fi,ti⟩:=R.run i x hx
 obtain⟨_,_,fj,tj⟩:=R.run j y hy
 have hsl:=R.hs
 simp only[Jk,Ah] at hsl
 have wd:∀{k:Nat} {v:VO} {t:Nat},f k=(T8 st ((List.range k).map f)).eff v.g v.d (e k)->(f k).wr (.s t)=true->v.d=some t:=fun hk hw=>by
  simp only[E1.wr] at hw
  rw[hk,Ay6] at hw
  simpa using hw
 have wi:∀{k:Nat} {v:VO} {id:Nat},f k=(T8 st ((List.range k).map f)).eff v.g v.d (e k)->(f k).wr (.o id)=true->id∈(e k).2.map (·.1):=fun hk hw=>by
  simp only[E1.wr] at hw
  obtain⟨p,h1,h2⟩:=List.any_eq_true.1 hw
  rw[hk] at h1
  have:=Av2 _ _ _ _ p h1
  exact A4.2 ⟨p,this,by simpa using h2⟩
 cases ℓ with
 | s t =>
  have:=(W9 _ _ _ _ hsl.2).2 i j x y hij hx hy (by
   rcases h with⟨h1,h2⟩ | ⟨h1,h2⟩
   ·exact Amw (wd fi h1) h2
   rcases h2 with h2 | h2
   ·exact Aur (wd fj h1) h2
   exact Amw h2 (.inr (wd fj h1)))
  rwa[Bm] at this
 | o id =>
  have:=(W9 _ _ _ _ R.hi).2 i j _ _ hij ti tj (by
   unfold Avt
   rcases h with⟨h1,h2⟩ | ⟨h1,h2⟩
   ·have:=wi fi h1
    rcases h2 with h2 | h2
    ·simp[Aq5 this h2]
    simp[Aq5 this h2]
   have:=wi fj h1
   rcases h2 with h2 | h2
   ·simp[Aq5 h2 this]
   simp[Aq5 h2 this])
  rwa[Bm] at this
def Aqi (l:List Oper) (D:Nat->Bool):Prop:=∀(j:Nat) (o:Oper),l[j]? = some o->D j=true->∀e∈o.after,Region.binds .any e=true->D e.on=true
theorem Ali.same (R:Ali P E l st f e tr) {D:Nat->Bool} (hc:Aqi l D) {j:Nat} {o:Oper} {y:VO} (ho:l[j]? = some o) (hy:(Gf l)[j]? = some y) (hj:D j=false) (hr:∀e∈o.after,Region.binds .any e=true->D e.on=true) {ℓ:Loc}
 (ht:Aua y (Fk y.op (T8 st ((List.range j).map f))) ((e j).2.map (·.1)) ℓ):gt (T8 st (LD l.length f D)) ℓ=gt (T8 st ((List.range j).map f)) ℓ:=by
 have hjl:j<l.length:=(Ab.1 ho).1
 rw[<- Aje f st l.length j (by omega)]
 refine All fun i hi hw=>?_
 have hx:∃ox,l[i]? = some ox:=⟨_,Aa hi⟩
 obtain⟨ox,hox⟩:=hx
 have hx:(Gf l)[i]? = some ⟨ox.dst,ox.op,ox.type,Ns l.toArray ox⟩:=by rw[Af3,hox];rfl
 by_cases hij:i<j
 ·rw[decide_eq_true hij]
  exact Ap0 hc j o ho hr i (R.ord hx hy hij (.inl ⟨hw,ht⟩))
 rw[decide_eq_false hij]
 by_cases he:i=j
 ·rw[he];exact hj
 cases hD:D i with
 | false=>rfl
 | true =>
  have:=Ap0 hc i ox hox (hc i ox hox hD) j (R.ord hy hx (by omega) (.inr ⟨hw,ht⟩))
  rw[hj] at this;cases this
theorem Ayb {op:Op} {g:Gd} (h:∀t∈Nh op g,E5 s.sl t=E5 s'.sl t):s.gc g=s'.gc g/\s.gb g=s'.gb g:=by
 cases g with
 | no=>exact⟨rfl,rfl⟩
 | bad=>exact⟨rfl,rfl⟩
 | _ t b=>have:=h t (by simp[Nh]);simp only[St.gc,St.gb,this,and_self]
theorem Av3 {g:Gd} (h:s.gb g=s'.gb g) (d:Option Tmp) (e:AV×List (Nat×Ob)):s.eff g d e=s'.eff g d e:=by
 cases g with
 | no=>rfl
 | bad=>rfl
 | _ t b=>simp only[St.eff,h]
theorem Ali.step (R:Ali P E l st f e tr) {listed:Array Bool} (hl:listed.size=l.length) (hc:Aqi l (Dn listed)) {j:Nat} {o:Oper} (ho:l[j]? = some o) (hj:Dn listed j=false) (hr:∀e∈o.after,Region.binds .any e=true->Dn listed e.on=true) {β:Nat->Option Nat} {a:Act} {w:World} (r:Es E β (T8 st (LD l.length f (Dn listed))) a w) (hF:FOk E F) {K:Act->World->Prop} (hK:∀β' a' w',Es E β' (T8 st (LD l.length f (Dn (listed.setIfInBounds j true)))) a' w'->K a' w'):wpOpIn F 0 P l.toArray Q j K a w:=by
 have hjl:j<l.length:=(Ab.1 ho).1
 have hy:(Gf l)[j]? = some ⟨o.dst,o.op,o.type,Ns l.toArray o⟩:=by rw[Af3,ho];rfl
 obtain⟨h1,h2,h3,h4⟩:=R.run j _ hy
 simp only at h1 h2 h3 h4
 have hsl:∀t∈Nh o.op (Ns l.toArray o),E5 (T8 st ((List.range j).map f)).sl t=E5 (T8 st (LD l.length f (Dn listed))).sl t:=fun t ht =>
  congrArg Prod.fst (R.same hc ho hy hj hr (ℓ:=.s t) (.inl ht)).symm
 have hob:∀id,(id∈Fk o.op (T8 st ((List.range j).map f))\/id∈(e j).2.map (·.1))->(T8 st ((List.range j).map f)).o id=(T8 st (LD l.length f (Dn listed))).o id:=fun id ht =>
  congrArg Prod.snd (R.same hc ho hy hj hr (ℓ:=.o id) ht).symm
 obtain⟨g1,g2⟩:=Ayb hsl
 have hD':∀i,Dn (listed.setIfInBounds j true) i=if i=j then true else Dn listed i:=fun i=>by
  unfold Dn
  by_cases he:i=j
  ·subst he;rw[if_pos rfl];simp[hl,hjl]
  rw[if_neg he,getD_set_ne false (Ne.symm he)]
 unfold wpOpIn
 have ho':l.toArray[j]? = some o:=by simpa using ho
 simp only[ho']
 refine Ut r (hd:=R.hd o (Ac ho)) (nid:=(T8 st ((List.range j).map f)).ob.length) (hg:=by rw[<- g1];exact h1) (e:=e j) (fun hb p hp hge=>?_) (fun hb=>?_) hF fun β' a' w' r'=>?_
 ·rw[<- hob p.1 (.inr (A4.2 ⟨p,hp,rfl⟩))]
  exact Hg _ _ hge
 ·exact Aqk hsl (fun id hid=>hob id (.inl hid)) (h2 (by rw[g2];exact hb))
 refine hK β' a' w' (r'.congr fun ℓ=>?_)
 rw[Agm,Av3 g2.symm,<- h3,Ay5]
 cases hw:(f j).wr ℓ with
 | true =>
  refine (Ayu hjl (by rw[hD',if_pos rfl]) hw fun i hi hDi hwi=>?_).symm
  by_cases he:i=j
  ·omega
  rw[hD',if_neg he] at hDi
  apply Classical.byContradiction
  intro hlt
  have hx:∃ox,l[i]? = some ox:=⟨_,Aa hi⟩
  obtain⟨ox,hox⟩:=hx
  have hx:(Gf l)[i]? = some ⟨ox.dst,ox.op,ox.type,Ns l.toArray ox⟩:=by rw[Af3,hox];rfl
  have:=Ap0 hc i ox hox (hc i ox hox hDi) j (R.ord hy hx (by omega) (.inr ⟨hwi,by
   cases ℓ with
   | s t =>
    refine .inr ?_
    simp only[E1.wr] at hw
    rw[h3,Ay6] at hw
    simpa using hw
   | o id =>
    refine .inr ?_
    simp only[E1.wr] at hw
    obtain⟨p,q1,q2⟩:=List.any_eq_true.1 hw
    rw[h3] at q1
    exact A4.2 ⟨p,Av2 _ _ _ _ p q1,by simpa using q2⟩⟩))
  rw[hj] at this;cases this
 | false =>
  refine All fun i hi hwi=>?_
  rw[hD',if_neg]
  rintro rfl
  rw[hw] at hwi;cases hwi
theorem Ali.any (R:Ali P E l st f e tr) (hF:FOk E F) (hQ:∀β a w,Es E β (T8 st ((List.range l.length).map f)) a w->Q .normal a w):∀(fuel:Nat) (listed:Array Bool) (a:Act) (w:World) (β:Nat->Option Nat),
 listed.size=l.length->Aqi l (Dn listed)->(List.range l.length).countP (fun i=>!Dn listed i)<=fuel->Es E β (T8 st (LD l.length f (Dn listed))) a w->wpAnyIn F 0 P .any l.toArray Q fuel listed a w:=by
 have hend:∀(listed:Array Bool) (a:Act) (w:World) (β:Nat->Option Nat),(∀i,i<l.length->Dn listed i=true)->Es E β (T8 st (LD l.length f (Dn listed))) a w->Q .normal a w:=fun listed a w β hall r =>
  hQ β a w (r.congr fun ℓ=>by
   rw[<- Aje f st l.length l.length (Aj _)]
   exact All fun i hi _=>by rw[hall i hi,decide_eq_true hi])
 have hsl:=R.hs
 simp only[Jk,Ah] at hsl
 have hback:=Awe hsl.1
 have hnone:∀(listed:Array Bool),listed.size=l.length->Region.ready .any l.toArray listed=[]->∀i,i<l.length->Dn listed i=true:=fun listed hsz hre i=>by
  induction i using Nat.strongRecOn with
  | _ i ih =>
   intro hi
   cases hD:Dn listed i with
   | true=>rfl
   | false =>
    have:i∈Region.ready .any l.toArray listed:=by
     rw[mem_ready]
     refine⟨?_,l[i],by simp[hi],fun e' he' hb=>?_⟩
     ·have hD':listed.getD i false=false:=hD
      simp only[Array.getD,hsz,hi,dif_pos] at hD' ⊢
      exact hD'
     have:=hback i _ (Aa hi) e' he' hb
     exact ih e'.on this (by omega)
    rw[hre] at this;cases this
 intro fuel
 induction fuel with
 | zero =>
  intro listed a w β hsz hc hcnt r
  have hall:∀i,i<l.length->Dn listed i=true:=fun i hi=>by
   have h0:(List.range l.length).countP (fun i=>!Dn listed i)=0:=by omega
   have:=List.countP_eq_zero.1 h0 i (List.mem_range.2 hi)
   simpa using this
  refine⟨?_,hend listed a w β hall r⟩
  rw[List.eq_nil_iff_forall_not_mem]
  intro j hj
  obtain⟨h1,o,ho,_⟩:=mem_ready.1 hj
  have hjl:j<l.length:=by
   have:=(Aw.1 ho).1
   simpa using this
  have:=hall j hjl
  unfold Dn at this
  simp only[Array.getD,hsz,hjl,dif_pos] at this h1
  rw[this] at h1;cases h1
 | succ fuel ih =>
  intro listed a w β hsz hc hcnt r
  refine⟨fun hre=>hend listed a w β (hnone listed hsz hre) r,fun j hj=>?_⟩
  obtain⟨h1,o,ho,hall⟩:=mem_ready.1 hj
  have ho':l[j]? = some o:=by simpa using ho
  have hjl:j<l.length:=(Ab.1 ho').1
  have hDj:Dn listed j=false:=by
   unfold Dn
   simp only[Array.getD,hsz,hjl,dif_pos] at h1 ⊢
   exact h1
  refine R.step hsz hc ho' hDj hall r hF fun β' a' w' r'=>ih _ a' w' β' (by simp[hsz]) ?_ ?_ r'
  ·intro k ok hok hk e' he' hb
   by_cases hkj:k=j
   ·subst hkj
    rw[ho'] at hok
    cases hok
    exact getD_set_true (hall e' he' hb)
   refine getD_set_true (hc k ok hok ?_ e' he' hb)
   unfold Dn at hk ⊢
   rwa[getD_set_ne false (Ne.symm hkj)] at hk
  have hlt:(List.range l.length).countP (fun i=>!Dn (listed.setIfInBounds j true) i)<(List.range l.length).countP (fun i=>!Dn listed i):=by
   have hle:∀(L:List Nat),L.countP (fun i=>!Dn (listed.setIfInBounds j true) i)<=L.countP (fun i=>!Dn listed i)/\(j∈L->L.countP (fun i=>!Dn (listed.setIfInBounds j true) i)<L.countP (fun i=>!Dn listed i)):=fun L=>by
    induction L with
    | nil=>simp
    | cons x L ihL =>
     rw[List.countP_cons,List.countP_cons]
     by_cases hx:x=j
     ·subst hx
      have e1:Dn (listed.setIfInBounds x true) x=true:=by unfold Dn;simp[hsz,hjl]
      rw[e1,hDj]
      simp
      omega
     have e1:Dn (listed.setIfInBounds j true) x=Dn listed x:=by unfold Dn;exact getD_set_ne false (Ne.symm hx)
     rw[e1]
     refine⟨by omega,fun hm=>?_⟩
     have:=ihL.2 (by simpa[Ne.symm hx] using hm)
     omega
   exact (hle _).2 (List.mem_range.2 hjl)
  omega
end
variable {n m:Nat} {K:Exit->St->Prop}
theorem VW.draw1 {st:St} {id:Nat} (hm:P.follows .mixedOrders=true) (hd:Fs n l=true) (hs:Jk l=true) (h:∀K1:Tr->St->Prop,(∀tr s,Rt l tr=true->K .normal s->K1 tr s)->Gv P (Gf l) st [] K1):VW P n m (.region id l.toArray true) st K:=by
 refine fun E F hE hF β a w r=>?_
 obtain⟨f,e,tr,h1,_,hi,h2⟩:=Ais _ _ _ _ (h (fun tr s=>Rt l tr=true/\K .normal s) fun tr s h1 h2=>⟨h1,h2⟩)
 have R:Ali P E l st f e tr:=⟨fun o ho x hx=>by rw[hE.1];exact O3 hd o ho x hx,hs,hi,fun j v hv=>by
  obtain⟨q1,q2,q3,q4⟩:=h1 j v hv
  exact⟨q1,q2,q3,by simpa using q4⟩⟩
 rw[show (Gf l).length=l.length by simp[Gf]] at h2
 refine wpIn_region_any hm ?_
 have h0:∀i,Dn (Array.replicate l.toArray.size false) i=false:=fun i=>by
  unfold Dn
  rw[Av]
  cases hq:(Array.replicate l.toArray.size false)[i]? with
  | none=>rfl
  | some b =>
   have:=Aw.1 hq
   obtain⟨_,q⟩:=this
   simpa using q.symm
 refine R.any hF (fun β' a' w' r'=>⟨E,_,β',Hs.refl E,h2,r'⟩) _ _ a _ β (by simp) (fun j o ho hD=>by rw[h0] at hD;cases hD) ?_ ?_
 ·refine Ak List.countP_le_length ?_
  simp
 have:LD l.length f (Dn (Array.replicate l.toArray.size false))=[]:=by
  unfold LD
  rw[List.map_eq_nil_iff,List.filter_eq_nil_iff]
  intro i _
  rw[h0];simp
 rw[this]
 exact r.drew _
theorem VW.draw_seq {st:St} {id:Nat} {y:Code} (hm:P.follows .mixedOrders=true) (hd:Fs n l=true) (hs:Jk l=true) (h:∀K1:Tr->St->Prop,(∀tr s,Rt l tr=true->VW P n m y s K->K1 tr s)->Gv P (Gf l) st [] K1):VW P n m (.seq (.region id l.toArray true) y) st K:=.seq (.draw1 hm hd hs h)
end
section
variable {P:Program} {d:Option Tmp} {ty:TypeId} {os:List VO} {st:St} {K:Tr->St->Prop} {tr:Tr}
theorem Ar3:Gv P [] st tr K=K tr st:=rfl
def Ao7 (P:Program) (d:Option Tmp) (op:Op) (ty:TypeId) (v:AV) (want:Bool) (os:List VO) (st:St) (tr:Tr) (K:Tr->St->Prop):Prop :=
 Ih v.sv=true/\((v.sb&&(Fh v.sv == want))=true->Ht P op ty st st.ob.length) /\
  Gv P os (st.after d (.gd (v.sb&&(Fh v.sv == want)) (Iv P op ty st st.ob.length).1) (bif (v.sb&&(Fh v.sv == want)) then (Iv P op ty st st.ob.length).2 else [])) ((Fk op st,(Iv P op ty st st.ob.length).2.map (·.1))::tr) K
def Aqf (P:Program) (d:Option Tmp) (op:Op) (ty:TypeId) (os:List VO) (st:St) (tr:Tr) (K:Tr->St->Prop):Prop :=
 ∃e:AV×List (Nat×Ob),Vd P op ty st st.ob.length e/\Gv P os (st.after d e.1 e.2) ((Fk op st,e.2.map (·.1))::tr) K
def Alk (P:Program) (d:Option Tmp) (op:Op) (ty:TypeId) (v:AV) (want:Bool) (os:List VO) (st:St) (tr:Tr) (K:Tr->St->Prop):Prop :=
 Ih v.sv=true/\∃e:AV×List (Nat×Ob),((v.sb&&(Fh v.sv == want))=true->Vd P op ty st st.ob.length e)/\Gv P os (st.after d (.gd (v.sb&&(Fh v.sv == want)) e.1) (bif (v.sb&&(Fh v.sv == want)) then e.2 else [])) ((Fk op st,e.2.map (·.1))::tr) K
theorem Aut {op:Op}:Gv P (⟨d,op,ty,.no⟩::os) st tr K=if Fb op=true then Aqf P d op ty os st tr K else (Ht P op ty st st.ob.length/\Gv P os (st.after d (Iv P op ty st st.ob.length).1 (Iv P op ty st st.ob.length).2) ((Fk op st,(Iv P op ty st st.ob.length).2.map (·.1))::tr) K):=by
 simp only[Gv,St.gc,St.gb,St.afterG,true_and,forall_const,Aqf]
theorem Auu {op:Op} {t:Tmp} {want:Bool}:Gv P (⟨d,op,ty,.at t want⟩::os) st tr K=if Fb op=true then Alk P d op ty (E5 st.sl t) want os st tr K else Ao7 P d op ty (E5 st.sl t) want os st tr K:=by
 simp only[Gv,St.gc,St.gb,St.afterG,Ao7,Alk]
 split<;>simp only[and_true,true_and]
variable {ps:List (Nat×Operand)} {xs:List Operand} {ts:Array TypeId}
section
variable {nid:Nat} {x y z c a b:Operand} {t u:TypeId}
theorem Axr:Fk (.move x) st=[]:=rfl
theorem Ar8:Fk (.assign x) st=[]:=rfl
theorem Au4:Fk (.alloc t) st=[]:=by simp[Fk,J3,F3,Ix,Op.operands,Ha]
theorem Azm:Fk (.box t x) st=(st.raw x).ids:=by simp[Fk,J3,F3,Ix,Op.operands,Ha]
theorem Axs:Fk (.load t x) st=(st.raw x).ids:=by simp[Fk,J3,F3,Ix,Op.operands,Ha]
theorem Au0:Fk (.store t x y) st=(st.raw x).ids++(st.raw y).ids:=by simp[Fk,J3,F3,Ix,Op.operands,Ha]
theorem Am0:Fk (.nilCheck x) st=(st.raw x).ids:=by simp[Fk,J3,F3,Ix,Op.operands,Ha]
theorem Au3 {op:BinOp}:Fk (.binOp op t x y u) st=(st.raw x).ids++(st.raw y).ids:=by simp[Fk,J3,F3,Ix,Op.operands,Ha]
theorem Axp {op:UnOp}:Fk (.unOp op t x) st=(st.raw x).ids:=by simp[Fk,J3,F3,Ix,Op.operands,Ha]
theorem Ape:Fk (.convert t u x) st=(st.raw x).ids:=by simp[Fk,J3,F3,Ix,Op.operands,Ha]
theorem Akm {f:Nat}:Fk (.fieldAddr t x f) st=(st.raw x).ids:=by simp[Fk,J3,F3,Ix,Op.operands,Ha]
theorem Akl:Fk (.indexAddr t x y) st=(st.raw x).ids++(st.raw y).ids:=by simp[Fk,J3,F3,Ix,Op.operands,Ha]
theorem Apd {i:Nat}:Fk (.extract x i) st=(st.raw x).ids:=by simp[Fk,J3,F3,Ix,Op.operands,Ha]
theorem Axq:Fk (.pick c a b) st=(st.raw c).ids++((st.raw a).ids++(st.raw b).ids):=by simp[Fk,J3,F3,Ix,Op.operands,Ha]
theorem Au2:Fk (.build t ps.toArray) st=Ha (ps.map fun p=>st.raw p.2):=by simp[Fk,J3,F3,Ix,Op.operands,Function.comp_def]
theorem Ahs {n:Nat}:Fk (.buildSlice t n ps.toArray) st=Ha (ps.map fun p=>st.raw p.2):=by simp[Fk,J3,F3,Ix,Op.operands,Function.comp_def]
theorem Am1 {f:FuncId} {cs:List Operand}:Fk (.makeFunc (.func f) #[] cs.toArray) st=Ha (cs.map st.raw):=by simp[Fk,J3,F3,Ix,Op.operands]
theorem Akk:Fk (.makeSlice t x y) st=(st.raw x).ids++(st.raw y).ids:=by simp[Fk,J3,F3,Ix,Op.operands,Ha]
theorem Apc:Fk (.slice t x none none none) st=(st.raw x).ids:=by simp[Fk,J3,F3,Ix,Op.operands,Ha]
theorem Apa:Fk (.slice t x (some y) none none) st=(st.raw x).ids++(st.raw y).ids:=by simp[Fk,J3,F3,Ix,Op.operands,Ha]
theorem Apb:Fk (.slice t x none (some y) none) st=(st.raw x).ids++(st.raw y).ids:=by simp[Fk,J3,F3,Ix,Op.operands,Ha]
theorem Ao9:Fk (.slice t x (some y) (some z) none) st=(st.raw x).ids++((st.raw y).ids++(st.raw z).ids):=by simp[Fk,J3,F3,Ix,Op.operands,Ha]
theorem Au1 {f:Builtin}:Fk (.call ⟨.builtin f,xs.toArray,ts⟩) st=Ha (xs.map st.raw):=by simp[Fk,J3,F3,Ix,Op.operands,Call.operands]
theorem Axt {fo:Operand}:Fk (.call ⟨.value fo,xs.toArray,ts⟩) st=rdC st.o ((st.raw fo).ids++Ha (xs.map st.raw)):=by simp[Fk,J3,F3,Ix,Op.operands,Call.operands,Ha]
end
attribute [go_sem] Ar3 Aut Auu Ao7 Axr Ar8 Au4 Azm Axs Au0 Am0 Au3 Axp Ape Akm Akl Apd Axq Au2 Ahs Am1 Akk Apc Apa Apb Ao9 Au1 Axt AV.ids Ha rdC Xe obI
end
section
variable {P:Program}
theorem Lb:∀(l:List VO) (st:St) {K K':St->Prop},(∀s,K s->K' s)->runs P l st K->runs P l st K'
 | [],st,K,K',h,hr=>h _ hr
 | v::os,st,K,K',h,hr=>by
  obtain⟨hg,hr⟩:=hr
  refine⟨hg,?_⟩
  cases hc:Fb v.op with
  | true =>
   rw[hc,if_pos rfl] at hr
   rw[if_pos rfl]
   obtain⟨e,h1,h2⟩:=hr
   exact⟨e,h1,Lb os _ h h2⟩
  | false =>
   rw[hc,if_neg (by simp)] at hr
   rw[if_neg (by simp)]
   exact⟨hr.1,Lb os _ h hr.2⟩
theorem Qi:∀(l:List VO) (st:St) {K:St->Prop},runs P l st K->∃s,runs P l st (fun s'=>s'=s)/\K s
 | [],st,K,hr=>⟨st,rfl,hr⟩
 | v::os,st,K,hr=>by
  obtain⟨hg,hr⟩:=hr
  cases hc:Fb v.op with
  | true =>
   rw[hc,if_pos rfl] at hr
   obtain⟨e,h1,h2⟩:=hr
   obtain⟨s,h3,h4⟩:=Qi os _ h2
   exact⟨s,⟨hg,by rw[hc,if_pos rfl];exact⟨e,h1,h3⟩⟩,h4⟩
  | false =>
   rw[hc,if_neg (by simp)] at hr
   obtain⟨s,h3,h4⟩:=Qi os _ hr.2
   exact⟨s,⟨hg,by rw[hc,if_neg (by simp)];exact⟨hr.1,h3⟩⟩,h4⟩
theorem Uv:∀(l:List VO) (st:St) (tr:Tr) {K K':Tr->St->Prop},(∀t s,K t s->K' t s)->Gv P l st tr K->Gv P l st tr K'
 | [],st,tr,K,K',h,hr=>h _ _ hr
 | v::os,st,tr,K,K',h,hr=>by
  obtain⟨hg,hr⟩:=hr
  refine⟨hg,?_⟩
  cases hc:Fb v.op with
  | true =>
   rw[hc,if_pos rfl] at hr
   rw[if_pos rfl]
   obtain⟨e,h1,h2⟩:=hr
   exact⟨e,h1,Uv os _ _ h h2⟩
  | false =>
   rw[hc,if_neg (by simp)] at hr
   rw[if_neg (by simp)]
   exact⟨hr.1,Uv os _ _ h hr.2⟩
theorem Aab:∀(l:List VO) (st:St) (tr:Tr) {K:Tr->St->Prop},Gv P l st tr K->∃t s,Gv P l st tr (fun t' s'=>t'=t/\s'=s)/\K t s
 | [],st,tr,K,hr=>⟨tr,st,⟨rfl,rfl⟩,hr⟩
 | v::os,st,tr,K,hr=>by
  obtain⟨hg,hr⟩:=hr
  cases hc:Fb v.op with
  | true =>
   rw[hc,if_pos rfl] at hr
   obtain⟨e,h1,h2⟩:=hr
   obtain⟨t,s,h3,h4⟩:=Aab os _ _ h2
   exact⟨t,s,⟨hg,by rw[hc,if_pos rfl];exact⟨e,h1,h3⟩⟩,h4⟩
  | false =>
   rw[hc,if_neg (by simp)] at hr
   obtain⟨t,s,h3,h4⟩:=Aab os _ _ hr.2
   exact⟨t,s,⟨hg,by rw[hc,if_neg (by simp)];exact⟨hr.1,h3⟩⟩,h4⟩
def VX (P:Program) (n m:Nat) (c:Code) (st:St) (K:Exit->St->Prop):Prop:=∃e s,VW P n m c st (fun e' s'=>e'=e/\s'=s)/\K e s
def Aoa (m:Nat) (s:St) (C:St->Prop):Prop:=∃sel s',Ah7 s sel s'/\(∀id,id<m->sel[id]? = some id)/\C s'
variable {c:Code} {x y:Code} {id:Nat} {l:List Oper}
section
variable {n m:Nat} {st:St} {K K':Exit->St->Prop}
theorem VX.mono (h:VX P n m c st K) (hk:∀e s,K e s->K' e s):VX P n m c st K':=by
 obtain⟨e,s,h1,h2⟩:=h
 exact⟨e,s,h1,hk e s h2⟩
theorem VX.seq (h:VX P n m x st (Exit.vthen (fun s=>VX P n m y s K) K)):VX P n m (.seq x y) st K:=by
 obtain⟨e,s,h1,h2⟩:=h
 cases e with
 | normal =>
  obtain⟨e2,s2,h3,h4⟩:=h2
  refine⟨e2,s2,.seq (h1.mono ?_),h4⟩
  rintro e' s' ⟨rfl,rfl⟩
  exact h3
 | _ =>
  refine⟨_,s,.seq (h1.mono ?_),h2⟩
  rintro e' s' ⟨rfl,rfl⟩
  exact⟨rfl,rfl⟩
abbrev B9:=@VX.seq
theorem VX.skip (h:K .normal st):VX P n m .skip st K:=⟨_,_,.skip ⟨rfl,rfl⟩,h⟩
abbrev Bp:=@VX.skip
theorem VX.label {l:Nat} (h:K .normal st):VX P n m (.label l) st K:=⟨_,_,.label ⟨rfl,rfl⟩,h⟩
theorem VX.exit (h:K (.exit id) st):VX P n m (.exit id) st K:=⟨_,_,.exit ⟨rfl,rfl⟩,h⟩
abbrev Bt:=@VX.exit
theorem VX.goto {l:Nat} (h:K (.goto l) st):VX P n m (.goto l) st K:=⟨_,_,.goto ⟨rfl,rfl⟩,h⟩
theorem VX.ret (h:K .ret st):VX P n m .ret st K:=⟨_,_,.ret ⟨rfl,rfl⟩,h⟩
abbrev Bz:=@VX.ret
theorem VX.cond {c:Operand} (hb:Ih (st.raw c).sv=true) (hs:(st.raw c).sb=true) (ht:Fh (st.raw c).sv=true->VX P n m x st K) (hf:Fh (st.raw c).sv=false->VX P n m y st K):VX P n m (.cond c x y) st K:=by
 cases hv:Fh (st.raw c).sv with
 | true =>
  obtain⟨e,s,h1,h2⟩:=ht hv
  exact⟨e,s,.cond hb hs (fun _=>h1) (fun h=>by rw[hv] at h;cases h),h2⟩
 | false =>
  obtain⟨e,s,h1,h2⟩:=hf hv
  exact⟨e,s,.cond hb hs (fun h=>by rw[hv] at h;cases h) (fun _=>h1),h2⟩
theorem VX.block (h:VX P n m c st (Exit.vblock id K)):VX P n m (.block id c) st K:=by
 obtain⟨e,s,h1,h2⟩:=h
 cases e with
 | exit id' =>
  unfold Exit.vblock at h2
  simp only at h2
  split at h2
  ·rename_i e
   refine⟨.normal,s,.block (h1.mono ?_),h2⟩
   rintro e' s' ⟨rfl,rfl⟩
   unfold Exit.vblock
   simp only
   rw[if_pos e]
   exact⟨trivial,trivial⟩
  rename_i e
  refine⟨.exit id',s,.block (h1.mono ?_),h2⟩
  rintro e' s' ⟨rfl,rfl⟩
  unfold Exit.vblock
  simp only
  rw[if_neg e]
  exact⟨trivial,trivial⟩
 | _ =>
  refine⟨_,s,.block (h1.mono ?_),h2⟩
  rintro e' s' ⟨rfl,rfl⟩
  exact⟨rfl,rfl⟩
abbrev Db:=@VX.block
theorem VX.weak {sel:List Nat} {st':St} (h:Ah7 st sel st') (hm:∀id,id<m->sel[id]? = some id) (hv:VX P n m c st' K):VX P n m c st K:=by
 obtain⟨e,s,h1,h2⟩:=hv
 exact⟨e,s,.weak h hm h1,h2⟩
theorem VX.wk {C:St->Prop} (h:Aoa m st C) (hv:∀s,C s->VX P n m c s K):VX P n m c st K:=by
 obtain⟨sel,s,h1,h2,h3⟩:=h
 exact .weak h1 h2 (hv s h3)
theorem VX.cut (C:St->Prop) (h:VX P n m x st (Exit.vthen (fun s=>Aoa m s C) K)) (hy:∀s,C s->VX P n m y s K):VX P n m (.seq x y) st K :=
 .seq (h.mono fun e s=>by
  cases e with
  | normal=>exact fun h=>.wk h hy
  | _=>exact fun h=>h)
abbrev Do:=@VX.cut
theorem VX.loop (I:Nat->St->Prop) (z:Nat) (h0:I z st) (round:∀z s,I z s->VX P n m c s (Exit.vthen (fun s'=>∃z',z'<z/\I z' s') K)):VX P n m (.loop c) st K:=by
 have key:∀(z:Nat) (st:St),I z st->∃e s Z,∃J:Nat->St->Prop,K e s/\J Z st/\∀z' s',J z' s'->z'<=Z/\VW P n m c s' (Exit.vthen (fun s''=>∃z'',z''<z'/\J z'' s'') fun e' s'=>e'=e/\s'=s):=by
  intro z
  induction z using Nat.strongRecOn with
  | _ z ih =>
   intro st hst
   obtain⟨e1,s1,h1,h2⟩:=round z st hst
   have other:K e1 s1->e1≠.normal->∃e s Z,∃J:Nat->St->Prop,K e s/\J Z st/\∀z' s',J z' s'->z'<=Z/\VW P n m c s' (Exit.vthen (fun s''=>∃z'',z''<z'/\J z'' s'') fun e' s'=>e'=e/\s'=s):=fun hK hne=>by
    refine⟨e1,s1,0,fun z' s'=>z'=0/\s'=st,hK,⟨rfl,rfl⟩,?_⟩
    rintro z' s' ⟨rfl,rfl⟩
    refine⟨Aj _,h1.mono ?_⟩
    rintro e' s' ⟨rfl,rfl⟩
    cases e' with
    | normal=>exact absurd rfl hne
    | _=>exact⟨rfl,rfl⟩
   cases e1 with
   | normal =>
    obtain⟨z1,hlt,h3⟩:=h2
    obtain⟨e,s,Z,J,g1,g2,g3⟩:=ih z1 hlt s1 h3
    refine⟨e,s,Z+1,fun z' s'=>J z' s'\/(z'=Z+1/\s'=st),g1,.inr ⟨rfl,rfl⟩,?_⟩
    rintro z' s' (h | ⟨rfl,rfl⟩)
    ·obtain⟨q1,q2⟩:=g3 z' s' h
     refine⟨by omega,q2.mono fun e' s'=>?_⟩
     cases e' with
     | normal=>exact fun⟨z'',a,b⟩=>⟨z'',a,.inl b⟩
     | _=>exact fun h=>h
    refine⟨Aj _,h1.mono ?_⟩
    rintro e' s' ⟨rfl,rfl⟩
    exact⟨Z,Nat.lt_succ_self _,.inl g2⟩
   | _=>exact other h2 (by simp)
 obtain⟨e,s,Z,J,h1,h2,h3⟩:=key z st h0
 exact⟨e,s,.loop J Z h2 fun z' s' h=>(h3 z' s' h).2,h1⟩
theorem VX.loop_w (I:Nat->St->Prop) (h0:∃z,Aoa m st (I z)) (round:∀z s,I z s->VX P n m c s (Exit.vthen (fun s'=>∃z',z'<z/\Aoa m s' (I z')) K)):VX P n m (.loop c) st K:=by
 obtain⟨z,h0⟩:=h0
 exact .loop (fun z s=>Aoa m s (I z)) z h0 fun z s h=>.wk h fun s' hs'=>round z s' hs'
theorem VX.region_seq {y:Code} (hd:Fs n l=true) (h:∀K1:St->Prop,(∀s,VX P n m y s K->K1 s)->runs P (Gf l) st K1):VX P n m (.seq (.region id l.toArray false) y) st K:=by
 obtain⟨s,h1,e,s2,h2,h3⟩:=Qi _ _ (h _ fun _ h=>h)
 refine⟨e,s2,.region_seq hd fun K1 hK1=>Lb _ _ ?_ h1,h3⟩
 rintro s' rfl
 exact hK1 _ h2
abbrev B4:=@VX.region_seq
theorem VX.region (hd:Fs n l=true) (h:∀K1:St->Prop,(∀s,K .normal s->K1 s)->runs P (Gf l) st K1):VX P n m (.region id l.toArray false) st K:=by
 obtain⟨s,h1,h2⟩:=Qi _ _ (h _ fun _ h=>h)
 refine⟨.normal,s,.region hd (Lb _ _ ?_ h1),h2⟩
 rintro s' rfl
 exact⟨rfl,rfl⟩
theorem VX.draw1 (hm:P.follows .mixedOrders=true) (hd:Fs n l=true) (hs:Jk l=true) (h:∀K1:Tr->St->Prop,(∀tr s,Rt l tr=true->K .normal s->K1 tr s)->Gv P (Gf l) st [] K1):VX P n m (.region id l.toArray true) st K:=by
 obtain⟨tr,s,h1,hi,h2⟩:=Aab _ _ _ (h (fun tr s=>Rt l tr=true/\K .normal s) fun _ _ h1 h2=>⟨h1,h2⟩)
 refine⟨.normal,s,.draw1 hm hd hs fun K1 hK1=>Uv _ _ _ ?_ h1,h2⟩
 rintro t' s' ⟨rfl,rfl⟩
 exact hK1 _ _ hi ⟨rfl,rfl⟩
theorem VX.draw_seq {y:Code} (hm:P.follows .mixedOrders=true) (hd:Fs n l=true) (hs:Jk l=true) (h:∀K1:Tr->St->Prop,(∀tr s,Rt l tr=true->VX P n m y s K->K1 tr s)->Gv P (Gf l) st [] K1):VX P n m (.seq (.region id l.toArray true) y) st K:=by
 obtain⟨tr,s,h1,hi,e,s2,h2,h3⟩:=Aab _ _ _ (h (fun tr s=>Rt l tr=true/\VX P n m y s K) fun _ _ h1 h2=>⟨h1,h2⟩)
 refine⟨e,s2,.draw_seq hm hd hs fun K1 hK1=>Uv _ _ _ ?_ h1,h3⟩
 rintro t' s' ⟨rfl,rfl⟩
 exact hK1 _ _ hi h2
abbrev Dc:=@VX.draw_seq
end
mutual
def AV.melt (o:Nat->Ob):AV->AV
 | .own id n=>match o id with | .row _ k fr true es=>if n=es.length then .imm fr k es else .own id n | _=>.own id n
 | .agg cs=>.agg (Sd o cs)
 | .tup cs=>.tup (Sd o cs)
 | .fn f cs=>.fn f (Sd o cs)
 | .any=>.any
 | .lit v=>.lit v
 | .nil k=>.nil k
 | .imm fr k es=>.imm fr k es
 | .sub id n lo m=>match o id with | .row _ k fr true es=>if n=es.length then .imm fr k ((es.drop lo).take m) else .sub id n lo m | _=>.sub id n lo m
 | .ptr id off=>.ptr id off
 | .rptr id n i off=>.rptr id n i off
 | .bsl id n=>.bsl id n
 | .iptr fr cs off=>.iptr fr cs off
 | .gd t v=>.gd t (v.melt o)
def Sd (o:Nat->Ob):List AV->List AV
 | []=>[]
 | c::cs=>c.melt o::Sd o cs
end
theorem Qq (o:Nat->Ob):∀(cs:List AV) (i:Nat),(Sd o cs)[i]? = (cs[i]?).map (AV.melt o)
 | [],i=>by simp[Sd]
 | c::cs,0=>by simp[Sd]
 | c::cs,i+1=>by simp[Sd,Qq o cs i]
theorem Nq (o:Nat->Ob):∀(cs:List AV),(Sd o cs).length=cs.length
 | []=>rfl
 | c::cs=>by simp[Sd,Nq o cs]
variable {β:Nat->Option Nat} {w:World}
theorem Ea.melt {E:Gp} {st:St} {a:Act} (r:Es E β st a w) {c:AV} {u:Value} (h:Ea (E.C β st w) c u):Ea (E.C β st w) (c.melt st.o) u:=by
 induction h with
 | own id n u h =>
  unfold AV.melt
  split
  ·rename_i ty k fr es ho
   split
   ·rename_i hn
    exact .imm _ _ _ _ (r.frozen ho h hn)
   exact .own _ _ _ h
  exact .own _ _ _ h
 | any u=>exact .any u
 | lit v=>exact .lit v
 | nil k A=>exact .nil k A
 | imm fr k es u h=>exact .imm fr k es u h
 | sub id n lo m u h =>
  unfold AV.melt
  split
  ·rename_i ty k fr es ho
   split
   ·rename_i hn
    exact .imm _ _ _ _ (r.frozenS ho h hn)
   exact .sub _ _ _ _ _ h
  exact .sub _ _ _ _ _ h
 | ptr id off u h=>exact .ptr _ _ _ h
 | rptr id n i off u h=>exact .rptr _ _ _ _ _ h
 | bsl id n u h=>exact .bsl _ _ _ h
 | iptr fr cs off b o cur ty fz us h1 h2 h3=>exact .iptr fr cs off b o cur ty fz us h1 h2 h3
 | agg cs us h1 h2 ih =>
  refine .agg _ _ (by rw[Nq];exact h1) fun i c u hc' hu=>?_
  rw[Qq] at hc'
  cases hx:cs[i]? with
  | none=>rw[hx] at hc';cases hc'
  | some x =>
   rw[hx] at hc'
   simp only[Ai,Option.some.injEq] at hc'
   subst hc'
   exact ih i x u hx hu
 | tup cs us h1 h2 ih =>
  refine .tup _ _ (by rw[Nq];exact h1) fun i c u hc' hu=>?_
  rw[Qq] at hc'
  cases hx:cs[i]? with
  | none=>rw[hx] at hc';cases hc'
  | some x =>
   rw[hx] at hc'
   simp only[Ai,Option.some.injEq] at hc'
   subst hc'
   exact ih i x u hx hu
 | fn f cs us h1 h2 ih =>
  refine .fn f _ _ (by rw[Nq];exact h1) fun i c u hc' hu=>?_
  rw[Qq] at hc'
  cases hx:cs[i]? with
  | none=>rw[hx] at hc';cases hc'
  | some x =>
   rw[hx] at hc'
   simp only[Ai,Option.some.injEq] at hc'
   subst hc'
   exact ih i x u hx hu
 | gd t v u h1 h2 ih=>exact .gd t _ u ih h2
def Ob.melt (o:Nat->Ob):Ob->Ob
 | .box ty cs=>.box ty (Sd o cs)
 | x=>x
def Ac1 (o:Nat->Ob):List (Nat×AV)->List (Nat×AV)
 | []=>[]
 | p::l=>(p.1,p.2.melt o)::Ac1 o l
theorem Af7 (o:Nat->Ob):∀(l:List (Nat×AV)) (t:Nat),E5 (Ac1 o l) t=(E5 l t).melt o
 | [],t=>rfl
 | p::l,t=>by
  simp only[Ac1,E5]
  cases p.1 == t
  ·exact Af7 o l t
  rfl
def Ac2 (o:Nat->Ob):List Ob->List Ob
 | []=>[]
 | x::l=>x.melt o::Ac2 o l
theorem Aiy (o:Nat->Ob):∀(l:List Ob) (i:Nat),(Ac2 o l).getD i .gone=(l.getD i .gone).melt o
 | [],i=>by simp[Ac2,Ob.melt]
 | x::l,0=>by simp[Ac2]
 | x::l,i+1=>by have:=Aiy o l i;simp[Ac2] at this ⊢;exact this
def St.melt (st:St):St:=⟨Ac1 st.o st.sl,Ac2 st.o st.ob⟩
theorem Es.melt {E:Gp} {st:St} {a:Act} (r:Es E β st a w):Es E β st.melt a w:=by
 have ho:∀i,st.melt.o i=(st.o i).melt st.o:=fun i=>Aiy _ _ _
 have hg:∀i,st.melt.o i≠.gone->st.o i≠.gone:=fun i h e=>h (by rw[ho,e];rfl)
 have s:N4 (E.C β st w) (E.C β st.melt w):=by
  refine⟨rfl,fun _ h=>h,fun _ h=>h,fun _ h=>h,Aj _,?_,fun _ _ _=>rfl,?_,?_⟩
  ·rintro b hb ⟨i,h1,h2⟩
   refine⟨i,h1,?_⟩
   have h2:(st.melt.o i).live:=h2
   rw[ho] at h2
   show (st.o i).live
   cases hq:st.o i<;>rw[hq] at h2<;>exact h2
  ·intro i ty cs h
   have h:st.o i=_:=h
   exact⟨⟨_,(ho i).trans (by rw[h];rfl)⟩,rfl⟩
  intro i ty k fr fz es h
  have h:st.o i=_:=h
  exact⟨fr,fz,es,(ho i).trans (by rw[h];rfl),Aj _,fun _=>⟨rfl,fun b cur hb hc=>⟨cur,hc,rfl⟩⟩⟩
 refine⟨r.sz,fun t=>?_,r.df,fun i=>?_,fun i j b hi hj=>r.inj i j b (hg i hi) (hg j hj),fun i b hi=>r.rng i b (hg i hi),r.kp,r.ct.step s,r.kb,r.dk⟩
 ·show Ea _ (E5 (Ac1 st.o st.sl) t) _
  rw[Af7]
  exact ((r.sl t).melt r).step s
 rw[ho]
 cases hq:st.o i with
 | gone=>trivial
 | row ty k fr fz es =>
  have:=r.ob i
  rw[hq] at this
  exact this.step s rfl fun _ _=>rfl
 | box ty cs =>
  have:=r.ob i
  rw[hq] at this
  obtain⟨b,cur,h1,h2,h3,h4⟩:=this
  refine⟨b,cur,h1,h2,by rw[Nq];exact h3,fun j c u hc hu=>?_⟩
  rw[Qq] at hc
  cases hx:cs[j]? with
  | none=>rw[hx] at hc;cases hc
  | some x =>
   rw[hx] at hc
   simp only[Ai,Option.some.injEq] at hc
   subst hc
   exact⟨((h4 j x u hx hu).1.melt r).step s,(h4 j x u hx hu).2⟩
def Aaf:Ob->TypeId
 | .row ty _ _ _ _=>ty
 | _=>0
def Auy:Ob->Bool
 | .row _ _ fr _ _=>fr
 | _=>false
def St.freeze (st:St) (id:Nat):St:=(st.set id (.row (Aaf (st.o id)) (Sw (st.o id)) (Auy (st.o id)) true (Lc (st.o id)))).melt
section
variable {n m:Nat} {st:St} {K:Exit->St->Prop} {c:Code}
theorem VW.freeze (id:Nat) (h:F7 (st.o id)=true) (hv:VW P n m c (st.freeze id) K):VW P n m c st K:=fun E F hE hF β a w r=>by
 refine hv E F hE hF β a w ?_
 unfold St.freeze
 cases hq:st.o id with
 | row ty k fr fz es=>exact (r.freeze hq).1.melt
 | _=>rw[hq] at h;exact absurd h (by simp[F7])
abbrev Cg:=@VW.freeze
theorem VX.freeze (id:Nat) (h:F7 (st.o id)=true) (hv:VX P n m c (st.freeze id) K):VX P n m c st K:=by
 obtain⟨e,s,h1,h2⟩:=hv
 exact⟨e,s,.freeze id h h1,h2⟩
theorem VW.own0 (t:Nat) (ty k:Nat) (hk:0<k) {k':Nat} (ht:E5 st.sl t=.nil k') (hv:VW P n m c ((st.put (some t) (.own st.ob.length 0)).set st.ob.length (.row ty k true false [])) K):VW P n m c st K:=fun E F hE hF β a w r=>by
 obtain⟨r1,h1⟩:=r.empty (Hg st st.ob.length (Aj _)) ty hk true
 refine hv E F hE hF (fun i=>if i=st.ob.length then none else β i) a w ?_
 rw[St.put_set]
 have hr:=r.sl t
 rw[ht] at hr
 refine⟨r1.sz,fun x=>?_,r1.df,?_,?_,?_,r1.kp,?_,r1.kb,r1.dk⟩
 ·rw[Adc]
  show Ea _ (bif t == x then _ else E5 _ x) _
  cases hb:t == x with
  | true =>
   have:t=x:=by simpa using hb
   subst this
   generalize a.tmps.getD t undef=u at hr
   cases hr with
   | nil k A=>exact h1 A
  | false=>exact r1.sl x
 ·rw[Adc,St.put_o];exact r1.ob
 ·rw[St.put_o];exact r1.inj
 ·rw[St.put_o];exact r1.rng
 rw[Adc];exact r1.ct
abbrev Cn:=@VW.own0
theorem VX.own0 (t:Nat) (ty k:Nat) (hk:0<k) {k':Nat} (ht:E5 st.sl t=.nil k') (hv:VX P n m c ((st.put (some t) (.own st.ob.length 0)).set st.ob.length (.row ty k true false [])) K):VX P n m c st K:=by
 obtain⟨e,s,h1,h2⟩:=hv
 exact⟨e,s,.own0 t ty k hk ht h1,h2⟩
abbrev Cf:=@VX.own0
end
end
abbrev TyS (t:Nat) (k:Nat) (e:Nat):Prop:=tok Tryz.prog t=true/\Tl Tryz.prog t=false/\Gg Tryz.prog t=1/\zok Tryz.prog t=true/\Hk Tryz.prog t=[.nil k]/\Jp Tryz.prog t=24/\Hv Tryz.prog t=true/\Eb Tryz.prog t=e/\(Tryz.prog.underlying t).isSome=true
theorem Jn {t:Nat} {k:Nat} {e:Nat} (h0:tok Tryz.prog t=true:=by kernel_rfl) (h1:Tl Tryz.prog t=false:=by kernel_rfl) (h2:Gg Tryz.prog t=1:=by kernel_rfl) (h3:zok Tryz.prog t=true:=by kernel_rfl) (h4:Hk Tryz.prog t=[.nil k]:=by kernel_rfl) (h5:Jp Tryz.prog t=24:=by kernel_rfl) (h6:Hv Tryz.prog t=true:=by kernel_rfl) (h7:Eb Tryz.prog t=e:=by kernel_rfl) (h8:(Tryz.prog.underlying t).isSome=true:=by kernel_rfl):TyS t k e:=⟨h0,h1,h2,h3,h4,h5,h6,h7,h8⟩
abbrev X6 (t:Nat) (n:Nat) (z:List AV) (b:Nat) (p:List (Nat×Nat)):Prop:=tok Tryz.prog t=true/\Tl Tryz.prog t=true/\Gg Tryz.prog t=n/\zok Tryz.prog t=true/\Hk Tryz.prog t=z/\Jp Tryz.prog t=b/\R2 Tryz.prog t=true/\tpl Tryz.prog t=p/\(Tryz.prog.underlying t).isSome=true
theorem Iy {t:Nat} {n:Nat} {z:List AV} {b:Nat} {p:List (Nat×Nat)} (h0:tok Tryz.prog t=true:=by kernel_rfl) (h1:Tl Tryz.prog t=true:=by kernel_rfl) (h2:Gg Tryz.prog t=n:=by kernel_rfl) (h3:zok Tryz.prog t=true:=by kernel_rfl) (h4:Hk Tryz.prog t=z:=by kernel_rfl) (h5:Jp Tryz.prog t=b:=by kernel_rfl) (h6:R2 Tryz.prog t=true:=by kernel_rfl) (h7:tpl Tryz.prog t=p:=by kernel_rfl) (h8:(Tryz.prog.underlying t).isSome=true:=by kernel_rfl):X6 t n z b p:=⟨h0,h1,h2,h3,h4,h5,h6,h7,h8⟩
theorem ty3:tok Tryz.prog 3=true/\Tl Tryz.prog 3=false/\Gg Tryz.prog 3=1/\zok Tryz.prog 3=true/\Hk Tryz.prog 3=[.lit (.int .i64 0)]/\Jp Tryz.prog 3=8/\Abq Tryz.prog 3=some .i64/\(Tryz.prog.underlying 3).isSome=true:=⟨by kernel_rfl,by kernel_rfl,by kernel_rfl,by kernel_rfl,by kernel_rfl,by kernel_rfl,by kernel_rfl,by kernel_rfl⟩
theorem ty4:tok Tryz.prog 4=true/\Tl Tryz.prog 4=false/\Gg Tryz.prog 4=1/\zok Tryz.prog 4=true/\Hk Tryz.prog 4=[.lit (.bool false)]/\Jp Tryz.prog 4=1/\Aub Tryz.prog 4=true/\(Tryz.prog.underlying 4).isSome=true:=⟨by kernel_rfl,by kernel_rfl,by kernel_rfl,by kernel_rfl,by kernel_rfl,by kernel_rfl,by kernel_rfl,by kernel_rfl⟩
theorem ty5:tok Tryz.prog 5=true/\Tl Tryz.prog 5=false/\Gg Tryz.prog 5=1/\zok Tryz.prog 5=true/\Hk Tryz.prog 5=[.lit (.int .u8 0)]/\Jp Tryz.prog 5=1/\Abq Tryz.prog 5=some .u8/\(Tryz.prog.underlying 5).isSome=true:=⟨by kernel_rfl,by kernel_rfl,by kernel_rfl,by kernel_rfl,by kernel_rfl,by kernel_rfl,by kernel_rfl,by kernel_rfl⟩
theorem ty9:tok Tryz.prog 9=true/\Tl Tryz.prog 9=false/\Gg Tryz.prog 9=1/\zok Tryz.prog 9=true/\Hk Tryz.prog 9=[.lit (.string ⟨#[]⟩)]/\Jp Tryz.prog 9=16/\Xo Tryz.prog 9=true/\(Tryz.prog.underlying 9).isSome=true:=⟨by kernel_rfl,by kernel_rfl,by kernel_rfl,by kernel_rfl,by kernel_rfl,by kernel_rfl,by kernel_rfl,by kernel_rfl⟩
theorem A31:TyS 22 1 3:=Jn
theorem A30:TyS 27 3 88:=Jn
theorem A3z:TyS 28 8 60:=Jn
theorem A3y:X6 30 6 [.nil 3,.nil 8,.lit (.int .i64 0),.lit (.int .i64 0),.lit (.int .i64 0),.lit (.int .i64 0)] 80 [(0,1),(1,1),(2,1),(3,1),(4,1),(5,1)]:=Iy
theorem A3x:TyS 32 17 70:=Jn
theorem A3w:TyS 33 5 135:=Jn
theorem A3v:TyS 34 3 138:=Jn
theorem A3u:TyS 35 4 128:=Jn
theorem A3t:X6 37 13 [.nil 3,.nil 8,.lit (.int .i64 0),.lit (.int .i64 0),.lit (.int .i64 0),.lit (.int .i64 0),.lit (.bool false),.lit (.int .i64 0),.nil 17,.nil 5,.nil 3,.nil 1,.nil 4] 216 [(0,6),(6,1),(7,1),(8,1),(9,1),(10,1),(11,1),(12,1)]:=Iy
theorem A3s:TyS 38 4 100:=Jn
theorem A3r:X6 40 14 [.nil 3,.nil 8,.lit (.int .i64 0),.lit (.int .i64 0),.lit (.int .i64 0),.lit (.int .i64 0),.lit (.bool false),.lit (.int .i64 0),.nil 17,.nil 5,.nil 3,.nil 1,.nil 4,.nil 4] 240 [(0,13),(13,1)]:=Iy
theorem A3q:TyS 42 5 46:=Jn
theorem A3p:TyS 44 1 5:=Jn
theorem A3o:X6 46 5 [.lit (.int .i64 0),.lit (.int .i64 0),.lit (.int .i64 0),.lit (.int .i64 0),.nil 1] 56 [(0,1),(1,1),(2,1),(3,1),(4,1)]:=Iy
theorem A3n:TyS 47 1 44:=Jn
theorem A3m:X6 49 2 [.nil 1,.nil 1] 48 [(0,1),(1,1)]:=Iy
theorem A3l:X6 56 4 [.lit (.int .i64 0),.nil 1,.nil 1,.nil 1] 80 [(0,1),(1,1),(2,1),(3,1)]:=Iy
theorem A3k:X6 60 8 [.nil 1,.lit (.int .i64 0),.lit (.int .i64 0),.nil 1,.lit (.int .i64 0),.lit (.int .i64 0),.lit (.int .i64 0),.lit (.int .i64 0)] 96 [(0,1),(1,1),(2,1),(3,1),(4,1),(5,1),(6,1),(7,1)]:=Iy
theorem A3j:TyS 61 6 73:=Jn
theorem A3i:TyS 62 2 216:=Jn
theorem A3h:X6 64 3 [.lit (.int .i64 0),.lit (.int .i64 0),.lit (.int .i64 0)] 24 [(0,1),(1,1),(2,1)]:=Iy
theorem A3g:X6 66 14 [.lit (.int .i64 0),.nil 1,.lit (.int .i64 0),.lit (.int .i64 0),.nil 1,.lit (.int .i64 0),.lit (.int .i64 0),.lit (.int .i64 0),.lit (.int .i64 0),.nil 6,.nil 2,.lit (.int .i64 0),.lit (.int .i64 0),.lit (.int .i64 0)] 176 [(0,1),(1,8),(9,1),(10,1),(11,3)]:=Iy
theorem A3f:TyS 67 5 164:=Jn
theorem A3e:TyS 68 1 4:=Jn
theorem A3d:X6 70 17 [.lit (.int .i64 0),.nil 1,.lit (.int .i64 0),.lit (.int .i64 0),.nil 1,.lit (.int .i64 0),.lit (.int .i64 0),.lit (.int .i64 0),.lit (.int .i64 0),.nil 6,.nil 2,.lit (.int .i64 0),.lit (.int .i64 0),.lit (.int .i64 0),.nil 5,.nil 1,.nil 1] 248 [(0,14),(14,1),(15,1),(16,1)]:=Iy
theorem A3c:X6 73 6 [.lit (.bool false),.nil 1,.lit (.int .i64 0),.lit (.int .i64 0),.lit (.int .i64 0),.lit (.int .i64 0)] 64 [(0,1),(1,1),(2,1),(3,1),(4,1),(5,1)]:=Iy
theorem A3b:TyS 77 2 49:=Jn
theorem A3a:TyS 80 4 56:=Jn
theorem A29:X6 84 2 [.nil 1,.lit (.int .i64 0)] 32 [(0,1),(1,1)]:=Iy
theorem A28:TyS 86 8 124:=Jn
theorem A27:X6 88 3 [.nil 8,.nil 1,.lit (.int .i64 0)] 56 [(0,1),(1,1),(2,1)]:=Iy
theorem A26:X6 98 2 [.nil 1,.lit (.bool false)] 32 [(0,1),(1,1)]:=Iy
theorem A1s:X6 100 4 [.lit (.bool false),.lit (.bool false),.nil 1,.lit (.bool false)] 40 [(0,1),(1,1),(2,2)]:=Iy
theorem A1r:tok Tryz.prog 108=true/\Tl Tryz.prog 108=false/\Gg Tryz.prog 108=1/\zok Tryz.prog 108=true/\Hk Tryz.prog 108=[.lit (.int .i64 0)]/\Jp Tryz.prog 108=8/\Abq Tryz.prog 108=some .i64/\(Tryz.prog.underlying 108).isSome=true:=⟨by kernel_rfl,by kernel_rfl,by kernel_rfl,by kernel_rfl,by kernel_rfl,by kernel_rfl,by kernel_rfl,by kernel_rfl⟩
theorem A1q:TyS 113 3 116:=Jn
theorem A1p:X6 116 3 [.lit (.int .i64 0),.lit (.int .i64 0),.nil 1] 40 [(0,1),(1,1),(2,1)]:=Iy
theorem A1o:TyS 120 2 122:=Jn
theorem A1n:tok Tryz.prog 122=true/\Tl Tryz.prog 122=true/\Gg Tryz.prog 122=2/\zok Tryz.prog 122=true/\Hk Tryz.prog 122=[.lit (.int .i64 0),.lit (.int .i64 0)]/\Jp Tryz.prog 122=16/\R2 Tryz.prog 122=false/\Eb Tryz.prog 122=3/\Ao5 Tryz.prog 122=some 2/\tpl Tryz.prog 122=[(0,1),(1,1)]/\(Tryz.prog.underlying 122).isSome=true:=⟨by kernel_rfl,by kernel_rfl,by kernel_rfl,by kernel_rfl,by kernel_rfl,by kernel_rfl,by kernel_rfl,by kernel_rfl,by kernel_rfl,by kernel_rfl,by kernel_rfl⟩
theorem A1m:X6 124 8 [.lit (.int .i64 0),.lit (.int .i64 0),.lit (.int .i64 0),.lit (.int .i64 0),.lit (.int .i64 0),.lit (.int .i64 0),.lit (.int .i64 0),.lit (.int .i64 0)] 64 [(0,1),(1,1),(2,1),(3,1),(4,1),(5,1),(6,1),(7,1)]:=Iy
theorem A1l:tok Tryz.prog 125=true/\Tl Tryz.prog 125=false/\Gg Tryz.prog 125=1/\zok Tryz.prog 125=true/\Hk Tryz.prog 125=[.lit (.int .u64 0)]/\Jp Tryz.prog 125=8/\Abq Tryz.prog 125=some .u64/\(Tryz.prog.underlying 125).isSome=true:=⟨by kernel_rfl,by kernel_rfl,by kernel_rfl,by kernel_rfl,by kernel_rfl,by kernel_rfl,by kernel_rfl,by kernel_rfl⟩
theorem A1k:X6 128 4 [.lit (.bool false),.lit (.bool false),.nil 1,.nil 1] 56 [(0,1),(1,1),(2,1),(3,1)]:=Iy
theorem A1j:TyS 131 2 185:=Jn
theorem A1i:X6 133 4 [.nil 2,.lit (.int .i64 0),.nil 1,.lit (.int .i64 0)] 64 [(0,1),(1,1),(2,1),(3,1)]:=Iy
theorem A1h:X6 135 5 [.nil 2,.lit (.int .i64 0),.nil 1,.lit (.int .i64 0),.lit (.bool false)] 72 [(0,4),(4,1)]:=Iy
theorem A1g:X6 138 3 [.lit (.int .i64 0),.lit (.int .i64 0),.nil 1] 40 [(0,1),(1,1),(2,1)]:=Iy
theorem A1f:tok Tryz.prog 141=true/\Tl Tryz.prog 141=false/\Gg Tryz.prog 141=1/\zok Tryz.prog 141=true/\Hk Tryz.prog 141=[.lit (.int .u64 0)]/\Jp Tryz.prog 141=8/\Abq Tryz.prog 141=some .u64/\(Tryz.prog.underlying 141).isSome=true:=⟨by kernel_rfl,by kernel_rfl,by kernel_rfl,by kernel_rfl,by kernel_rfl,by kernel_rfl,by kernel_rfl,by kernel_rfl⟩
theorem A1e:TyS 147 2 149:=Jn
theorem A1d:X6 149 2 [.lit (.bool false),.nil 3] 32 [(0,1),(1,1)]:=Iy
theorem A1c:TyS 152 1 80:=Jn
theorem A1b:X6 154 2 [.nil 1,.nil 4] 48 [(0,1),(1,1)]:=Iy
theorem A1a:TyS 162 5 166:=Jn
theorem A09:X6 164 5 [.lit (.int .i64 0),.lit (.int .i64 0),.lit (.int .i64 0),.lit (.int .i64 0),.nil 5] 56 [(0,1),(1,1),(2,1),(3,1),(4,1)]:=Iy
theorem A08:X6 166 5 [.lit (.int .i64 0),.lit (.int .i64 0),.lit (.int .i64 0),.lit (.int .i64 0),.lit (.int .i64 0)] 40 [(0,1),(1,1),(2,1),(3,1),(4,1)]:=Iy
theorem A06:X6 171 6 [.lit (.int .i64 0),.lit (.int .i64 0),.lit (.int .i64 0),.lit (.int .i64 0),.lit (.int .i64 0),.lit (.int .i64 0)] 48 [(0,1),(1,1),(2,1),(3,1),(4,1),(5,1)]:=Iy
theorem A05:X6 177 5 [.lit (.int .i64 0),.lit (.int .i64 0),.lit (.int .i64 0),.lit (.int .i64 0),.lit (.int .i64 0)] 40 [(0,1),(1,1),(2,1),(3,1),(4,1)]:=Iy
theorem A04:X6 185 2 [.lit (.int .i64 0),.lit (.int .i64 0)] 16 [(0,1),(1,1)]:=Iy
theorem A03:TyS 197 1 152:=Jn
theorem A02:TyS 198 3 248:=Jn
theorem A01:X6 209 3 [.lit (.int .i64 0),.lit (.int .i64 0),.lit (.int .i64 0)] 24 [(0,1),(1,1),(2,1)]:=Iy
theorem A00:tok Tryz.prog 213=true/\Tl Tryz.prog 213=false/\Gg Tryz.prog 213=1/\zok Tryz.prog 213=true/\Hk Tryz.prog 213=[.lit (.int .u32 0)]/\Jp Tryz.prog 213=4/\Abq Tryz.prog 213=some .u32/\(Tryz.prog.underlying 213).isSome=true:=⟨by kernel_rfl,by kernel_rfl,by kernel_rfl,by kernel_rfl,by kernel_rfl,by kernel_rfl,by kernel_rfl,by kernel_rfl⟩
theorem A0z:X6 216 2 [.lit (.int .i64 0),.lit (.int .i64 0)] 16 [(0,1),(1,1)]:=Iy
theorem A0y:TyS 242 5 287:=Jn
theorem A0x:X6 248 3 [.lit (.int .i64 0),.lit (.int .i64 0),.lit (.int .i64 0)] 24 [(0,1),(1,1),(2,1)]:=Iy
theorem A0w:X6 287 5 [.lit (.int .i64 0),.lit (.int .i64 0),.lit (.int .i64 0),.lit (.int .i64 0),.lit (.int .i64 0)] 40 [(0,1),(1,1),(2,1),(3,1),(4,1)]:=Iy
theorem A0u:TyS 371 1 62:=Jn
attribute [go_sem] ty3 ty4 ty5 ty9 A31 A30 A3z A3y A3x A3w A3v A3u A3t A3s A3r A3q A3p A3o A3n A3m A3l A3k A3j A3i A3h A3g A3f A3e A3d A3c A3b A3a A29 A28 A27 A26 A1s A1r A1q A1p A1o A1n A1m A1l A1k A1j A1i A1h A1g A1f A1e A1d A1c A1b A1a A09 A08 A06 A05 A04 A03 A02 A01 A00 A0z A0y A0x A0w A0u
attribute [go_sem] Value.oneCell'
section
variable {es:List (List T)}
section
variable {P:Program} {n m:Nat} {st:St} {K:Exit->St->Prop}
theorem Ad4 (d:Nat) {ty el:TypeId} {A:Option Addr} {nn c:Nat} {w:World} (hu:P.underlying ty=some (.slice el)):(Op.equalIn (d+1) ty (.slice A nn c) (.slice none 0 0)).run P w=.ok A.isNone w:=by
 cases A<;>simp[Op.equalIn,run_underlying hu]
theorem VW.isnil {id d1 d2 t0:Nat} {ty:TypeId} {p1 p2:String} {a1 a2:Array Edge} {ty2:TypeId} {y:Code} {fr:Bool} {k:Nat} (ht:E5 st.sl t0=.imm fr k es) (h1:d1<n) (h2:d2<n) (hs:Hv P ty=true) (hn:es=[]->VW P n m y ((st.put (some d1) (.imm fr k es)).put (some d2) (.lit (.bool true))) K) (hy:VW P n m y ((st.put (some d1) (.imm fr k es)).put (some d2) (.lit (.bool false))) K) :
  VW P n m (.seq (.region id #[⟨some d1,.move (.tmp t0),ty,p1,a1,none⟩,⟨some d2,.binOp .eql ty (.tmp d1) (.const (.slice none 0 0)) ty,ty2,p2,a2,none⟩] false) y) st K:=by
 refine .seq fun E F hE hF β a w r=>?_
 refine wpIn_region_lit (l:=[⟨some d1,.move (.tmp t0),ty,p1,a1,none⟩,⟨some d2,.binOp .eql ty (.tmp d1) (.const (.slice none 0 0)) ty,ty2,p2,a2,none⟩]) ?_
 have hr:=r.sl t0
 rw[ht] at hr
 have r1:=r.put hr (some d1) (fun x hx=>by injection hx with hx;subst hx;rw[hE.1];exact h1)
 have hu:=Ft hs
 have hsz:d1<a.tmps.size:=by rw[r.sz,hE.1];exact h1
 have hcase:∃A nn c,a.tmps.getD t0 undef=.slice A nn c/\(A=none->es=[]):=by
  generalize a.tmps.getD t0 undef=u at hr
  cases hr with
  | imm fr k es u h=>cases h with
   | nil k A c=>exact⟨A,0,c,rfl,fun _=>rfl⟩
   | sl k es b off c cur ty fz us=>exact⟨_,_,c,rfl,fun e=>by cases e⟩
 obtain⟨A,nn,c,hu0,hA⟩:=hcase
 refine wpListIn_plain rfl fun K1 hK1=>Q2 hF (by intro c h;cases h) ?_
 have e1:(execOp a.eval ⟨some d1,.move (.tmp t0),ty,p1,a1,none⟩).run P w=.ok (.value (a.tmps.getD t0 undef)) w:=rfl
 unfold Oper.wp
 rw[e1]
 refine hK1 _ _ ?_
 refine wpListIn_plain rfl fun K2 hK2=>Q2 hF (by intro c h;cases h) ?_
 have e2:(execOp (a.put (some d1) (a.tmps.getD t0 undef)).eval ⟨some d2,.binOp .eql ty (.tmp d1) (.const (.slice none 0 0)) ty,ty2,p2,a2,none⟩).run P w=.ok (.value (.bool A.isNone)) w:=by
  have e3:(a.put (some d1) (a.tmps.getD t0 undef)).eval (.tmp d1)=.slice A nn c:=by
   simp only[Act.eval,Act.put]
   rw[<- hu0,Av,Array.getElem?_setIfInBounds_self_of_lt hsz];rfl
  have e6:(a.put (some d1) (a.tmps.getD t0 undef)).eval (.const (.slice none 0 0))=.slice none 0 0:=rfl
  simp only[execOp,e3,e6]
  have e4:(eqGuard .eql ty (.tmp d1) (.const (.slice none 0 0)) (.slice A nn c) (.slice none 0 0)).run P w=.ok () w:=rfl
  have e5:(binOp .eql ty (.slice A nn c) (.slice none 0 0)).run P w=.ok (.bool A.isNone) w:=by
   have:binOp .eql ty (.slice A nn c) (.slice none 0 0)=(do pure (.bool (<- Op.equal ty (.slice A nn c) (.slice none 0 0)))):=rfl
   have e7:(Op.equal ty (.slice A nn c) (.slice none 0 0)).run P w=.ok A.isNone w:=Ad4 9999 hu
   rw[this]
   simp only[Sem.run_bind,e7,Result.andThen_ok,Sem.run_pure]
  simp only[Sem.run_bind,e4,e5,Result.andThen_ok,Sem.run_pure]
 unfold Oper.wp
 rw[e2]
 refine hK2 _ _ ?_
 have r2:=fun b:Bool=>r1.put (v:=.lit (.bool b)) (u:=.bool b) (.lit _) (some d2) (fun x hx=>by injection hx with hx;subst hx;rw[hE.1];exact h2)
 cases hb:A with
 | none=>exact⟨E,_,β,Hs.refl E,hn (hA hb),r2 true⟩
 | some x=>exact⟨E,_,β,Hs.refl E,hy,r2 false⟩
abbrev Co:=@VW.isnil
end
def Ar5:Ob->Bool
 | .row _ _ _ fz _=>fz
 | _=>false
def St.fresh (st:St) (id:Nat):St:=st.set id (.row (Aaf (st.o id)) (Sw (st.o id)) true (Ar5 (st.o id)) (Lc (st.o id)))
section
variable {P:Program} {n m:Nat} {st:St} {K:Exit->St->Prop} {c:Code}
theorem VW.fresh (id:Nat) (h:F7 (st.o id)=true) (hp:(Lc (st.o id)).all (fun e=>e.all T.plain)=true) (hv:VW P n m c (st.fresh id) K):VW P n m c st K:=fun E F hE hF β a w r=>by
 refine hv E F hE hF β a w ?_
 unfold St.fresh
 cases hq:st.o id with
 | row ty k fr fz es =>
  rw[hq] at hp
  exact (r.flag hq (fun _=>.inr hp) fun e=>e).1
 | _=>rw[hq] at h;exact absurd h (by simp[F7])
abbrev Cr:=@VW.fresh
theorem VX.fresh (id:Nat) (h:F7 (st.o id)=true) (hp:(Lc (st.o id)).all (fun e=>e.all T.plain)=true) (hv:VX P n m c (st.fresh id) K):VX P n m c st K:=by
 obtain⟨e,s,h1,h2⟩:=hv
 exact⟨e,s,.fresh id h hp h1,h2⟩
end
variable {id:Nat}
theorem Awu {sl:List (Nat×AV)} {ob:List Ob}:(St.mk sl ob).fresh id=St.mk sl (Pg ob id (.row (Aaf (ob.getD id .gone)) (Sw (ob.getD id .gone)) true (Ar5 (ob.getD id .gone)) (Lc (ob.getD id .gone)))):=rfl
variable {P:Program} {st:St} {rs:List ResultVar}
theorem A35 {res:AV} {o:Ob} (hc:Vz P st rs) (h:Le ((Ky P st rs).ren fun id=>M3 id [0] 0) res) (ho:Va ((st.o 0).ren fun id=>M3 id [0] 0) o):Rm P 0 rs [o] res .ret st :=
 ⟨.inr rfl,hc,[0],⟨.cons h .nil,fun j hj=>by
  have:j=0:=by simpa using hj
  subst this
  exact ho,rfl,by simp⟩,fun id hid=>by omega⟩
variable {n m:Nat} {K:Exit->St->Prop}
theorem VW.z1 {res:AV} {o:Ob} (ho:Va ((st.o 0).ren fun id=>M3 id [0] 0) o) (hk:Rm P 0 rs [o] res .ret st->K .ret st:=by exact id) (hc:Vz P st rs:=by simp[go_sem]) (h:Le ((Ky P st rs).ren fun id=>M3 id [0] 0) res:=by simp[go_sem]):VW P n m .ret st K:=.ret (hk (A35 hc h ho))
abbrev Cq:=@VW.z1
theorem A0e {sl:List (Nat×AV)} {ob:List Ob} {d:Tmp} {v:AV}:(St.mk sl ob).put (some d) v=⟨(d,v)::sl,ob⟩:=rfl
theorem A0d {sl:List (Nat×AV)} {ob:List Ob} {i:Nat} {x:Ob}:(St.mk sl ob).set i x=⟨sl,Pg ob i x⟩:=rfl
theorem Avi {o:Nat->Ob} {id n:Nat}:(AV.own id n).melt o=match o id with | .row _ k fr true es=>if n=es.length then .imm fr k es else .own id n | _=>.own id n:=rfl
section
variable {sl:List (Nat×AV)} {ob:List Ob}
include sl ob
theorem Aym:(St.mk sl ob).melt=⟨Ac1 (fun i=>ob.getD i .gone) sl,Ac2 (fun i=>ob.getD i .gone) ob⟩:=rfl
theorem Atl:(St.mk sl ob).freeze id=(St.mk sl (Pg ob id (.row (Aaf (ob.getD id .gone)) (Sw (ob.getD id .gone)) (Auy (ob.getD id .gone)) true (Lc (ob.getD id .gone))))).melt:=rfl
end
attribute [go_sem] J2 AV.pass Jt AV.passC T4 AV.bor AV.shift Ou Ob.shift Lr AV.cln Ff Ob.cln Ob.ren M3 Awu Ar5 A0e A0d Aym Atl Ac1 Ac2 Ob.melt Avi AV.melt Sd Aaf Auy
variable {f:FuncId} {fo:Operand} {xs:List Operand} {ts:Array TypeId} {want:Bool} {bor:Bool} {rd:List Nat}
section
variable {P:Program} {d:Option Tmp} {ty:TypeId} {os:List VO} {st:St} {K:St->Prop} {KT:Tr->St->Prop} {tr:Tr}
def Awb (v:AV) (F:FuncId->List AV->Prop):Prop:=match v with
 | .fn f caps=>F f caps
 | _=>False
theorem Awa {caps:List AV} {F:FuncId->List AV->Prop}:Awb (.fn f caps) F=F f caps:=rfl
structure T7 (P:Program) (f:FuncId) (args:List AV) (bor:Bool) (G4:List AV) (d:Option Tmp) (os:List VO) (st:St) (K:St->Prop):Prop where
  ex:(∃σr res,E4 P f [] args σr res/\(bor=true->res.cln=true/\σr.all Ob.cln=true)/\runs P os (st.after d (res.shift st.ob.length) (Lr st.ob.length 0 σr)) K) \/
    ∃sel σr res,Yt P f G4 st.o st.ob.length sel σr res/\runs P os (st.after d (O0 sel st.ob.length σr res).1 (O0 sel st.ob.length σr res).2) K
structure Xl (P:Program) (f:FuncId) (args:List AV) (bor:Bool) (G4:List AV) (d:Option Tmp) (os:List VO) (st:St) (rd:List Nat) (tr:Tr) (K:Tr->St->Prop):Prop where
  ex:(∃σr res,E4 P f [] args σr res/\(bor=true->res.cln=true/\σr.all Ob.cln=true)/\Gv P os (st.after d (res.shift st.ob.length) (Lr st.ob.length 0 σr)) ((rd,(Lr st.ob.length 0 σr).map (·.1))::tr) K) \/
    ∃sel σr res,Yt P f G4 st.o st.ob.length sel σr res/\Gv P os (st.after d (O0 sel st.ob.length σr res).1 (O0 sel st.ob.length σr res).2) ((rd,(O0 sel st.ob.length σr res).2.map (·.1))::tr) K
theorem Awx:Awy P d (.call ⟨.value fo,xs.toArray,ts⟩) ty os st K=(((st.raw fo).sb=true/\(xs.all fun x=>(st.raw x).sb)=true) /\
 Awb (st.raw fo).sv fun f caps=>Jt st.o (xs.map (fun x=>(st.raw x).sv)++caps)/\T7 P f (J2 st.o (xs.map (fun x=>(st.raw x).sv)++caps)) (T4 (xs.map (fun x=>(st.raw x).sv)++caps)) (xs.map (fun x=>(st.raw x).sv)++caps) d os st K):=by
 apply propext
 constructor
 ·rintro⟨e,⟨h1,⟨f,caps,σr,res,h2,h3,h4,h5,rfl⟩ | ⟨f,caps,sel,σr,res,h2,h3,rfl⟩⟩,h6⟩
  ·exact⟨h1,by rw[h2];exact⟨h4,⟨.inl ⟨σr,res,h3,h5,h6⟩⟩⟩⟩
  exact⟨h1,by rw[h2];exact⟨h3.args,⟨.inr ⟨sel,σr,res,h3,h6⟩⟩⟩⟩
 rintro⟨h1,h2⟩
 cases hv:(st.raw fo).sv with
 | fn f caps =>
  rw[hv] at h2
  rcases h2 with⟨h4,⟨⟨σr,res,h3,h5,h6⟩ | ⟨sel,σr,res,h3,h6⟩⟩⟩
  ·exact⟨_,⟨h1,.inl ⟨f,caps,σr,res,hv,h3,h4,h5,rfl⟩⟩,h6⟩
  exact⟨_,⟨h1,.inr ⟨f,caps,sel,σr,res,hv,h3,rfl⟩⟩,h6⟩
 | _=>rw[hv] at h2;exact h2.elim
theorem Atm:Aqf P d (.call ⟨.value fo,xs.toArray,ts⟩) ty os st tr KT=(((st.raw fo).sb=true/\(xs.all fun x=>(st.raw x).sb)=true) /\
 Awb (st.raw fo).sv fun f caps=>Jt st.o (xs.map (fun x=>(st.raw x).sv)++caps)/\Xl P f (J2 st.o (xs.map (fun x=>(st.raw x).sv)++caps)) (T4 (xs.map (fun x=>(st.raw x).sv)++caps)) (xs.map (fun x=>(st.raw x).sv)++caps) d os st (Fk (.call ⟨.value fo,xs.toArray,ts⟩) st) tr KT):=by
 apply propext
 constructor
 ·rintro⟨e,⟨h1,⟨f,caps,σr,res,h2,h3,h4,h5,rfl⟩ | ⟨f,caps,sel,σr,res,h2,h3,rfl⟩⟩,h6⟩
  ·exact⟨h1,by rw[h2];exact⟨h4,⟨.inl ⟨σr,res,h3,h5,h6⟩⟩⟩⟩
  exact⟨h1,by rw[h2];exact⟨h3.args,⟨.inr ⟨sel,σr,res,h3,h6⟩⟩⟩⟩
 rintro⟨h1,h2⟩
 cases hv:(st.raw fo).sv with
 | fn f caps =>
  rw[hv] at h2
  rcases h2 with⟨h4,⟨⟨σr,res,h3,h5,h6⟩ | ⟨sel,σr,res,h3,h6⟩⟩⟩
  ·exact⟨_,⟨h1,.inl ⟨f,caps,σr,res,hv,h3,h4,h5,rfl⟩⟩,h6⟩
  exact⟨_,⟨h1,.inr ⟨f,caps,sel,σr,res,hv,h3,rfl⟩⟩,h6⟩
 | _=>rw[hv] at h2;exact h2.elim
theorem Aoc {op:Op} {v:AV} (hv:Ih v.sv=true/\(v.sb&&(Fh v.sv == want))=true) (h:∃e:AV×List (Nat×Ob),Vd P op ty st st.ob.length e/\runs P os (st.after d (.gd true e.1) e.2) K):Zp P d op ty v want os st K:=by
 obtain⟨e,h1,h2⟩:=h
 exact⟨hv.1,e,fun _=>h1,by rw[hv.2];exact h2⟩
theorem Aa4 {op:Op} {v:AV} (hv:Ih v.sv=true/\(v.sb&&(Fh v.sv == want))=false) (h:runs P os (st.after d (.gd false .any) []) K):Zp P d op ty v want os st K :=
 ⟨hv.1,(.any,[]),(fun hb=>by rw[hv.2] at hb;cases hb),by rw[hv.2];exact h⟩
theorem T7.by {args args' G4:List AV} {σr:List Ob} {res:AV} (hp:E4 P f [] args' σr res) (ha:Qn args args') (hl:bor=true->res.cln=true/\σr.all Ob.cln=true) (h:runs P os (st.after d (res.shift st.ob.length) (Lr st.ob.length 0 σr)) K):T7 P f args bor G4 d os st K:=⟨.inl ⟨σr,res,hp.le ha,hl,h⟩⟩
theorem Xl.by {args args' G4:List AV} {σr:List Ob} {res:AV} (hp:E4 P f [] args' σr res) (ha:Qn args args') (hl:bor=true->res.cln=true/\σr.all Ob.cln=true) (h:Gv P os (st.after d (res.shift st.ob.length) (Lr st.ob.length 0 σr)) ((rd,(Lr st.ob.length 0 σr).map (·.1))::tr) KT):Xl P f args bor G4 d os st rd tr KT:=⟨.inl ⟨σr,res,hp.le ha,hl,h⟩⟩
end
attribute [go_sem] Awx Atm Awa List.append_nil List.nil_append List.cons_append
variable {ty k:Nat} {fr fz:Bool}
theorem E4.froz {args:List AV} (h:E4 P f [] args [.row ty k fr fz es] (.own 0 es.length)):E4 P f [] args [] (.imm fr k es):=by
 refine⟨h.1,fun E β us hn ho hβ r=>(h.2 E β us hn ho hβ r).mono ?_⟩
 rintro e w' ⟨v,β',rfl,r1⟩
 have r2:=(r1.freeze (id:=0) (ty:=ty) (k:=k) (fr:=fr) (fz:=fz) (es:=es) rfl).1.melt
 obtain⟨β2,r3⟩:=r2.weak (sel:=[]) (st':=⟨[(0,.imm fr k es)],[]⟩) ⟨.cons (by simp[St.melt,St.set,Pg,St.o,Ac1,E5,AV.melt,AV.ren];exact Le.refl _) .nil,fun j hj=>by simp at hj,rfl,List.nodup_nil⟩ fun id hid=>absurd (by show E.o0 id=_;rw[ho];simp[St.o]) hid
 exact⟨v,β2,rfl,r3⟩
inductive OL (o:Nat->Ob) (ρ:Nat->Option Nat):List Nat->List Ob->Prop
  | nil:OL o ρ [] []
  | cons {id:Nat} {ids:List Nat} {x:Ob} {xs:List Ob}:Va ((o id).ren ρ) x->OL o ρ ids xs->OL o ρ (id::ids) (x::xs)
theorem OL.out {o:Nat->Ob} {ρ:Nat->Option Nat} {ids:List Nat} {xs:List Ob} (h:OL o ρ ids xs):xs.length=ids.length/\∀j,j<ids.length->Va ((o (ids.getD j 0)).ren ρ) (xs.getD j .gone):=by
 induction h with
 | nil=>exact⟨rfl,fun j hj=>by simp at hj⟩
 | cons h1 _ ih =>
  refine⟨by simp[ih.1],fun j hj=>?_⟩
  cases j with
  | zero=>exact h1
  | succ j=>simpa using ih.2 j (by simpa using hj)
theorem En {sl sl':List (Nat×AV)} {ob ob':List Ob} {sel:List Nat} (hnd:sel.Nodup) (h1:LeS (fun id=>M3 id sel 0) sl sl') (h2:OL (fun i=>ob.getD i .gone) (fun id=>M3 id sel 0) sel ob'):Ah7 ⟨sl,ob⟩ sel ⟨sl',ob'⟩ :=
 ⟨h1,fun j hj=>h2.out.2 j hj,h2.out.1,hnd⟩
def Yq (m:Nat) (s s':St):Prop:=∃sel,Ah7 s sel s'/\∀id,id<m->sel[id]? = some id
theorem Vb {c:AV}:Le c c=True:=by simp[Le.refl]
theorem Ato {o:Ob}:Va o o=True:=by simp[Va.refl]
theorem Aw0 {fr fz fr' fz':Bool}:Va (.row ty k fr fz es) (.row ty k fr' fz' es)=((fr'=true->fr=true)/\(fz'=false->fz=false)):=by
 apply propext
 constructor
 ·intro h;cases h with | row h1 h2=>exact⟨h1,h2⟩
 rintro⟨h1,h2⟩;exact .row h1 h2
attribute [go_sem] Vb Ato Aw0
section
variable {P:Program} {n m:Nat} {st:St} {K:Exit->St->Prop} {c:Code}
theorem VW.wkE {s':St} (h:Yq m st s') (hv:VW P n m c s' K):VW P n m c st K:=by
 obtain⟨sel,h1,h2⟩:=h
 exact .weak h1 h2 hv
theorem VX.wkE {s':St} (h:Yq m st s') (hv:VX P n m c s' K):VX P n m c st K:=by
 obtain⟨sel,h1,h2⟩:=h
 exact .weak h1 h2 hv
abbrev Cz:=@VX.wkE
theorem VW.loop_w (I:Nat->St->Prop) (h0:∃z,Aoa m st (I z)) (round:∀z s,I z s->VW P n m c s (Exit.vthen (fun s'=>∃z',z'<z/\Aoa m s' (I z')) K)):VW P n m (.loop c) st K:=by
 obtain⟨z,h0⟩:=h0
 refine .loop (fun z s=>Aoa m s (I z)) z h0 fun z s ⟨sel,s',h1,h2,h3⟩=>?_
 exact .weak h1 h2 (round z s' h3)
theorem VW.range (N:Nat) (f:Nat->St) (h0:Yq m st (f 0)) (round:∀i,i<=N->VW P n m c (f i) (Exit.vthen (fun s'=>i<N/\Yq m s' (f (i+1))) K)):VW P n m (.loop c) st K:=by
 obtain⟨sel,h1,h2⟩:=h0
 refine .loop_w (fun z s=>∃i,i+z=N/\s=f i) ⟨N,sel,f 0,h1,h2,0,by omega,rfl⟩ ?_
 rintro z s ⟨i,hi,rfl⟩
 refine (round i (by omega)).mono fun e s=>?_
 cases e with
 | normal =>
  rintro⟨h3,sel,h4,h5⟩
  exact⟨z - 1,by omega,sel,_,h4,h5,i+1,by omega,rfl⟩
 | _=>exact fun h=>h
abbrev Cb:=@VW.range
theorem VX.range (N:Nat) (f:Nat->St) (h0:Yq m st (f 0)) (round:∀i,i<=N->VX P n m c (f i) (Exit.vthen (fun s'=>i<N/\Yq m s' (f (i+1))) K)):VX P n m (.loop c) st K:=by
 obtain⟨sel,h1,h2⟩:=h0
 refine .loop_w (fun z s=>∃i,i+z=N/\s=f i) ⟨N,sel,f 0,h1,h2,0,by omega,rfl⟩ ?_
 rintro z s ⟨i,hi,rfl⟩
 refine (round i (by omega)).mono fun e s=>?_
 cases e with
 | normal =>
  rintro⟨h3,sel,h4,h5⟩
  exact⟨z - 1,by omega,sel,_,h4,h5,i+1,by omega,rfl⟩
 | _=>exact fun h=>h
theorem VW.region1 {l:List Oper} (hd:Fs n l=true) (h:∀K1:St->Prop,(∀s,K .normal s->K1 s)->runs P (Gf l) st K1):VW P n m (.region id l.toArray false) st K:=.region hd (h _ fun _ h=>h)
end
mutual
def AV.low:AV->AV
 | .imm _ k es=>.imm false k es
 | .nil k=>.imm false k []
 | .iptr _ cs off=>.iptr false cs off
 | .agg cs=>.agg (Kf cs)
 | .tup cs=>.tup (Kf cs)
 | .fn f cs=>.fn f (Kf cs)
 | .any=>.any
 | .lit v=>.lit v
 | .own id n=>.own id n
 | .sub id n lo m=>.sub id n lo m
 | .ptr id off=>.ptr id off
 | .rptr id n i off=>.rptr id n i off
 | .bsl id n=>.bsl id n
 | .gd t v=>.gd t v
def Kf:List AV->List AV
 | []=>[]
 | c::cs=>c.low::Kf cs
end
theorem Le.iptr (fr:Bool) (cs:List T) (off:Nat):Le (.iptr fr cs off) (.iptr false cs off):=fun C u h=>by
 cases h with
 | iptr fr cs off b o cur ty fz us h1 h2 h3=>exact .iptr _ _ _ _ _ _ _ _ us h1 (VC.S_weak h2) fun j x hx=>⟨(h3 j x hx).1,VC.T_weak (h3 j x hx).2 fun e=>by cases e⟩
theorem Le.fn {cs cs':List AV} (h:Qn cs cs'):Le (.fn f cs) (.fn f cs'):=fun C u hr=>by
 cases hr with
 | fn f cs us h1 h2 =>
  refine .fn _ _ _ (by rw[<- h.length];exact h1) fun i c u hc hu=>?_
  obtain⟨c0,g1,g2⟩:=h.get hc
  exact g2 C u (h2 i c0 u g1 hu)
mutual
theorem Le.low:∀(c:AV),Le c c.low
 | .imm fr k es=>by simp only[AV.low];exact Le.imm (fun e=>by cases e) k es
 | .nil k=>by simp only[AV.low];exact Le.nil k false k
 | .iptr fr cs off=>by simp only[AV.low];exact Le.iptr fr cs off
 | .agg cs=>by simp only[AV.low];exact Le.agg (Qn.low cs)
 | .tup cs=>by simp only[AV.low];exact Le.tup (Qn.low cs)
 | .fn f cs=>by simp only[AV.low];exact Le.fn (Qn.low cs)
 | .any=>by simp only[AV.low];exact Le.refl _
 | .lit v=>by simp only[AV.low];exact Le.refl _
 | .own id n=>by simp only[AV.low];exact Le.refl _
 | .sub id n lo m=>by simp only[AV.low];exact Le.refl _
 | .ptr id off=>by simp only[AV.low];exact Le.refl _
 | .rptr id n i off=>by simp only[AV.low];exact Le.refl _
 | .bsl id n=>by simp only[AV.low];exact Le.refl _
 | .gd t v=>by simp only[AV.low];exact Le.refl _
theorem Qn.low:∀(cs:List AV),Qn cs (Kf cs)
 | []=>.nil
 | c::cs=>.cons (Le.low c) (Qn.low cs)
end
theorem Aq1 {res:AV} (hc:Vz P st rs) (h:((Ky P st rs).ren fun _=>none).low=res):Rm P 0 rs [] res .ret st:=A36 hc (by rw[<- h];exact Le.low _)
theorem VW.z {res:AV} (h:((Ky P st rs).ren fun _=>none).low=res) (hk:Rm P 0 rs [] res .ret st->K .ret st:=by exact id) (hc:Vz P st rs:=by simp[go_sem]):VW P n m .ret st K:=.ret (hk (Aq1 hc h))
abbrev B6:=@VW.z
section
variable {P:Program} {d:Option Tmp} {os:List VO} {st:St} {K:St->Prop} {KT:Tr->St->Prop} {tr:Tr}
theorem T7.lo {args args' G4:List AV} {σr:List Ob} {res:AV} (hp:E4 P f [] args' σr res) (ha:Kf args=args') (hl:bor=true->res.cln=true/\σr.all Ob.cln=true) (h:runs P os (st.after d (res.shift st.ob.length) (Lr st.ob.length 0 σr)) K):T7 P f args bor G4 d os st K:=.by hp (by rw[<- ha];exact Qn.low _) hl h
theorem Xl.lo {args args' G4:List AV} {σr:List Ob} {res:AV} (hp:E4 P f [] args' σr res) (ha:Kf args=args') (hl:bor=true->res.cln=true/\σr.all Ob.cln=true) (h:Gv P os (st.after d (res.shift st.ob.length) (Lr st.ob.length 0 σr)) ((rd,(Lr st.ob.length 0 σr).map (·.1))::tr) KT):Xl P f args bor G4 d os st rd tr KT:=.by hp (by rw[<- ha];exact Qn.low _) hl h
end
attribute [go_sem] AV.low Kf
theorem Tn {m:Nat} {sl:List (Nat×AV)} {ob:List Ob} {σr:List Ob} {res:AV} (sel:List Nat) (hc:Vz P ⟨sl,ob⟩ rs) (hnd:sel.Nodup) (hm:∀id,id<m->sel[id]? = some id) (h:((Ky P ⟨sl,ob⟩ rs).ren fun id=>M3 id sel 0).low=res) (ho:OL (fun i=>ob.getD i .gone) (fun id=>M3 id sel 0) sel σr):Rm P m rs σr res .ret ⟨sl,ob⟩ :=
 ⟨.inr rfl,hc,sel,En hnd (.cons (by rw[<- h];exact Le.low _) .nil) ho,hm⟩
theorem E4.frozA {args:List AV} {res res':AV} (h:E4 P f [] args [.row ty k fr fz es] res) (hr:((res.melt fun i=>[Ob.row ty k fr true es].getD i .gone).ren fun _=>none).low=res'):E4 P f [] args [] res':=by
 refine⟨h.1,fun E β us hn ho hβ r=>(h.2 E β us hn ho hβ r).mono ?_⟩
 rintro e w' ⟨v,β',rfl,r1⟩
 have r2:=(r1.freeze (id:=0) (ty:=ty) (k:=k) (fr:=fr) (fz:=fz) (es:=es) rfl).1.melt
 obtain⟨β2,r3⟩:=r2.weak (sel:=[]) (st':=⟨[(0,res')],[]⟩) ⟨.cons (by rw[<- hr];exact Le.low _) .nil,fun j hj=>by simp at hj,rfl,List.nodup_nil⟩ fun id hid=>absurd (by show E.o0 id=_;rw[ho];simp[St.o]) hid
 exact⟨v,β2,rfl,r3⟩
section
variable {P:Program} {d:Option Tmp} {ty:TypeId} {os:List VO} {st:St} {K:St->Prop} {KT:Tr->St->Prop} {tr:Tr}
structure Ada (P:Program) (g:Bool) (f:FuncId) (args:List AV) (bor:Bool) (d:Option Tmp) (os:List VO) (st:St) (K:St->Prop):Prop where
  ex:∃σr res,(g=true->E4 P f [] args σr res/\(bor=true->res.cln=true/\σr.all Ob.cln=true))/\runs P os (st.after d (.gd g (res.shift st.ob.length)) (bif g then Lr st.ob.length 0 σr else [])) K
structure Zr (P:Program) (g:Bool) (f:FuncId) (args:List AV) (bor:Bool) (d:Option Tmp) (os:List VO) (st:St) (rd:List Nat) (tr:Tr) (K:Tr->St->Prop):Prop where
  ex:∃σr res,(g=true->E4 P f [] args σr res/\(bor=true->res.cln=true/\σr.all Ob.cln=true))/\Gv P os (st.after d (.gd g (res.shift st.ob.length)) (bif g then Lr st.ob.length 0 σr else [])) ((rd,(Lr st.ob.length 0 σr).map (·.1))::tr) K
theorem Atn {v:AV} (hv:Ih v.sv=true) (hb:(v.sb&&(Fh v.sv == want))=true->(xs.all fun x=>(st.raw x).sb)=true/\Jt st.o (xs.map fun x=>(st.raw x).sv)) (h:Ada P (v.sb&&(Fh v.sv == want)) f (J2 st.o (xs.map fun x=>(st.raw x).sv)) (T4 (xs.map fun x=>(st.raw x).sv)) d os st K):Zp P d (.call ⟨.value (.func f),xs.toArray,ts⟩) ty v want os st K:=by
 obtain⟨σr,res,h1,h2⟩:=h
 refine⟨hv,(res.shift st.ob.length,Lr st.ob.length 0 σr),fun hg=>?_,h2⟩
 obtain⟨q1,q2⟩:=hb hg
 obtain⟨q3,q4⟩:=h1 hg
 exact⟨⟨rfl,q1⟩,.inl ⟨f,[],σr,res,rfl,by simpa using q3,by simpa using q2,by simpa using q4,rfl⟩⟩
theorem Qc {v:AV} (h:Ada P (v.sb&&(Fh v.sv == want)) f (J2 st.o (xs.map fun x=>(st.raw x).sv)) (T4 (xs.map fun x=>(st.raw x).sv)) d os st K) (hv:Ih v.sv=true:=by simp[go_sem]) (hb:(v.sb&&(Fh v.sv == want))=true->(xs.all fun x=>(st.raw x).sb)=true/\Jt st.o (xs.map fun x=>(st.raw x).sv):=by simp[go_sem]):Zp P d (.call ⟨.value (.func f),xs.toArray,ts⟩) ty v want os st K:=Atn hv hb h
theorem O5 {v:AV} (hv:Ih v.sv=true) (hb:(v.sb&&(Fh v.sv == want))=true->(xs.all fun x=>(st.raw x).sb)=true/\Jt st.o (xs.map fun x=>(st.raw x).sv)) (h:Zr P (v.sb&&(Fh v.sv == want)) f (J2 st.o (xs.map fun x=>(st.raw x).sv)) (T4 (xs.map fun x=>(st.raw x).sv)) d os st (Fk (.call ⟨.value (.func f),xs.toArray,ts⟩) st) tr KT):Alk P d (.call ⟨.value (.func f),xs.toArray,ts⟩) ty v want os st tr KT:=by
 obtain⟨σr,res,h1,h2⟩:=h
 refine⟨hv,(res.shift st.ob.length,Lr st.ob.length 0 σr),fun hg=>?_,h2⟩
 obtain⟨q1,q2⟩:=hb hg
 obtain⟨q3,q4⟩:=h1 hg
 exact⟨⟨rfl,q1⟩,.inl ⟨f,[],σr,res,rfl,by simpa using q3,by simpa using q2,by simpa using q4,rfl⟩⟩
theorem Ada.skip {args:List AV} (h:runs P os (st.after d (.gd false .any) []) K):Ada P false f args bor d os st K:=⟨[],.any,(fun e=>by cases e),h⟩
theorem Zr.skip {args:List AV} (h:Gv P os (st.after d (.gd false .any) []) ((rd,[])::tr) KT):Zr P false f args bor d os st rd tr KT:=⟨[],.any,(fun e=>by cases e),h⟩
theorem Ada.lo {g:Bool} {args args':List AV} {σr:List Ob} {res:AV} (hp:E4 P f [] args' σr res) (ha:Kf args=args') (hl:bor=true->res.cln=true/\σr.all Ob.cln=true) (h:runs P os (st.after d (.gd g (res.shift st.ob.length)) (bif g then Lr st.ob.length 0 σr else [])) K):Ada P g f args bor d os st K:=⟨σr,res,fun _=>⟨hp.le (by rw[<- ha];exact Qn.low _),hl⟩,h⟩
theorem Zr.lo {g:Bool} {args args':List AV} {σr:List Ob} {res:AV} (hp:E4 P f [] args' σr res) (ha:Kf args=args') (hl:bor=true->res.cln=true/\σr.all Ob.cln=true) (h:Gv P os (st.after d (.gd g (res.shift st.ob.length)) (bif g then Lr st.ob.length 0 σr else [])) ((rd,(Lr st.ob.length 0 σr).map (·.1))::tr) KT):Zr P g f args bor d os st rd tr KT:=⟨σr,res,fun _=>⟨hp.le (by rw[<- ha];exact Qn.low _),hl⟩,h⟩
end
theorem Azx (fr:Bool):∀(t:T),(T.av fr t).ids=[]
 | .lit v=>by simp only[T.av,AV.ids]
 | .sl k es=>by simp only[T.av,AV.ids]
 | .fn f cs off=>by simp only[T.av,AV.ids,Ha];rfl
theorem Akw (fr:Bool):∀(l:List T),Ha (l.map (T.av fr))=[]
 | []=>by simp only[List.map_nil,Ha]
 | t::l=>by simp only[List.map_cons,Ha,Azx,Akw fr l,List.append_nil]
theorem Asz (n:Nat) (fr:Bool) (l:List T):Ha ((l.map (T.av fr)).take n)=[]:=by
 rw[<- List.map_take];exact Akw fr _
attribute [go_sem] Akw Asz
def Ob.low:Ob->Ob
 | .box ty cs=>.box ty (Kf cs)
 | o=>o
theorem Va.low (o:Ob):Va o o.low:=by
 cases o with
 | box ty cs=>exact .box (Qn.low cs)
 | gone=>exact .gone
 | row ty k fr fz es=>exact Va.refl _
theorem E4.lowO {σa:List Ob} {args:List AV} {σr:List Ob} {res:AV} (h:E4 P f (σa.map Ob.low) (Kf args) σr res):E4 P f σa args σr res:=by
 refine⟨h.1,fun E β us hn ho hβ r=>?_⟩
 have hlen:(Kf args).length=args.length:=(Qn.length (Qn.low args)).symm
 have hC:∀sl sl':List (Nat×AV),True:=fun _ _=>trivial
 have hget:∀j,(St.mk [] (σa.map Ob.low)).o j=((St.mk [] σa).o j).low:=fun j=>by
  show (σa.map Ob.low).getD j Ob.gone=(σa.getD j Ob.gone).low
  rw[Ad,Ad,Ap]
  cases σa[j]? <;> rfl
 have hlow:∀o:Ob,o.low≠.gone<->o≠.gone:=fun o=>by cases o<;>simp[Ob.low]
 let E2:Gp:={ E with o0:=(St.mk [] (σa.map Ob.low)).o }
 have hM:E2.M=E.M:=by
  funext b
  apply propext
  constructor
  ·rintro⟨j,h1,h2⟩
   have h1:(St.mk [] (σa.map Ob.low)).o j≠.gone:=h1
   rw[hget,hlow] at h1
   exact⟨j,by rw[ho];exact h1,h2⟩
  rintro⟨j,h1,h2⟩
  rw[ho] at h1
  exact⟨j,by show (St.mk [] (σa.map Ob.low)).o j≠.gone;rw[hget,hlow];exact h1,h2⟩
 have hlv:∀o:Ob,o.low.live<->o.live:=fun o=>by cases o<;>simp[Ob.low,Ob.live]
 have hStep:∀C:VC,∀C':VC,C'.h=C.h->C'.β=C.β->C'.B=C.B->C'.M=C.M->C'.im=C.im->C'.fr=C.fr->(∀j,C'.ob j=(C.ob j).low)->∀c u,Ea C c u->Ea C' c u:=fun C C' h1 h2 h3 h4 h5 h6 h7 c u hv=>by
  refine hv.step ⟨h3,fun b hb=>by rw[h4];exact hb,fun b hb=>by rw[h5];exact hb,fun b hb=>by rw[h6];exact hb,by rw[h1];exact Aj _,?_,fun b _ _=>by rw[h1],fun id ty cs hc=>⟨⟨Kf cs,by rw[h7,hc];rfl⟩,by rw[h2]⟩,fun id ty k fr fz es hc=>⟨fr,fz,es,by rw[h7,hc];rfl,Aj _,fun _=>⟨by rw[h2],fun b cur hb hcur=>⟨cur,by rw[h1];exact hcur,rfl⟩⟩⟩⟩
  rintro b _ ⟨id,h8,h9⟩
  rw[h7,hlv] at h9
  exact⟨id,by rw[<- h2];exact h8,h9⟩
 have hCC:∀sl sl':List (Nat×AV),∀c u,Ea (E.C β ⟨sl,σa⟩ E.w0) c u->Ea (E2.C β ⟨sl',σa.map Ob.low⟩ E.w0) c u:=fun sl sl'=>hStep _ _ rfl rfl rfl hM rfl rfl hget
 have r2:Es E2 β ⟨H0 0 (Kf args),σa.map Ob.low⟩ ⟨us,[]⟩ E2.w0:=by
  refine⟨r.sz,fun t=>?_,r.df,fun j=>?_,fun i j b hi hj=>?_,fun i b hi hb=>?_,Kp.refl _ _,⟨fun id ty cs h=>⟨⟨cs,h⟩,congrFun hβ.symm id⟩,fun id ty k fr fz es h=>⟨fr,fz,es,h,Aj _,fun _=>⟨congrFun hβ.symm id,fun b cur hb hc=>⟨cur,hc,rfl⟩⟩⟩⟩,r.kb,r.dk⟩
  ·have hr:=r.sl t
   have hr:Ea (E.C β ⟨H0 0 args,σa⟩ E.w0) (E5 (H0 0 args) t) (us.getD t undef):=hr
   show Ea _ (E5 (H0 0 (Kf args)) t) _
   rw[Lg,if_pos (Ae _),Ad] at hr ⊢
   cases hq:(Kf args)[t - 0]? with
   | none=>exact .any _
   | some c' =>
    obtain⟨c,g1,g2⟩:=(Qn.low args).get hq
    rw[g1] at hr
    exact g2 _ _ (hCC _ _ _ _ hr)
  ·have hr:=r.ob j
   have hr:Ki (E.C β ⟨H0 0 args,σa⟩ E.w0) j ((St.mk [] σa).o j):=hr
   show Ki _ j ((St.mk [] (σa.map Ob.low)).o j)
   rw[hget]
   cases hq:(St.mk [] σa).o j with
   | gone=>trivial
   | box ty cs =>
    rw[hq] at hr
    obtain⟨b,cur,q1,q2,q3,q4⟩:=hr
    refine⟨b,cur,q1,q2,by rw[<- Qn.length (Qn.low cs)];exact q3,fun i c u hc hu=>?_⟩
    obtain⟨c0,g1,g2⟩:=(Qn.low cs).get hc
    exact⟨g2 _ _ (hCC _ _ _ _ (q4 i c0 u g1 hu).1),(q4 i c0 u g1 hu).2⟩
   | row ty k fr fz es =>
    rw[hq] at hr
    obtain⟨q1,q2⟩:=hr
    refine⟨q1,?_⟩
    have hb:(E2.C β ⟨H0 0 (Kf args),σa.map Ob.low⟩ E.w0).β j=(E.C β ⟨H0 0 args,σa⟩ E.w0).β j:=rfl
    show match (E2.C β ⟨H0 0 (Kf args),σa.map Ob.low⟩ E.w0).β j with | none=>es=[] | some b=>_
    rw[hb]
    cases hbb:(E.C β ⟨H0 0 args,σa⟩ E.w0).β j with
    | none=>rw[hbb] at q2;exact q2
    | some b =>
     rw[hbb] at q2
     obtain⟨cur,c,g1,g2,g3,g4,g5⟩:=q2
     refine⟨cur,c,g1,g2,g3,g4,fun i e j x he hx=>?_⟩
     obtain⟨u,p1,p2⟩:=g5 i e j x he hx
     refine⟨u,p1,p2.keep (fun _ _=>rfl) fun b hs=>⟨hs.1,fun⟨id,h8,h9⟩=>hs.2.1 ⟨id,h8,?_⟩,?_⟩⟩
     ·have h9:((St.mk [] (σa.map Ob.low)).o id).live:=h9
      rw[hget,hlv] at h9
      exact h9
     show E.w0.heap.size<=b\/E2.M b\/_
     rw[hM]
     exact hs.2.2
  ·exact r.inj i j b (by have hi:(St.mk [] (σa.map Ob.low)).o i≠.gone:=hi;rw[hget,hlow] at hi;exact hi) (by have hj:(St.mk [] (σa.map Ob.low)).o j≠.gone:=hj;rw[hget,hlow] at hj;exact hj)
  have:=r.rng i b (by have hi:(St.mk [] (σa.map Ob.low)).o i≠.gone:=hi;rw[hget,hlow] at hi;exact hi) hb
  exact⟨this.1,by rw[hM];exact this.2⟩
 refine (h.2 E2 β us (by rw[hlen];exact hn) rfl hβ r2).mono ?_
 rintro e w' ⟨v,β',rfl,r3⟩
 refine⟨v,β',rfl,?_⟩
 have hC2:({ E2 with n:=1 }:Gp).C β' ⟨[(0,res)],σr⟩ w'=({ E with n:=1 }:Gp).C β' ⟨[(0,res)],σr⟩ w':=by
  show VC.mk _ _ _ _ _ _ _=VC.mk _ _ _ _ _ _ _
  congr 1
 refine⟨r3.sz,fun t=>by rw[<- hC2];exact r3.sl t,r3.df,fun id=>by rw[<- hC2];exact r3.ob id,r3.inj,fun i b hi hb=>?_,?_,?_,r3.kb,r3.dk⟩
 ·have:=r3.rng i b hi hb
  refine⟨this.1,?_⟩
  have h2:E.w0.heap.size<=b\/E2.M b:=this.2
  rw[hM] at h2
  exact h2
 ·have:=r3.kp
  refine⟨this.os,this.tape,this.output,this.size,fun b hb hm=>this.block b hb fun h=>hm ?_⟩
  have h:E2.M b:=h
  rw[hM] at h
  exact h
 rw[<- hC2]
 refine⟨fun id ty cs hc=>?_,fun id ty k fr fz es hc=>?_⟩
 ·have hc:E.o0 id=_:=hc
  rw[ho] at hc
  exact r3.ct.box id ty (Kf cs) (by show (St.mk [] (σa.map Ob.low)).o id=_;rw[hget,hc];rfl)
 have hc:E.o0 id=_:=hc
 rw[ho] at hc
 exact r3.ct.row id ty k fr fz es (by show (St.mk [] (σa.map Ob.low)).o id=_;rw[hget,hc];rfl)
def Adb (G4:List AV) (st:St) (sel:List Nat) (σr:List Ob) (res:AV):Prop :=
 sel.Nodup/\(∀id∈sel,(st.o id).live)/\Jt st.o G4/\(∀id∈sel,(st.o id).passC st.o)/\sel.length<=σr.length/\(∀id∈sel,id∈rdC st.o (Ha G4)/\∀x∈obI (st.o id),x∈rdC st.o (Ha G4)) /\
  ((T3 (fun id=>M3 id sel 0) G4||sel.any fun id=>(st.o id).borR fun id=>M3 id sel 0)=true->res.cln=true/\σr.all Ob.cln=true)
section
variable {P:Program} {d:Option Tmp} {os:List VO} {st:St} {K:St->Prop} {KT:Tr->St->Prop} {tr:Tr}
theorem Yt.of {args' G4:List AV} {σa σr:List Ob} {res:AV} (sel:List Nat) (hp:E4 P f σa args' σr res) (hσ:(sel.map fun id=>((st.o id).passR st.o fun id=>M3 id sel 0).low)=σa) (ha:Kf (G9 st.o (fun id=>M3 id sel 0) G4)=args') (hc:Adb G4 st sel σr res) (nid:Nat):Yt P f G4 st.o nid sel σr res:=by
 obtain⟨h1,h2,h3,h4,h5,h6,h7⟩:=hc
 refine⟨h1,h2,E4.lowO ?_,h3,h4,h5,h6,h7⟩
 rw[ha,List.map_map]
 rw[<- hσ] at hp
 exact hp
theorem T7.ob {args args' G4:List AV} {σa σr:List Ob} {res:AV} (sel:List Nat) (hp:E4 P f σa args' σr res) (hσ:(sel.map fun id=>((st.o id).passR st.o fun id=>M3 id sel 0).low)=σa) (ha:Kf (G9 st.o (fun id=>M3 id sel 0) G4)=args') (hc:Adb G4 st sel σr res) (h:runs P os (st.after d (O0 sel st.ob.length σr res).1 (O0 sel st.ob.length σr res).2) K):T7 P f args bor G4 d os st K:=⟨.inr ⟨sel,σr,res,.of sel hp hσ ha hc _,h⟩⟩
theorem Xl.ob {args args' G4:List AV} {σa σr:List Ob} {res:AV} (sel:List Nat) (hp:E4 P f σa args' σr res) (hσ:(sel.map fun id=>((st.o id).passR st.o fun id=>M3 id sel 0).low)=σa) (ha:Kf (G9 st.o (fun id=>M3 id sel 0) G4)=args') (hc:Adb G4 st sel σr res) (h:Gv P os (st.after d (O0 sel st.ob.length σr res).1 (O0 sel st.ob.length σr res).2) ((rd,(O0 sel st.ob.length σr res).2.map (·.1))::tr) KT):Xl P f args bor G4 d os st rd tr KT:=⟨.inr ⟨sel,σr,res,.of sel hp hσ ha hc _,h⟩⟩
end
attribute [go_sem] Ob.low G9 AV.passR Ob.passR T3 AV.borR Ob.borR Ob.live Ob.passC Adb bkN Akx Ahx O0 AV.bk bkL Ob.bk
end
end Go.Proofs.YtkkimgjinbaemaaGreat
