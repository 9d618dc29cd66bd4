/- The walk. -/
import Derived.Test.YtkkimgjinbaemaaGreatKac
noncomputable section
namespace Go.Proofs.YtkkimgjinbaemaaGreat
open Go.RowKit
set_option linter.unusedVariables false
set_option linter.unusedSimpArgs false
set_option linter.defProp false
set_option linter.unusedSectionVars false
set_option maxRecDepth 100000
set_option maxHeartbeats 4000000
section
variable {P:Program}
structure E1 where
  d:Option Tmp
  v:AV
  up:List (Nat×Ob)
def E1.ap (s:St) (e:E1):St:=s.after e.d e.v e.up
inductive Loc where
  | s (t:Nat)
  | o (id:Nat)
def gt (s:St):Loc->AV×Ob
 | .s t=>(Ez s.sl t,.gone)
 | .o id=>(.any,s.o id)
def E1.wr (e:E1):Loc->Bool
 | .s t=>e.d == some t
 | .o id=>e.up.any fun p=>p.1 == id
def upv (id:Nat):List (Nat×Ob)->Ob
 | []=>.gone
 | p::l=>bif l.any (fun p=>p.1 == id) then upv id l else p.2
def E1.wv (e:E1):Loc->AV×Ob
 | .s t=>(e.v,.gone)
 | .o id=>(.any,upv id e.up)
theorem Atr (id:Nat):∀(l:List (Nat×Ob)) (s:St),(s.sets l).o id=bif l.any (fun p=>p.1 == id) then upv id l else s.o id
 | [],s=>rfl
 | (i,o)::l,s=>by
  rw[St.sets,Atr id l,St.set_o,List.any_cons]
  cases h1:l.any (fun p=>p.1 == id) with
  | true=>simp[upv,h1]
  | false =>
   by_cases h2:id=i
   ·subst h2;simp[upv,h1]
   have:(i == id)=false:=by simp[Ne.symm h2]
   simp[h2,this]
theorem Ax7 (s:St) (e:E1) (ℓ:Loc):gt (E1.ap s e) ℓ=bif e.wr ℓ then e.wv ℓ else gt s ℓ:=by
 cases ℓ with
 | s t =>
  simp only[gt,E1.ap,St.after,Ad8,E1.wr,E1.wv]
  cases hd:e.d with
  | none=>rfl
  | some d =>
   simp only[St.put,Ez]
   by_cases h:d=t
   ·subst h;simp
   have h1:(d == t)=false:=by simp[h]
   have h2:(some d == some t)=false:=by simpa using h
   rw[h1,h2];rfl
 | o id =>
  simp only[gt,E1.ap,St.after,Atr,E1.wr,E1.wv,St.put_o]
  cases e.up.any (fun p=>p.1 == id)<;>rfl
def Tt (s:St) (L:List E1):St:=L.foldl E1.ap s
theorem Ayx (s:St) (ℓ:Loc):∀(L:List E1),gt (Tt s L) ℓ=match (L.filter (fun e=>e.wr ℓ)).getLast? with | some e=>e.wv ℓ | none=>gt s ℓ:=by
 intro L
 generalize hn:L.length=n
 induction n generalizing L with
 | zero=>have:=List.eq_nil_of_length_eq_zero hn;subst this;rfl
 | succ n ih =>
  have hne:L≠[]:=fun e=>by rw[e] at hn;cases hn
  obtain⟨L',e,rfl⟩:∃L' e,L=L'++[e]:=⟨L.dropLast,L.getLast hne,(List.dropLast_concat_getLast hne).symm⟩
  rw[Bo] at hn
  simp only[Tt,List.foldl_append,List.foldl_cons,List.foldl_nil]
  rw[Ax7,List.filter_append]
  cases hw:e.wr ℓ with
  | true=>simp[hw]
  | false =>
   simp only[List.filter_cons,hw,Bl,if_false,List.filter_nil,List.append_nil,cond_false]
   exact ih L' (by simpa using hn)
def LD (N:Nat) (f:Nat->E1) (D:Nat->Bool):List E1:=((List.range N).filter D).map f
theorem Au1 (N:Nat) (f:Nat->E1) (s:St) (ℓ:Loc) (D:Nat->Bool):gt (Tt s (LD N f D)) ℓ=match ((List.range N).filter fun i=>D i&&(f i).wr ℓ).getLast? with | some i=>(f i).wv ℓ | none=>gt s ℓ:=by
 rw[Ayx,LD]
 have:((List.range N).filter D |>.map f).filter (fun e=>e.wr ℓ)=((List.range N).filter fun i=>D i&&(f i).wr ℓ).map f:=by
  rw[List.filter_map,List.filter_filter]
  congr 1
  exact List.filter_congr fun i _=>by simp[Bool.and_comm]
 rw[this,List.getLast?_map]
 cases ((List.range N).filter fun i=>D i&&(f i).wr ℓ).getLast? <;> rfl
variable {f:Nat->E1} {ℓ:Loc}
theorem Ak3 {N:Nat} {s:St} {ℓ:Loc} {D D':Nat->Bool} (h:∀i,i<N->(f i).wr ℓ=true->D i=D' i):gt (Tt s (LD N f D)) ℓ=gt (Tt s (LD N f D')) ℓ:=by
 rw[Au1,Au1]
 have:((List.range N).filter fun i=>D i&&(f i).wr ℓ)=((List.range N).filter fun i=>D' i&&(f i).wr ℓ):=List.filter_congr fun i hi=>by
  cases hw:(f i).wr ℓ with
  | true=>rw[h i (List.mem_range.1 hi) hw]
  | false=>simp
 rw[this]
theorem Afx (p:Nat->Bool):∀(N j:Nat),j<N->p j=true->(∀i,i<N->p i=true->i<=j)->((List.range N).filter p).getLast? = some j
 | 0,j,h,_,_=>by omega
 | N+1,j,h,hp,hall=>by
  rw[List.range_succ,List.filter_append]
  by_cases e:j=N
  ·subst e;simp[hp]
  have:p N=false:=by
   cases hq:p N with
   | false=>rfl
   | true=>have:=hall N (by omega) hq;omega
  simp only[List.filter_cons,this,Bl,if_false,List.filter_nil,List.append_nil]
  exact Afx p N j (by omega) hp fun i hi hpi=>hall i (by omega) hpi
theorem Axx {N j:Nat} {s:St} {ℓ:Loc} {D:Nat->Bool} (hj:j<N) (hD:D j=true) (hw:(f j).wr ℓ=true) (hall:∀i,i<N->D i=true->(f i).wr ℓ=true->i<=j):gt (Tt s (LD N f D)) ℓ=(f j).wv ℓ:=by
 rw[Au1,Afx _ N j hj (by simp[hD,hw]) fun i hi h=>by
  simp only[Ah] at h
  exact hall i hi h.1 h.2]
theorem Ai1 (f:Nat->E1) (s:St):∀(N j:Nat),j<=N->LD N f (fun i=>decide (i<j))=(List.range j).map f:=by
  intro N j hj
  unfold LD
  congr 1
  induction N with
  | zero => have : j = 0 := by omega
            subst this;rfl
  | succ N ih =>
    rw[List.range_succ,List.filter_append]
    by_cases e:j=N+1
    · subst e
      rw[show ((List.range N).filter fun i=>decide (i<N+1))=List.range N from List.filter_eq_self.2 fun i hi=>by have:=List.mem_range.1 hi;simp;omega]
      simp[List.range_succ]
    · rw[ih (by omega)]
      simp;omega
variable {s s':St}
theorem Eo.congr {E:Gi} {β:Nat->Option Nat} {a:Act} {w:World} (r:Eo E β s a w) (h:∀ℓ,gt s ℓ=gt s' ℓ):Eo E β s' a w:=by
 have h1:∀t,Ez s.sl t=Ez s'.sl t:=fun t=>congrArg Prod.fst (h (.s t))
 have h2:s.o=s'.o:=funext fun id=>congrArg Prod.snd (h (.o id))
 have hC:E.C β s' w=E.C β s w:=by simp only[Gi.C,h2]
 exact⟨r.sz,fun t=>by rw[hC,<- h1];exact r.sl t,r.df,fun id=>by rw[hC,<- h2];exact r.ob id,by rw[<- h2];exact r.inj,by rw[<- h2];exact r.rng,r.kp,by rw[hC];exact r.ct,r.kb,r.dk⟩
def It:Op->List Operand:=fun op=>op.operands.toList
def M7 (op:Op) (g:Gd):List Nat:=(It op).filterMap (fun x=>match x with | .tmp t=>some t | _=>none)++(match g with | .at t _=>[t] | _=>[])
def F0:Op->Bool
 | .call { callee:=.value _,.. }=>true
 | _=>false
def Jw:Op->Bool
 | .move _=>true
 | .assign _=>true
 | _=>false
def Fi (op:Op) (st:St):List Nat:=bif Jw op then [] else bif F0 op then rdC st.o (G5 ((It op).map st.raw)) else G5 ((It op).map st.raw)
variable {op:Op}
theorem Aij {st:St} {id:Nat} (hv:Jw op=false) (h:id∈G5 ((It op).map st.raw)):id∈Fi op st:=by
 unfold Fi
 rw[hv,cond_false]
 cases F0 op with
 | true=>exact Bj _ h
 | false=>exact h
theorem Aiw {o:Nat->Ob}:∀{l:List Nat} {x:Nat},x∈Wv o l->∃id∈l,x∈obI (o id)
 | [],x,h=>by cases h
 | id::l,x,h=>by
  simp only[Wv,A0] at h
  rcases h with h | h
  ·exact⟨id,by simp,h⟩
  obtain⟨y,h1,h2⟩:=Aiw h
  exact⟨y,by simp[h1],h2⟩
theorem Ang {o:Nat->Ob} {x id:Nat}:∀{l:List Nat},id∈l->x∈obI (o id)->x∈Wv o l
 | y::l,h,hx=>by
  simp only[Wv,A0]
  cases h with
  | head=>exact .inl hx
  | tail _ h=>exact .inr (Ang h hx)
mutual
theorem Amv {o o':Nat->Ob} {ρ:Nat->Option Nat}:∀(c:AV),(∀id∈c.ids,o id=o' id)->c.passR o ρ=c.passR o' ρ
 | .own id n,h=>by have:=h id (by simp[AV.ids]);simp[AV.passR,this]
 | .sub id n lo m,h=>by have:=h id (by simp[AV.ids]);simp[AV.passR,this]
 | .agg cs,h=>by have:=K7 (ρ:=ρ) cs (by simpa only[AV.ids] using h);simp[AV.passR,this]
 | .tup cs,h=>by have:=K7 (ρ:=ρ) cs (by simpa only[AV.ids] using h);simp[AV.passR,this]
 | .fn f cs,h=>by have:=K7 (ρ:=ρ) cs (by simpa only[AV.ids] using h);simp[AV.passR,this]
 | .any,h=>by simp[AV.passR]
 | .lit _,h=>by simp[AV.passR]
 | .nil _,h=>by simp[AV.passR]
 | .imm _ _ _,h=>by simp[AV.passR]
 | .ptr _ _,h=>by simp[AV.passR]
 | .rptr _ _ _ _,h=>by simp[AV.passR]
 | .bsl _ _,h=>by simp[AV.passR]
 | .iptr _ _ _,h=>by simp[AV.passR]
 | .gd _ _,h=>by simp[AV.passR]
theorem K7 {o o':Nat->Ob} {ρ:Nat->Option Nat}:∀(cs:List AV),(∀id∈G5 cs,o id=o' id)->G4 o ρ cs=G4 o' ρ cs
 | [],h=>by simp[G4]
 | c::cs,h=>by
  have h1:=Amv (ρ:=ρ) c fun id hid=>h id (by simp[G5,hid])
  have h2:=K7 (ρ:=ρ) cs fun id hid=>h id (by simp[G5,hid])
  simp[G4,h1,h2]
end
variable {nid:Nat}
theorem Ye.local {f:FuncId} {av:List AV} {o o':Nat->Ob} {sel:List Nat} {σr:List Ob} {res:AV} (h:Ye P f av o nid sel σr res) (ho:∀id∈rdC o (G5 av),o id=o' id):Ye P f av o' nid sel σr res:=by
 obtain⟨h1,h2,h3,h4,h5,h6,h7,h8⟩:=h
 have hav:∀id∈G5 av,o id=o' id:=fun id hid=>ho id (Bj _ hid)
 have hs:∀id∈sel,o id=o' id:=fun id hid=>ho id (h7 id hid).1
 have hin:∀id∈sel,∀x∈obI (o id),o x=o' x:=fun id hid x hx=>ho x ((h7 id hid).2 x hx)
 have hp:∀id∈sel,∀ρ,(o id).passR o ρ=(o' id).passR o' ρ/\((o id).passC o=(o' id).passC o'):=fun id hid ρ=>by
  rw[<- hs id hid]
  have:=hin id hid
  cases hq:o id with
  | gone=>exact⟨rfl,rfl⟩
  | row ty k fr fz es=>exact⟨rfl,rfl⟩
  | box ty cs =>
   rw[hq] at this
   exact⟨by simp only[Ob.passR];rw[K7 cs this],(Kw cs this).2⟩
 have hm:(sel.map fun id=>(o id).passR o fun id=>Ms id sel 0)=sel.map fun id=>(o' id).passR o' fun id=>Ms id sel 0:=List.map_congr_left fun id hid=>(hp id hid _).1
 have hd:∀l,(∀id∈l,o id=o' id)->Wv o l=Wv o' l:=fun l=>by
  induction l with
  | nil=>intro _;rfl
  | cons x xs ih=>intro h;rw[Wv,Wv,h x (by simp),ih fun id hid=>h id (by simp[hid])]
 have hrd:rdC o (G5 av)=rdC o' (G5 av):=by unfold rdC;rw[hd _ hav]
 refine⟨h1,fun id hid=>by rw[<- hs id hid];exact h2 id hid,by rw[<- hm,<- K7 av hav];exact h3,by rw[<- (Kw av hav).2];exact h4,fun id hid=>by rw[<- (hp id hid fun _=>none).2];exact h5 id hid,h6,fun id hid=>by rw[<- hs id hid,<- hrd];exact h7 id hid,?_⟩
 have:(sel.any fun id=>(o' id).borR fun id=>Ms id sel 0)=sel.any fun id=>(o id).borR fun id=>Ms id sel 0:=by
  rw[Bool.eq_iff_iff,List.any_eq_true,List.any_eq_true]
  constructor
  ·rintro⟨x,h1,h2⟩;exact⟨x,h1,by rw[hs x h1];exact h2⟩
  rintro⟨x,h1,h2⟩;exact⟨x,h1,by rw[<- hs x h1];exact h2⟩
 rw[this]
 exact h8
theorem Aud {g:Gd} (h:∀t∈M7 op g,Ez s.sl t=Ez s'.sl t):∀x∈op.operands,s.raw x=s'.raw x:=by
 intro x hx
 cases x with
 | tmp t=>exact h t (by simp only[M7,It,A0,List.mem_filterMap];exact .inl ⟨.tmp t,by simpa using hx,rfl⟩)
 | const v=>rfl
 | global g=>rfl
 | func f=>rfl
variable {ty:TypeId} {raw raw':Operand->AV}
theorem Awj {o:Nat->Ob} (h:∀x∈op.operands,raw x=raw' x):My P op ty raw o nid=My P op ty raw' o nid:=by
 have hp:∀(ps:Array (Nat×Operand)),(∀p∈ps,raw p.2=raw' p.2)->(ps.toList.map fun p=>(p.1,(raw p.2).sv))=(ps.toList.map fun p=>(p.1,(raw' p.2).sv)):=fun ps hps=>List.map_congr_left fun p hp=>by rw[hps p (by simpa using hp)]
 cases op with
 | move x=>simp only[My,h x (by simp[Op.operands])]
 | assign x=>simp only[My,h x (by simp[Op.operands])]
 | box t x=>simp only[My,h x (by simp[Op.operands])]
 | build t ps=>simp only[My];rw[hp ps fun p hp=>h p.2 (by simp only[Op.operands,List.mem_toArray,A4];exact⟨p,by simpa using hp,rfl⟩)]
 | buildSlice t n ps=>simp only[My];rw[hp ps fun p hp=>h p.2 (by simp only[Op.operands,List.mem_toArray,A4];exact⟨p,by simpa using hp,rfl⟩)]
 | load t x=>simp only[My,h x (by simp[Op.operands])]
 | store t x y=>simp only[My,h x (by simp[Op.operands]),h y (by simp[Op.operands])]
 | nilCheck x=>simp only[My,h x (by simp[Op.operands])]
 | binOp op t x y u=>simp only[My,h x (by simp[Op.operands]),h y (by simp[Op.operands])]
 | unOp op t x=>simp only[My,h x (by simp[Op.operands])]
 | convert s d x=>simp only[My,h x (by simp[Op.operands])]
 | makeFunc f fi cs =>
  cases f with
  | func f =>
   simp only[My]
   rw[List.map_congr_left (l:=cs.toList) fun x hx=>by rw[h x (by simp only[Op.operands,Array.mem_append];exact .inr (by simpa using hx))]]
  | _=>rfl
 | makeSlice t x y=>simp only[My,h x (by simp[Op.operands]),h y (by simp[Op.operands])]
 | slice t x lo hi mx =>
  cases mx with
  | some m=>rfl
  | none =>
   simp only[My,h x (by simp[Op.operands])]
   have h1:lo.map (fun x=>(raw x).sv)=lo.map (fun x=>(raw' x).sv):=by
    cases lo with
    | none=>rfl
    | some y=>simp only[Ai,h y (by simp[Op.operands])]
   have h2:hi.map (fun x=>(raw x).sv)=hi.map (fun x=>(raw' x).sv):=by
    cases hi with
    | none=>rfl
    | some y=>simp only[Ai,h y (by simp[Op.operands])]
   rw[h1,h2]
 | fieldAddr s x f=>simp only[My,h x (by simp[Op.operands])]
 | indexAddr t x i=>simp only[My,h x (by simp[Op.operands]),h i (by simp[Op.operands])]
 | extract x i=>simp only[My,h x (by simp[Op.operands])]
 | call c =>
  obtain⟨callee,args,ts⟩:=c
  cases callee with
  | value f=>rfl
  | invoke r m=>rfl
  | builtin b =>
   have hs':∀x∈args.toList,raw x=raw' x:=fun x hx=>h x (by simp[Op.operands,Call.operands];simpa using hx)
   simp only[My]
   split
   ·rename_i x t e1 _;rw[hs' x (by rw[e1];simp)]
   ·rename_i d x t t' e1 _;rw[hs' x (by rw[e1];simp),hs' d (by rw[e1];simp)]
   ·rename_i d x t t' e1 _;rw[hs' x (by rw[e1];simp),hs' d (by rw[e1];simp)]
   ·rename_i x t e1 _;rw[hs' x (by rw[e1];simp)]
   ·rename_i x y e1;rw[hs' x (by simp_all),hs' y (by simp_all)]
   ·rename_i x y e1;rw[hs' x (by simp_all),hs' y (by simp_all)]
   ·rename_i x y z e1;rw[hs' x (by simp_all),hs' y (by simp_all),hs' z (by simp_all)]
   rfl
 | _=>rfl
theorem Auk (h:∀x∈op.operands,raw x=raw' x) (hb:P0 raw op):P0 raw' op:=by
 have:=Amx hb
 unfold P0 at hb ⊢
 split<;>first
  | (rw[<- h _ (by simp[Op.operands])];exact hb)
  | (rw[<- h _ (by simp[Op.operands]),<- h _ (by simp[Op.operands])];exact hb)
  | (exact Am.2 fun x hx=>by rw[<- h x (by simpa using hx)];exact this x (by simpa using hx))
theorem Ap0 {g:Gd} {e:AV×List (Nat×Ob)} (hs:∀t∈M7 op g,Ez s.sl t=Ez s'.sl t) (ho:∀id∈Fi op s,s.o id=s'.o id) (h:Uw P op ty s nid e):Uw P op ty s' nid e:=by
 have hraw:=Aud hs
 cases hv:Jw op with
 | true =>
  cases op<;>simp only[Jw,Bl,reduceCtorEq] at hv
  ·rename_i x
   have hx:s.raw x=s'.raw x:=hraw x (by simp[Op.operands])
   obtain⟨h1,rfl⟩:=h
   refine⟨?_,?_⟩
   ·revert h1;simp only[Hk,P0,My,Op.operands];rw[hx];exact id
   simp only[Io,My];rw[hx]
  rename_i x
  have hx:s.raw x=s'.raw x:=hraw x (by simp[Op.operands])
  obtain⟨h1,rfl⟩:=h
  refine⟨?_,?_⟩
  ·revert h1;simp only[Hk,P0,My,Op.operands];rw[hx];exact id
  simp only[Io,My];rw[hx]
 | false =>
 have hids:∀x∈op.operands,∀id∈(s.raw x).ids,s.o id=s'.o id:=fun x hx id hid=>ho id (Aij hv (Af4 (A4.2 ⟨x,by simpa[It] using hx,rfl⟩) hid))
 unfold Uw at h ⊢
 split at h
 ·rename_i fo args ts
  have hx:∀x∈args.toList,s.raw x=s'.raw x:=fun x hx=>hraw x (by simp[Op.operands,Call.operands];exact .inr (by simpa using hx))
  have hf:s.raw fo=s'.raw fo:=hraw fo (by simp[Op.operands,Call.operands])
  have hm:args.toList.map (fun x=>(s.raw x).sv)=args.toList.map (fun x=>(s'.raw x).sv):=List.map_congr_left fun x h=>by rw[hx x h]
  obtain⟨⟨h1,h2⟩,h⟩:=h
  refine⟨⟨by rw[<- hf];exact h1,Am.2 fun x h=>by rw[<- hx x h];exact Am.1 h2 x h⟩,?_⟩
  have hsub:∀(caps:List AV) (f:FuncId),(s.raw fo).sv=.fn f caps->∀id∈G5 (args.toList.map (fun x=>(s.raw x).sv)++caps),id∈G5 ((It (.call ⟨.value fo,args,ts⟩)).map s.raw):=fun caps f h3 id hid=>by
   rw[Am9,A0] at hid
   rcases hid with hid | hid
   ·have:∃x∈args.toList,id∈(s.raw x).ids:=by
     clear h2 h hm hx
     generalize args.toList=l at hid
     induction l with
     | nil=>simp[G5] at hid
     | cons y ys ih =>
      simp only[List.map_cons,G5,A0] at hid
      rcases hid with hid | hid
      ·exact⟨y,by simp,Ajx _ hid⟩
      obtain⟨x,h8,h9⟩:=ih hid
      exact⟨x,by simp[h8],h9⟩
    obtain⟨x,h8,h9⟩:=this
    exact Af4 (A4.2 ⟨x,by simp only[It,Op.operands,Call.operands];simp;exact .inr (by simpa using h8),rfl⟩) h9
   exact Af4 (A4.2 ⟨fo,by simp[It,Op.operands,Call.operands],rfl⟩) (Ajx _ (by rw[h3];exact hid))
  rcases h with⟨f,caps,σr,res,h3,h4,h5,h6,h7⟩ | ⟨f,caps,sel,σr,res,h3,h4,h5⟩
  ·have hl:=Kw (o:=s.o) (o':=s'.o) (args.toList.map (fun x=>(s.raw x).sv)++caps) fun id hid=>ho id (Aij rfl (hsub caps f h3 id hid))
   refine .inl ⟨f,caps,σr,res,by rw[<- hf];exact h3,?_,?_,by rw[<- hm];exact h6,h7⟩
   ·rw[<- hm,<- hl.1];exact h4
   rw[<- hm,<- hl.2];exact h5
  refine .inr ⟨f,caps,sel,σr,res,by rw[<- hf];exact h3,?_,h5⟩
  rw[<- hm]
  refine h4.local fun id hid=>ho id ?_
  have hval:Fi (.call ⟨.value fo,args,ts⟩) s=rdC s.o (G5 ((It (.call ⟨.value fo,args,ts⟩)).map s.raw)):=rfl
  rw[hval]
  simp only[rdC,A0] at hid ⊢
  rcases hid with hid | hid
  ·exact .inl (hsub caps f h3 id hid)
  obtain⟨y,h8,h9⟩:=Aiw hid
  exact .inr (Ang (hsub caps f h3 y h8) h9)
 obtain⟨h1,h2⟩:=h
 by_cases hp:∃c x y,op=.pick c x y
 ·obtain⟨c,x,y,rfl⟩:=hp
  have e1:=hraw c (by simp[Op.operands])
  have e2:=hraw x (by simp[Op.operands])
  have e3:=hraw y (by simp[Op.operands])
  simp only[Hk,Io] at h1 h2 ⊢
  rw[<- e1,<- e2,<- e3]
  exact⟨h1,h2⟩
 rw[Agg fun c x y e=>hp ⟨c,x,y,e⟩] at h1 ⊢
 rw[Agc fun c x y e=>hp ⟨c,x,y,e⟩] at h2 ⊢
 have ev:My P op ty s.raw s.o nid=My P op ty s'.raw s'.o nid:=by rw[Aq2 hids,Awj hraw]
 rw[<- ev]
 exact⟨⟨Auk hraw h1.1,h1.2⟩,h2⟩
end
section
variable {P:Program}
section
variable (st:St) (g:Gd) (d:Option Tmp) (e:AV×List (Nat×Ob))
include st g d e
def St.eff:E1:=match g with
 | .no=>⟨d,e.1,e.2⟩
 | g=>⟨d,.gd (st.gb g) e.1,bif st.gb g then e.2 else []⟩
theorem Agb:st.afterG g d e=E1.ap st (st.eff g d e):=by
 cases g<;>rfl
theorem Ax8:(st.eff g d e).d=d:=by cases g<;>rfl
theorem Ava:∀p∈(st.eff g d e).up,p∈e.2:=by
 intro p hp
 cases g with
 | no=>exact hp
 | bad=>cases hp
 | _ t b =>
  simp only[St.eff] at hp
  cases hb:st.gb (.at t b)<;>rw[hb] at hp
  ·cases hp
  exact hp
end
abbrev Tr:=List (List Nat×List Nat)
def Gn (P:Program):List VO->St->Tr->(Tr->St->Prop)->Prop
 | [],st,tr,K=>K tr st
 | v::os,st,tr,K=>st.gc v.g /\
  if E8 v.op then ∃e:AV×List (Nat×Ob),(st.gb v.g=true->Uw P v.op v.ty st st.ob.length e)/\Gn P os (st.afterG v.g v.d e) ((Fi v.op st,e.2.map (·.1))::tr) K
  else (st.gb v.g=true->Hk P v.op v.ty st st.ob.length)/\Gn P os (st.afterG v.g v.d (Io P v.op v.ty st st.ob.length)) ((Fi v.op st,(Io P v.op v.ty st st.ob.length).2.map (·.1))::tr) K
theorem Aif:∀(l:List VO) (st:St) (tr:Tr) (K:Tr->St->Prop),Gn P l st tr K->∃(f:Nat->E1) (e:Nat->AV×List (Nat×Ob)) (tr':Tr),
 (∀(j:Nat) (v:VO),l[j]? = some v->(Tt st ((List.range j).map f)).gc v.g/\((Tt st ((List.range j).map f)).gb v.g=true->Uw P v.op v.ty (Tt st ((List.range j).map f)) (Tt st ((List.range j).map f)).ob.length (e j)) /\
  f j=(Tt st ((List.range j).map f)).eff v.g v.d (e j)/\tr'.reverse[tr.length+j]? = some (Fi v.op (Tt st ((List.range j).map f)),(e j).2.map (·.1))) /\
  (∃q,tr'=q++tr)/\K tr' (Tt st ((List.range l.length).map f))
 | [],st,tr,K,h=>⟨fun _=>⟨none,.any,[]⟩,fun _=>(.any,[]),tr,fun j v hv=>by simp at hv,⟨[],rfl⟩,h⟩
 | v::os,st,tr,K,h=>by
  obtain⟨hg,h⟩:=h
  have hh:∃e:AV×List (Nat×Ob),(st.gb v.g=true->Uw P v.op v.ty st st.ob.length e)/\Gn P os (st.afterG v.g v.d e) ((Fi v.op st,e.2.map (·.1))::tr) K:=by
   cases hc:E8 v.op with
   | true=>rw[hc,if_pos rfl] at h;exact h
   | false =>
    rw[hc,if_neg (by simp)] at h
    exact⟨_,fun hb=>Aeh hc (h.1 hb),h.2⟩
  obtain⟨e0,h1,h2⟩:=hh
  obtain⟨f,e,tr',h3,⟨q,h4⟩,h5⟩:=Aif os _ _ K h2
  have hap:∀j,Tt st ((List.range (j+1)).map fun i=>match i with | 0=>st.eff v.g v.d e0 | i+1=>f i)=Tt (st.afterG v.g v.d e0) ((List.range j).map f):=fun j=>by
   rw[List.range_succ_eq_map,List.map_cons,List.map_map,Agb]
   rfl
  refine⟨fun i=>match i with | 0=>st.eff v.g v.d e0 | i+1=>f i,fun i=>match i with | 0=>e0 | i+1=>e i,tr',fun j v' hv'=>?_,⟨q++[(Fi v.op st,e0.2.map (·.1))],by rw[h4];simp⟩,?_⟩
  ·cases j with
   | zero =>
    simp only[List.getElem?_cons_zero,Option.some.injEq] at hv'
    subst hv'
    refine⟨hg,h1,rfl,?_⟩
    rw[h4]
    simp only[List.reverse_append,List.reverse_cons,List.append_assoc]
    rw[Ao (by simp)]
    simp[Tt]
   | succ j =>
    simp only[Bb] at hv'
    rw[hap]
    have:=h3 j v' hv'
    refine⟨this.1,this.2.1,this.2.2.1,?_⟩
    have h6:=this.2.2.2
    rw[A6,show tr.length+1+j=tr.length+(j+1) by omega] at h6
    exact h6
  rw[A6,hap];exact h5
def Aad {α:Type} (c:α->α->Bool):List Nat->List (Nat×α)->Nat->List α->Bool
 | _,_,_,[]=>true
 | an,acc,j,y::ys=>(acc.all fun p=>!c p.2 y||(an.headD 0).testBit p.1)&&Aad c an.tail ((j,y)::acc) (j+1) ys
theorem Wq {α:Type} {c:α->α->Bool}:∀(ys:List α) (an:List Nat) (acc:List (Nat×α)) (j:Nat),Aad c an acc j ys=true ->
 (∀(k:Nat) (y:α) (p:Nat×α),ys[k]? = some y->p∈acc->c p.2 y=true->(an.getD k 0).testBit p.1=true) /\
  ∀(i k:Nat) (x y:α),i<k->ys[i]? = some x->ys[k]? = some y->c x y=true->(an.getD k 0).testBit (j+i)=true
 | [],an,acc,j,h=>⟨fun k y p hy=>by simp at hy,fun i k x y _ hx=>by simp at hx⟩
 | z::ys,an,acc,j,h=>by
  simp only[Aad,Ah] at h
  obtain⟨h1,h2⟩:=h
  obtain⟨h3,h4⟩:=Wq ys an.tail ((j,z)::acc) (j+1) h2
  have htl:∀k,an.getD (k+1) 0=an.tail.getD k 0:=fun k=>by cases an<;>simp
  refine⟨fun k y p hy hp hc=>?_,fun i k x y hik hx hy hc=>?_⟩
  ·cases k with
   | zero =>
    simp only[List.getElem?_cons_zero,Option.some.injEq] at hy
    subst hy
    have:=Am.1 h1 p hp
    rw[hc] at this
    simpa[List.headD_eq_head?_getD,Ad,List.head?_eq_getElem?] using this
   | succ k =>
    simp only[Bb] at hy
    rw[htl]
    exact h3 k y p hy (by simp[hp]) hc
  cases k with
  | zero=>omega
  | succ k =>
   simp only[Bb] at hy
   rw[htl]
   cases i with
   | zero =>
    simp only[List.getElem?_cons_zero,Option.some.injEq] at hx
    subst hx
    exact h3 k y (j,z) hy (by simp) hc
   | succ i =>
    simp only[Bb] at hx
    have:=h4 i k x y (by omega) hx hy hc
    rwa[show j+(i+1)=j+1+i by omega]
def Afb (x y:VO):Bool:=(match x.d with | some d=>(M7 y.op y.g).contains d||y.d == some d | none=>false)||(match y.d with | some d=>(M7 x.op x.g).contains d | none=>false)
variable {x y:VO}
theorem Amc {t:Nat} (h:x.d=some t) (h2:t∈M7 y.op y.g\/y.d=some t):Afb x y=true:=by
 unfold Afb
 simp only[h,Bool.or_eq_true]
 rcases h2 with h2 | h2
 ·exact .inl (.inl (by simpa using h2))
 exact .inl (.inr (by rw[h2];simp))
theorem Aty {t:Nat} (h:y.d=some t) (h2:t∈M7 x.op x.g):Afb x y=true:=by
 unfold Afb
 simp only[h,Bool.or_eq_true]
 exact .inr (by simpa using h2)
def ov (a b:List Nat):Bool:=a.any fun x=>b.contains x
theorem Aqi {a b:List Nat} {x:Nat} (ha:x∈a) (hb:x∈b):ov a b=true:=List.any_eq_true.2 ⟨x,ha,by simpa using hb⟩
def Au0 (x y:List Nat×List Nat):Bool:=ov x.2 y.1||ov x.2 y.2||ov x.1 y.2
def back (l:List Oper):Bool:=(l.zipIdx).all fun p=>p.1.after.toList.all fun e=>!Region.binds .any e||decide (e.on<p.2)
def Jc (l:List Oper):Bool:=back l&&Aad Afb (Ady l []) [] 0 (Gc l)
def Rm (l:List Oper) (tr:Tr):Bool:=Aad Au0 (Ady l []) [] 0 tr.reverse
variable {l:List Oper}
theorem Avm (h:back l=true):∀(j:Nat) (o:Oper),l[j]? = some o->∀e∈o.after,Region.binds .any e=true->e.on<j:=fun j o ho e he hb=>by
 have:=Am.1 h (o,j) (by rw[List.mem_zipIdx_iff_getElem?];exact ho)
 have:=Am.1 this e (by simpa using he)
 simpa[hb] using this
def Dn (listed:Array Bool) (i:Nat):Bool:=listed.getD i false
def Atg (v:VO) (rd wr:List Nat):Loc->Prop
 | .s t=>t∈M7 v.op v.g\/v.d=some t
 | .o id=>id∈rd\/id∈wr
variable {ℓ:Loc} {s s':St} {F:Fence} {Q:Exit->Act->World->Prop}
section
variable {E:Gi} {l:List Oper} {st:St} {f:Nat->E1} {e:Nat->AV×List (Nat×Ob)} {tr:Tr}
structure Ak0 (P:Program) (E:Gi) (l:List Oper) (st:St) (f:Nat->E1) (e:Nat->AV×List (Nat×Ob)) (tr:Tr):Prop where
  hd:∀o∈l,∀x,o.dst=some x->x<E.n
  hs:Jc l=true
  hi:Rm l tr=true
  run : ∀ (j : Nat) (v : VO), (Gc l)[j]? = some v -> (Tt st ((List.range j).map f)).gc v.g /\ ((Tt st ((List.range j).map f)).gb v.g = true -> Uw P v.op v.ty (Tt st ((List.range j).map f)) (Tt st ((List.range j).map f)).ob.length (e j)) /\
      f j=(Tt st ((List.range j).map f)).eff v.g v.d (e j)/\tr.reverse[j]? = some (Fi v.op (Tt st ((List.range j).map f)),(e j).2.map (·.1))
theorem Afp (l:List Oper) (j:Nat):(Gc l)[j]? = (l[j]?).map fun o=>⟨o.dst,o.op,o.type,Nl l.toArray o⟩:=by simp[Gc]
theorem Ak0.ord (R:Ak0 P E l st f e tr) {i j:Nat} (hx:(Gc l)[i]? = some x) (hy:(Gc l)[j]? = some y) (hij:i<j) {ℓ:Loc} (h:((f i).wr ℓ=true/\Atg y (Fi y.op (Tt st ((List.range j).map f))) ((e j).2.map (·.1)) ℓ)\/((f j).wr ℓ=true/\Atg x (Fi x.op (Tt st ((List.range i).map f))) ((e i).2.map (·.1)) ℓ)) :
  ((Ady l []).getD j 0).testBit i=true:=by
 obtain⟨_,_,fi,ti⟩:=R.run i x hx
 obtain⟨_,_,fj,tj⟩:=R.run j y hy
 have hsl:=R.hs
 simp only[Jc,Ah] at hsl
 have wd:∀{k:Nat} {v:VO} {t:Nat},f k=(Tt st ((List.range k).map f)).eff v.g v.d (e k)->(f k).wr (.s t)=true->v.d=some t:=fun hk hw=>by
  simp only[E1.wr] at hw
  rw[hk,Ax8] at hw
  simpa using hw
 have wi:∀{k:Nat} {v:VO} {id:Nat},f k=(Tt st ((List.range k).map f)).eff v.g v.d (e k)->(f k).wr (.o id)=true->id∈(e k).2.map (·.1):=fun hk hw=>by
  simp only[E1.wr] at hw
  obtain⟨p,h1,h2⟩:=List.any_eq_true.1 hw
  rw[hk] at h1
  have:=Ava _ _ _ _ p h1
  exact A4.2 ⟨p,this,by simpa using h2⟩
 cases ℓ with
 | s t =>
  have:=(Wq _ _ _ _ hsl.2).2 i j x y hij hx hy (by
   rcases h with⟨h1,h2⟩ | ⟨h1,h2⟩
   ·exact Amc (wd fi h1) h2
   rcases h2 with h2 | h2
   ·exact Aty (wd fj h1) h2
   exact Amc h2 (.inr (wd fj h1)))
  rwa[Bm] at this
 | o id =>
  have:=(Wq _ _ _ _ R.hi).2 i j _ _ hij ti tj (by
   unfold Au0
   rcases h with⟨h1,h2⟩ | ⟨h1,h2⟩
   ·have:=wi fi h1
    rcases h2 with h2 | h2
    ·simp[Aqi this h2]
    simp[Aqi this h2]
   have:=wi fj h1
   rcases h2 with h2 | h2
   ·simp[Aqi h2 this]
   simp[Aqi h2 this])
  rwa[Bm] at this
def Apz (l:List Oper) (D:Nat->Bool):Prop:=∀(j:Nat) (o:Oper),l[j]? = some o->D j=true->∀e∈o.after,Region.binds .any e=true->D e.on=true
theorem Ak0.same (R:Ak0 P E l st f e tr) {D:Nat->Bool} (hc:Apz l D) {j:Nat} {o:Oper} {y:VO} (ho:l[j]? = some o) (hy:(Gc l)[j]? = some y) (hj:D j=false) (hr:∀e∈o.after,Region.binds .any e=true->D e.on=true) {ℓ:Loc}
 (ht:Atg y (Fi y.op (Tt st ((List.range j).map f))) ((e j).2.map (·.1)) ℓ):gt (Tt st (LD l.length f D)) ℓ=gt (Tt st ((List.range j).map f)) ℓ:=by
 have hjl:j<l.length:=(Ab.1 ho).1
 rw[<- Ai1 f st l.length j (by omega)]
 refine Ak3 fun i hi hw=>?_
 have hx:∃ox,l[i]? = some ox:=⟨_,Aa hi⟩
 obtain⟨ox,hox⟩:=hx
 have hx:(Gc l)[i]? = some ⟨ox.dst,ox.op,ox.type,Nl l.toArray ox⟩:=by rw[Afp,hox];rfl
 by_cases hij:i<j
 ·rw[decide_eq_true hij]
  exact Api hc j o ho hr i (R.ord hx hy hij (.inl ⟨hw,ht⟩))
 rw[decide_eq_false hij]
 by_cases he:i=j
 ·rw[he];exact hj
 cases hD:D i with
 | false=>rfl
 | true =>
  have:=Api hc i ox hox (hc i ox hox hD) j (R.ord hy hx (by omega) (.inr ⟨hw,ht⟩))
  rw[hj] at this;cases this
theorem Axg {op:Op} {g:Gd} (h:∀t∈M7 op g,Ez s.sl t=Ez s'.sl t):s.gc g=s'.gc g/\s.gb g=s'.gb g:=by
 cases g with
 | no=>exact⟨rfl,rfl⟩
 | bad=>exact⟨rfl,rfl⟩
 | _ t b=>have:=h t (by simp[M7]);simp only[St.gc,St.gb,this,and_self]
theorem Avb {g:Gd} (h:s.gb g=s'.gb g) (d:Option Tmp) (e:AV×List (Nat×Ob)):s.eff g d e=s'.eff g d e:=by
 cases g with
 | no=>rfl
 | bad=>rfl
 | _ t b=>simp only[St.eff,h]
theorem Ak0.step (R:Ak0 P E l st f e tr) {listed:Array Bool} (hl:listed.size=l.length) (hc:Apz l (Dn listed)) {j:Nat} {o:Oper} (ho:l[j]? = some o) (hj:Dn listed j=false) (hr:∀e∈o.after,Region.binds .any e=true->Dn listed e.on=true) {β:Nat->Option Nat} {a:Act} {w:World} (r:Eo E β (Tt st (LD l.length f (Dn listed))) a w) (hF:FOk E F) {K:Act->World->Prop} (hK:∀β' a' w',Eo E β' (Tt st (LD l.length f (Dn (listed.setIfInBounds j true)))) a' w'->K a' w'):wpOpIn F 0 P l.toArray Q j K a w:=by
 have hjl:j<l.length:=(Ab.1 ho).1
 have hy:(Gc l)[j]? = some ⟨o.dst,o.op,o.type,Nl l.toArray o⟩:=by rw[Afp,ho];rfl
 obtain⟨h1,h2,h3,h4⟩:=R.run j _ hy
 simp only at h1 h2 h3 h4
 have hsl:∀t∈M7 o.op (Nl l.toArray o),Ez (Tt st ((List.range j).map f)).sl t=Ez (Tt st (LD l.length f (Dn listed))).sl t:=fun t ht =>
  congrArg Prod.fst (R.same hc ho hy hj hr (ℓ:=.s t) (.inl ht)).symm
 have hob:∀id,(id∈Fi o.op (Tt st ((List.range j).map f))\/id∈(e j).2.map (·.1))->(Tt st ((List.range j).map f)).o id=(Tt st (LD l.length f (Dn listed))).o id:=fun id ht =>
  congrArg Prod.snd (R.same hc ho hy hj hr (ℓ:=.o id) ht).symm
 obtain⟨g1,g2⟩:=Axg hsl
 have hD':∀i,Dn (listed.setIfInBounds j true) i=if i=j then true else Dn listed i:=fun i=>by
  unfold Dn
  by_cases he:i=j
  ·subst he;rw[if_pos rfl];simp[hl,hjl]
  rw[if_neg he,getD_set_ne false (Ne.symm he)]
 unfold wpOpIn
 have ho':l.toArray[j]? = some o:=by simpa using ho
 simp only[ho']
 refine Ud r (hd:=R.hd o (Ac ho)) (nid:=(Tt st ((List.range j).map f)).ob.length) (hg:=by rw[<- g1];exact h1) (e:=e j) (fun hb p hp hge=>?_) (fun hb=>?_) hF fun β' a' w' r'=>?_
 ·rw[<- hob p.1 (.inr (A4.2 ⟨p,hp,rfl⟩))]
  exact Ha _ _ hge
 ·exact Ap0 hsl (fun id hid=>hob id (.inl hid)) (h2 (by rw[g2];exact hb))
 refine hK β' a' w' (r'.congr fun ℓ=>?_)
 rw[Agb,Avb g2.symm,<- h3,Ax7]
 cases hw:(f j).wr ℓ with
 | true =>
  refine (Axx hjl (by rw[hD',if_pos rfl]) hw fun i hi hDi hwi=>?_).symm
  by_cases he:i=j
  ·omega
  rw[hD',if_neg he] at hDi
  apply Classical.byContradiction
  intro hlt
  have hx:∃ox,l[i]? = some ox:=⟨_,Aa hi⟩
  obtain⟨ox,hox⟩:=hx
  have hx:(Gc l)[i]? = some ⟨ox.dst,ox.op,ox.type,Nl l.toArray ox⟩:=by rw[Afp,hox];rfl
  have:=Api hc i ox hox (hc i ox hox hDi) j (R.ord hy hx (by omega) (.inr ⟨hwi,by
   cases ℓ with
   | s t =>
    refine .inr ?_
    simp only[E1.wr] at hw
    rw[h3,Ax8] at hw
    simpa using hw
   | o id =>
    refine .inr ?_
    simp only[E1.wr] at hw
    obtain⟨p,q1,q2⟩:=List.any_eq_true.1 hw
    rw[h3] at q1
    exact A4.2 ⟨p,Ava _ _ _ _ p q1,by simpa using q2⟩⟩))
  rw[hj] at this;cases this
 | false =>
  refine Ak3 fun i hi hwi=>?_
  rw[hD',if_neg]
  rintro rfl
  rw[hw] at hwi;cases hwi
theorem Ak0.any (R:Ak0 P E l st f e tr) (hF:FOk E F) (hQ:∀β a w,Eo E β (Tt st ((List.range l.length).map f)) a w->Q .normal a w):∀(fuel:Nat) (listed:Array Bool) (a:Act) (w:World) (β:Nat->Option Nat),
 listed.size=l.length->Apz l (Dn listed)->(List.range l.length).countP (fun i=>!Dn listed i)<=fuel->Eo E β (Tt st (LD l.length f (Dn listed))) a w->wpAnyIn F 0 P .any l.toArray Q fuel listed a w:=by
 have hend:∀(listed:Array Bool) (a:Act) (w:World) (β:Nat->Option Nat),(∀i,i<l.length->Dn listed i=true)->Eo E β (Tt st (LD l.length f (Dn listed))) a w->Q .normal a w:=fun listed a w β hall r =>
  hQ β a w (r.congr fun ℓ=>by
   rw[<- Ai1 f st l.length l.length (Aj _)]
   exact Ak3 fun i hi _=>by rw[hall i hi,decide_eq_true hi])
 have hsl:=R.hs
 simp only[Jc,Ah] at hsl
 have hback:=Avm hsl.1
 have hnone:∀(listed:Array Bool),listed.size=l.length->Region.ready .any l.toArray listed=[]->∀i,i<l.length->Dn listed i=true:=fun listed hsz hre i=>by
  induction i using Nat.strongRecOn with
  | _ i ih =>
   intro hi
   cases hD:Dn listed i with
   | true=>rfl
   | false =>
    have:i∈Region.ready .any l.toArray listed:=by
     rw[mem_ready]
     refine⟨?_,l[i],by simp[hi],fun e' he' hb=>?_⟩
     ·have hD':listed.getD i false=false:=hD
      simp only[Array.getD,hsz,hi,dif_pos] at hD' ⊢
      exact hD'
     have:=hback i _ (Aa hi) e' he' hb
     exact ih e'.on this (by omega)
    rw[hre] at this;cases this
 intro fuel
 induction fuel with
 | zero =>
  intro listed a w β hsz hc hcnt r
  have hall:∀i,i<l.length->Dn listed i=true:=fun i hi=>by
   have h0:(List.range l.length).countP (fun i=>!Dn listed i)=0:=by omega
   have:=List.countP_eq_zero.1 h0 i (List.mem_range.2 hi)
   simpa using this
  refine⟨?_,hend listed a w β hall r⟩
  rw[List.eq_nil_iff_forall_not_mem]
  intro j hj
  obtain⟨h1,o,ho,_⟩:=mem_ready.1 hj
  have hjl:j<l.length:=by
   have:=(Aw.1 ho).1
   simpa using this
  have:=hall j hjl
  unfold Dn at this
  simp only[Array.getD,hsz,hjl,dif_pos] at this h1
  rw[this] at h1;cases h1
 | succ fuel ih =>
  intro listed a w β hsz hc hcnt r
  refine⟨fun hre=>hend listed a w β (hnone listed hsz hre) r,fun j hj=>?_⟩
  obtain⟨h1,o,ho,hall⟩:=mem_ready.1 hj
  have ho':l[j]? = some o:=by simpa using ho
  have hjl:j<l.length:=(Ab.1 ho').1
  have hDj:Dn listed j=false:=by
   unfold Dn
   simp only[Array.getD,hsz,hjl,dif_pos] at h1 ⊢
   exact h1
  refine R.step hsz hc ho' hDj hall r hF fun β' a' w' r'=>ih _ a' w' β' (by simp[hsz]) ?_ ?_ r'
  ·intro k ok hok hk e' he' hb
   by_cases hkj:k=j
   ·subst hkj
    rw[ho'] at hok
    cases hok
    exact getD_set_true (hall e' he' hb)
   refine getD_set_true (hc k ok hok ?_ e' he' hb)
   unfold Dn at hk ⊢
   rwa[getD_set_ne false (Ne.symm hkj)] at hk
  have hlt:(List.range l.length).countP (fun i=>!Dn (listed.setIfInBounds j true) i)<(List.range l.length).countP (fun i=>!Dn listed i):=by
   have hle:∀(L:List Nat),L.countP (fun i=>!Dn (listed.setIfInBounds j true) i)<=L.countP (fun i=>!Dn listed i)/\(j∈L->L.countP (fun i=>!Dn (listed.setIfInBounds j true) i)<L.countP (fun i=>!Dn listed i)):=fun L=>by
    induction L with
    | nil=>simp
    | cons x L ihL =>
     rw[List.countP_cons,List.countP_cons]
     by_cases hx:x=j
     ·subst hx
      have e1:Dn (listed.setIfInBounds x true) x=true:=by unfold Dn;simp[hsz,hjl]
      rw[e1,hDj]
      simp
      omega
     have e1:Dn (listed.setIfInBounds j true) x=Dn listed x:=by unfold Dn;exact getD_set_ne false (Ne.symm hx)
     rw[e1]
     refine⟨by omega,fun hm=>?_⟩
     have:=ihL.2 (by simpa[Ne.symm hx] using hm)
     omega
   exact (hle _).2 (List.mem_range.2 hjl)
  omega
end
variable {n m:Nat} {K:Exit->St->Prop}
theorem VW.draw1 {st:St} {id:Nat} (hm:P.follows .mixedOrders=true) (hd:Ft n l=true) (hs:Jc l=true) (h:∀K1:Tr->St->Prop,(∀tr s,Rm l tr=true->K .normal s->K1 tr s)->Gn P (Gc l) st [] K1):VW P n m (.region id l.toArray true) st K:=by
 refine fun E F hE hF β a w r=>?_
 obtain⟨f,e,tr,h1,_,hi,h2⟩:=Aif _ _ _ _ (h (fun tr s=>Rm l tr=true/\K .normal s) fun tr s h1 h2=>⟨h1,h2⟩)
 have R:Ak0 P E l st f e tr:=⟨fun o ho x hx=>by rw[hE.1];exact Oo hd o ho x hx,hs,hi,fun j v hv=>by
  obtain⟨q1,q2,q3,q4⟩:=h1 j v hv
  exact⟨q1,q2,q3,by simpa using q4⟩⟩
 rw[show (Gc l).length=l.length by simp[Gc]] at h2
 refine wpIn_region_any hm ?_
 have h0:∀i,Dn (Array.replicate l.toArray.size false) i=false:=fun i=>by
  unfold Dn
  rw[Av]
  cases hq:(Array.replicate l.toArray.size false)[i]? with
  | none=>rfl
  | some b =>
   have:=Aw.1 hq
   obtain⟨_,q⟩:=this
   simpa using q.symm
 refine R.any hF (fun β' a' w' r'=>⟨E,_,β',Hj.refl E,h2,r'⟩) _ _ a _ β (by simp) (fun j o ho hD=>by rw[h0] at hD;cases hD) ?_ ?_
 ·refine Ak List.countP_le_length ?_
  simp
 have:LD l.length f (Dn (Array.replicate l.toArray.size false))=[]:=by
  unfold LD
  rw[List.map_eq_nil_iff,List.filter_eq_nil_iff]
  intro i _
  rw[h0];simp
 rw[this]
 exact r.drew _
theorem VW.draw_seq {st:St} {id:Nat} {y:Code} (hm:P.follows .mixedOrders=true) (hd:Ft n l=true) (hs:Jc l=true) (h:∀K1:Tr->St->Prop,(∀tr s,Rm l tr=true->VW P n m y s K->K1 tr s)->Gn P (Gc l) st [] K1):VW P n m (.seq (.region id l.toArray true) y) st K:=.seq (.draw1 hm hd hs h)
end
section
variable {P:Program} {d:Option Tmp} {ty:TypeId} {os:List VO} {st:St} {K:Tr->St->Prop} {tr:Tr}
theorem Arg:Gn P [] st tr K=K tr st:=rfl
def Aon (P:Program) (d:Option Tmp) (op:Op) (ty:TypeId) (v:AV) (want:Bool) (os:List VO) (st:St) (tr:Tr) (K:Tr->St->Prop):Prop :=
 Hw v.sv=true/\((v.sb&&(Fe v.sv == want))=true->Hk P op ty st st.ob.length) /\
  Gn P os (st.after d (.gd (v.sb&&(Fe v.sv == want)) (Io P op ty st st.ob.length).1) (bif (v.sb&&(Fe v.sv == want)) then (Io P op ty st st.ob.length).2 else [])) ((Fi op st,(Io P op ty st st.ob.length).2.map (·.1))::tr) K
def Apx (P:Program) (d:Option Tmp) (op:Op) (ty:TypeId) (os:List VO) (st:St) (tr:Tr) (K:Tr->St->Prop):Prop :=
 ∃e:AV×List (Nat×Ob),Uw P op ty st st.ob.length e/\Gn P os (st.after d e.1 e.2) ((Fi op st,e.2.map (·.1))::tr) K
def Ak2 (P:Program) (d:Option Tmp) (op:Op) (ty:TypeId) (v:AV) (want:Bool) (os:List VO) (st:St) (tr:Tr) (K:Tr->St->Prop):Prop :=
 Hw v.sv=true/\∃e:AV×List (Nat×Ob),((v.sb&&(Fe v.sv == want))=true->Uw P op ty st st.ob.length e)/\Gn P os (st.after d (.gd (v.sb&&(Fe v.sv == want)) e.1) (bif (v.sb&&(Fe v.sv == want)) then e.2 else [])) ((Fi op st,e.2.map (·.1))::tr) K
theorem At0 {op:Op}:Gn P (⟨d,op,ty,.no⟩::os) st tr K=if E8 op=true then Apx P d op ty os st tr K else (Hk P op ty st st.ob.length/\Gn P os (st.after d (Io P op ty st st.ob.length).1 (Io P op ty st st.ob.length).2) ((Fi op st,(Io P op ty st st.ob.length).2.map (·.1))::tr) K):=by
 simp only[Gn,St.gc,St.gb,St.afterG,true_and,forall_const,Apx]
theorem At1 {op:Op} {t:Tmp} {want:Bool}:Gn P (⟨d,op,ty,.at t want⟩::os) st tr K=if E8 op=true then Ak2 P d op ty (Ez st.sl t) want os st tr K else Aon P d op ty (Ez st.sl t) want os st tr K:=by
 simp only[Gn,St.gc,St.gb,St.afterG,Aon,Ak2]
 split<;>simp only[and_true,true_and]
variable {ps:List (Nat×Operand)} {xs:List Operand} {ts:Array TypeId}
section
variable {nid:Nat} {x y z c a b:Operand} {t u:TypeId}
theorem Awz:Fi (.move x) st=[]:=rfl
theorem Arl:Fi (.assign x) st=[]:=rfl
theorem Auc:Fi (.alloc t) st=[]:=by simp[Fi,Jw,F0,It,Op.operands,G5]
theorem Ayn:Fi (.box t x) st=(st.raw x).ids:=by simp[Fi,Jw,F0,It,Op.operands,G5]
theorem Aw0:Fi (.load t x) st=(st.raw x).ids:=by simp[Fi,Jw,F0,It,Op.operands,G5]
theorem At8:Fi (.store t x y) st=(st.raw x).ids++(st.raw y).ids:=by simp[Fi,Jw,F0,It,Op.operands,G5]
theorem Amh:Fi (.nilCheck x) st=(st.raw x).ids:=by simp[Fi,Jw,F0,It,Op.operands,G5]
theorem Aub {op:BinOp}:Fi (.binOp op t x y u) st=(st.raw x).ids++(st.raw y).ids:=by simp[Fi,Jw,F0,It,Op.operands,G5]
theorem Awx {op:UnOp}:Fi (.unOp op t x) st=(st.raw x).ids:=by simp[Fi,Jw,F0,It,Op.operands,G5]
theorem Aou:Fi (.convert t u x) st=(st.raw x).ids:=by simp[Fi,Jw,F0,It,Op.operands,G5]
theorem Aj5 {f:Nat}:Fi (.fieldAddr t x f) st=(st.raw x).ids:=by simp[Fi,Jw,F0,It,Op.operands,G5]
theorem Aj4:Fi (.indexAddr t x y) st=(st.raw x).ids++(st.raw y).ids:=by simp[Fi,Jw,F0,It,Op.operands,G5]
theorem Aot {i:Nat}:Fi (.extract x i) st=(st.raw x).ids:=by simp[Fi,Jw,F0,It,Op.operands,G5]
theorem Awy:Fi (.pick c a b) st=(st.raw c).ids++((st.raw a).ids++(st.raw b).ids):=by simp[Fi,Jw,F0,It,Op.operands,G5]
theorem Aua:Fi (.build t ps.toArray) st=G5 (ps.map fun p=>st.raw p.2):=by simp[Fi,Jw,F0,It,Op.operands,Function.comp_def]
theorem Ahg {n:Nat}:Fi (.buildSlice t n ps.toArray) st=G5 (ps.map fun p=>st.raw p.2):=by simp[Fi,Jw,F0,It,Op.operands,Function.comp_def]
theorem Ami {f:FuncId} {cs:List Operand}:Fi (.makeFunc (.func f) #[] cs.toArray) st=G5 (cs.map st.raw):=by simp[Fi,Jw,F0,It,Op.operands]
theorem Aj3:Fi (.makeSlice t x y) st=(st.raw x).ids++(st.raw y).ids:=by simp[Fi,Jw,F0,It,Op.operands,G5]
theorem Aos:Fi (.slice t x none none none) st=(st.raw x).ids:=by simp[Fi,Jw,F0,It,Op.operands,G5]
theorem Aoq:Fi (.slice t x (some y) none none) st=(st.raw x).ids++(st.raw y).ids:=by simp[Fi,Jw,F0,It,Op.operands,G5]
theorem Aor:Fi (.slice t x none (some y) none) st=(st.raw x).ids++(st.raw y).ids:=by simp[Fi,Jw,F0,It,Op.operands,G5]
theorem Aop:Fi (.slice t x (some y) (some z) none) st=(st.raw x).ids++((st.raw y).ids++(st.raw z).ids):=by simp[Fi,Jw,F0,It,Op.operands,G5]
theorem At9 {f:Builtin}:Fi (.call ⟨.builtin f,xs.toArray,ts⟩) st=G5 (xs.map st.raw):=by simp[Fi,Jw,F0,It,Op.operands,Call.operands]
theorem Aw1 {fo:Operand}:Fi (.call ⟨.value fo,xs.toArray,ts⟩) st=rdC st.o ((st.raw fo).ids++G5 (xs.map st.raw)):=by simp[Fi,Jw,F0,It,Op.operands,Call.operands,G5]
end
attribute [go_sem] Arg At0 At1 Aon Awz Arl Auc Ayn Aw0 At8 Amh Aub Awx Aou Aj5 Aj4 Aot Awy Aua Ahg Ami Aj3 Aos Aoq Aor Aop At9 Aw1 AV.ids G5 rdC Wv obI
end
section
variable {P:Program}
theorem K4:∀(l:List VO) (st:St) {K K':St->Prop},(∀s,K s->K' s)->runs P l st K->runs P l st K'
 | [],st,K,K',h,hr=>h _ hr
 | v::os,st,K,K',h,hr=>by
  obtain⟨hg,hr⟩:=hr
  refine⟨hg,?_⟩
  cases hc:E8 v.op with
  | true =>
   rw[hc,if_pos rfl] at hr
   rw[if_pos rfl]
   obtain⟨e,h1,h2⟩:=hr
   exact⟨e,h1,K4 os _ h h2⟩
  | false =>
   rw[hc,if_neg (by simp)] at hr
   rw[if_neg (by simp)]
   exact⟨hr.1,K4 os _ h hr.2⟩
theorem Qb:∀(l:List VO) (st:St) {K:St->Prop},runs P l st K->∃s,runs P l st (fun s'=>s'=s)/\K s
 | [],st,K,hr=>⟨st,rfl,hr⟩
 | v::os,st,K,hr=>by
  obtain⟨hg,hr⟩:=hr
  cases hc:E8 v.op with
  | true =>
   rw[hc,if_pos rfl] at hr
   obtain⟨e,h1,h2⟩:=hr
   obtain⟨s,h3,h4⟩:=Qb os _ h2
   exact⟨s,⟨hg,by rw[hc,if_pos rfl];exact⟨e,h1,h3⟩⟩,h4⟩
  | false =>
   rw[hc,if_neg (by simp)] at hr
   obtain⟨s,h3,h4⟩:=Qb os _ hr.2
   exact⟨s,⟨hg,by rw[hc,if_neg (by simp)];exact⟨hr.1,h3⟩⟩,h4⟩
theorem Ue:∀(l:List VO) (st:St) (tr:Tr) {K K':Tr->St->Prop},(∀t s,K t s->K' t s)->Gn P l st tr K->Gn P l st tr K'
 | [],st,tr,K,K',h,hr=>h _ _ hr
 | v::os,st,tr,K,K',h,hr=>by
  obtain⟨hg,hr⟩:=hr
  refine⟨hg,?_⟩
  cases hc:E8 v.op with
  | true =>
   rw[hc,if_pos rfl] at hr
   rw[if_pos rfl]
   obtain⟨e,h1,h2⟩:=hr
   exact⟨e,h1,Ue os _ _ h h2⟩
  | false =>
   rw[hc,if_neg (by simp)] at hr
   rw[if_neg (by simp)]
   exact⟨hr.1,Ue os _ _ h hr.2⟩
theorem Zz:∀(l:List VO) (st:St) (tr:Tr) {K:Tr->St->Prop},Gn P l st tr K->∃t s,Gn P l st tr (fun t' s'=>t'=t/\s'=s)/\K t s
 | [],st,tr,K,hr=>⟨tr,st,⟨rfl,rfl⟩,hr⟩
 | v::os,st,tr,K,hr=>by
  obtain⟨hg,hr⟩:=hr
  cases hc:E8 v.op with
  | true =>
   rw[hc,if_pos rfl] at hr
   obtain⟨e,h1,h2⟩:=hr
   obtain⟨t,s,h3,h4⟩:=Zz os _ _ h2
   exact⟨t,s,⟨hg,by rw[hc,if_pos rfl];exact⟨e,h1,h3⟩⟩,h4⟩
  | false =>
   rw[hc,if_neg (by simp)] at hr
   obtain⟨t,s,h3,h4⟩:=Zz os _ _ hr.2
   exact⟨t,s,⟨hg,by rw[hc,if_neg (by simp)];exact⟨hr.1,h3⟩⟩,h4⟩
def VX (P:Program) (n m:Nat) (c:Code) (st:St) (K:Exit->St->Prop):Prop:=∃e s,VW P n m c st (fun e' s'=>e'=e/\s'=s)/\K e s
def Anq (m:Nat) (s:St) (C:St->Prop):Prop:=∃sel s',Ahw s sel s'/\(∀id,id<m->sel[id]? = some id)/\C s'
variable {c:Code} {x y:Code} {id:Nat} {l:List Oper}
section
variable {n m:Nat} {st:St} {K K':Exit->St->Prop}
theorem VX.mono (h:VX P n m c st K) (hk:∀e s,K e s->K' e s):VX P n m c st K':=by
 obtain⟨e,s,h1,h2⟩:=h
 exact⟨e,s,h1,hk e s h2⟩
theorem VX.seq (h:VX P n m x st (Exit.vthen (fun s=>VX P n m y s K) K)):VX P n m (.seq x y) st K:=by
 obtain⟨e,s,h1,h2⟩:=h
 cases e with
 | normal =>
  obtain⟨e2,s2,h3,h4⟩:=h2
  refine⟨e2,s2,.seq (h1.mono ?_),h4⟩
  rintro e' s' ⟨rfl,rfl⟩
  exact h3
 | _ =>
  refine⟨_,s,.seq (h1.mono ?_),h2⟩
  rintro e' s' ⟨rfl,rfl⟩
  exact⟨rfl,rfl⟩
abbrev Ca:=@VX.seq
theorem VX.skip (h:K .normal st):VX P n m .skip st K:=⟨_,_,.skip ⟨rfl,rfl⟩,h⟩
abbrev Bp:=@VX.skip
theorem VX.label {l:Nat} (h:K .normal st):VX P n m (.label l) st K:=⟨_,_,.label ⟨rfl,rfl⟩,h⟩
theorem VX.exit (h:K (.exit id) st):VX P n m (.exit id) st K:=⟨_,_,.exit ⟨rfl,rfl⟩,h⟩
abbrev Bt:=@VX.exit
theorem VX.goto {l:Nat} (h:K (.goto l) st):VX P n m (.goto l) st K:=⟨_,_,.goto ⟨rfl,rfl⟩,h⟩
theorem VX.ret (h:K .ret st):VX P n m .ret st K:=⟨_,_,.ret ⟨rfl,rfl⟩,h⟩
abbrev Bz:=@VX.ret
theorem VX.cond {c:Operand} (hb:Hw (st.raw c).sv=true) (hs:(st.raw c).sb=true) (ht:Fe (st.raw c).sv=true->VX P n m x st K) (hf:Fe (st.raw c).sv=false->VX P n m y st K):VX P n m (.cond c x y) st K:=by
 cases hv:Fe (st.raw c).sv with
 | true =>
  obtain⟨e,s,h1,h2⟩:=ht hv
  exact⟨e,s,.cond hb hs (fun _=>h1) (fun h=>by rw[hv] at h;cases h),h2⟩
 | false =>
  obtain⟨e,s,h1,h2⟩:=hf hv
  exact⟨e,s,.cond hb hs (fun h=>by rw[hv] at h;cases h) (fun _=>h1),h2⟩
theorem VX.block (h:VX P n m c st (Exit.vblock id K)):VX P n m (.block id c) st K:=by
 obtain⟨e,s,h1,h2⟩:=h
 cases e with
 | exit id' =>
  unfold Exit.vblock at h2
  simp only at h2
  split at h2
  ·rename_i e
   refine⟨.normal,s,.block (h1.mono ?_),h2⟩
   rintro e' s' ⟨rfl,rfl⟩
   unfold Exit.vblock
   simp only
   rw[if_pos e]
   exact⟨trivial,trivial⟩
  rename_i e
  refine⟨.exit id',s,.block (h1.mono ?_),h2⟩
  rintro e' s' ⟨rfl,rfl⟩
  unfold Exit.vblock
  simp only
  rw[if_neg e]
  exact⟨trivial,trivial⟩
 | _ =>
  refine⟨_,s,.block (h1.mono ?_),h2⟩
  rintro e' s' ⟨rfl,rfl⟩
  exact⟨rfl,rfl⟩
abbrev Db:=@VX.block
theorem VX.weak {sel:List Nat} {st':St} (h:Ahw st sel st') (hm:∀id,id<m->sel[id]? = some id) (hv:VX P n m c st' K):VX P n m c st K:=by
 obtain⟨e,s,h1,h2⟩:=hv
 exact⟨e,s,.weak h hm h1,h2⟩
theorem VX.wk {C:St->Prop} (h:Anq m st C) (hv:∀s,C s->VX P n m c s K):VX P n m c st K:=by
 obtain⟨sel,s,h1,h2,h3⟩:=h
 exact .weak h1 h2 (hv s h3)
theorem VX.cut (C:St->Prop) (h:VX P n m x st (Exit.vthen (fun s=>Anq m s C) K)) (hy:∀s,C s->VX P n m y s K):VX P n m (.seq x y) st K :=
 .seq (h.mono fun e s=>by
  cases e with
  | normal=>exact fun h=>.wk h hy
  | _=>exact fun h=>h)
abbrev Do:=@VX.cut
theorem VX.loop (I:Nat->St->Prop) (z:Nat) (h0:I z st) (round:∀z s,I z s->VX P n m c s (Exit.vthen (fun s'=>∃z',z'<z/\I z' s') K)):VX P n m (.loop c) st K:=by
 have key:∀(z:Nat) (st:St),I z st->∃e s Z,∃J:Nat->St->Prop,K e s/\J Z st/\∀z' s',J z' s'->z'<=Z/\VW P n m c s' (Exit.vthen (fun s''=>∃z'',z''<z'/\J z'' s'') fun e' s'=>e'=e/\s'=s):=by
  intro z
  induction z using Nat.strongRecOn with
  | _ z ih =>
   intro st hst
   obtain⟨e1,s1,h1,h2⟩:=round z st hst
   have other:K e1 s1->e1≠.normal->∃e s Z,∃J:Nat->St->Prop,K e s/\J Z st/\∀z' s',J z' s'->z'<=Z/\VW P n m c s' (Exit.vthen (fun s''=>∃z'',z''<z'/\J z'' s'') fun e' s'=>e'=e/\s'=s):=fun hK hne=>by
    refine⟨e1,s1,0,fun z' s'=>z'=0/\s'=st,hK,⟨rfl,rfl⟩,?_⟩
    rintro z' s' ⟨rfl,rfl⟩
    refine⟨Aj _,h1.mono ?_⟩
    rintro e' s' ⟨rfl,rfl⟩
    cases e' with
    | normal=>exact absurd rfl hne
    | _=>exact⟨rfl,rfl⟩
   cases e1 with
   | normal =>
    obtain⟨z1,hlt,h3⟩:=h2
    obtain⟨e,s,Z,J,g1,g2,g3⟩:=ih z1 hlt s1 h3
    refine⟨e,s,Z+1,fun z' s'=>J z' s'\/(z'=Z+1/\s'=st),g1,.inr ⟨rfl,rfl⟩,?_⟩
    rintro z' s' (h | ⟨rfl,rfl⟩)
    ·obtain⟨q1,q2⟩:=g3 z' s' h
     refine⟨by omega,q2.mono fun e' s'=>?_⟩
     cases e' with
     | normal=>exact fun⟨z'',a,b⟩=>⟨z'',a,.inl b⟩
     | _=>exact fun h=>h
    refine⟨Aj _,h1.mono ?_⟩
    rintro e' s' ⟨rfl,rfl⟩
    exact⟨Z,Nat.lt_succ_self _,.inl g2⟩
   | _=>exact other h2 (by simp)
 obtain⟨e,s,Z,J,h1,h2,h3⟩:=key z st h0
 exact⟨e,s,.loop J Z h2 fun z' s' h=>(h3 z' s' h).2,h1⟩
theorem VX.loop_w (I:Nat->St->Prop) (h0:∃z,Anq m st (I z)) (round:∀z s,I z s->VX P n m c s (Exit.vthen (fun s'=>∃z',z'<z/\Anq m s' (I z')) K)):VX P n m (.loop c) st K:=by
 obtain⟨z,h0⟩:=h0
 exact .loop (fun z s=>Anq m s (I z)) z h0 fun z s h=>.wk h fun s' hs'=>round z s' hs'
theorem VX.region_seq {y:Code} (hd:Ft n l=true) (h:∀K1:St->Prop,(∀s,VX P n m y s K->K1 s)->runs P (Gc l) st K1):VX P n m (.seq (.region id l.toArray false) y) st K:=by
 obtain⟨s,h1,e,s2,h2,h3⟩:=Qb _ _ (h _ fun _ h=>h)
 refine⟨e,s2,.region_seq hd fun K1 hK1=>K4 _ _ ?_ h1,h3⟩
 rintro s' rfl
 exact hK1 _ h2
abbrev B4:=@VX.region_seq
theorem VX.region (hd:Ft n l=true) (h:∀K1:St->Prop,(∀s,K .normal s->K1 s)->runs P (Gc l) st K1):VX P n m (.region id l.toArray false) st K:=by
 obtain⟨s,h1,h2⟩:=Qb _ _ (h _ fun _ h=>h)
 refine⟨.normal,s,.region hd (K4 _ _ ?_ h1),h2⟩
 rintro s' rfl
 exact⟨rfl,rfl⟩
theorem VX.draw1 (hm:P.follows .mixedOrders=true) (hd:Ft n l=true) (hs:Jc l=true) (h:∀K1:Tr->St->Prop,(∀tr s,Rm l tr=true->K .normal s->K1 tr s)->Gn P (Gc l) st [] K1):VX P n m (.region id l.toArray true) st K:=by
 obtain⟨tr,s,h1,hi,h2⟩:=Zz _ _ _ (h (fun tr s=>Rm l tr=true/\K .normal s) fun _ _ h1 h2=>⟨h1,h2⟩)
 refine⟨.normal,s,.draw1 hm hd hs fun K1 hK1=>Ue _ _ _ ?_ h1,h2⟩
 rintro t' s' ⟨rfl,rfl⟩
 exact hK1 _ _ hi ⟨rfl,rfl⟩
theorem VX.draw_seq {y:Code} (hm:P.follows .mixedOrders=true) (hd:Ft n l=true) (hs:Jc l=true) (h:∀K1:Tr->St->Prop,(∀tr s,Rm l tr=true->VX P n m y s K->K1 tr s)->Gn P (Gc l) st [] K1):VX P n m (.seq (.region id l.toArray true) y) st K:=by
 obtain⟨tr,s,h1,hi,e,s2,h2,h3⟩:=Zz _ _ _ (h (fun tr s=>Rm l tr=true/\VX P n m y s K) fun _ _ h1 h2=>⟨h1,h2⟩)
 refine⟨e,s2,.draw_seq hm hd hs fun K1 hK1=>Ue _ _ _ ?_ h1,h3⟩
 rintro t' s' ⟨rfl,rfl⟩
 exact hK1 _ _ hi h2
abbrev Dc:=@VX.draw_seq
end
mutual
def AV.melt (o:Nat->Ob):AV->AV
 | .own id n=>match o id with | .row _ k fr true es=>if n=es.length then .imm fr k es else .own id n | _=>.own id n
 | .agg cs=>.agg (R2 o cs)
 | .tup cs=>.tup (R2 o cs)
 | .fn f cs=>.fn f (R2 o cs)
 | .any=>.any
 | .lit v=>.lit v
 | .nil k=>.nil k
 | .imm fr k es=>.imm fr k es
 | .sub id n lo m=>match o id with | .row _ k fr true es=>if n=es.length then .imm fr k ((es.drop lo).take m) else .sub id n lo m | _=>.sub id n lo m
 | .ptr id off=>.ptr id off
 | .rptr id n i off=>.rptr id n i off
 | .bsl id n=>.bsl id n
 | .iptr fr cs off=>.iptr fr cs off
 | .gd t v=>.gd t (v.melt o)
def R2 (o:Nat->Ob):List AV->List AV
 | []=>[]
 | c::cs=>c.melt o::R2 o cs
end
theorem Qj (o:Nat->Ob):∀(cs:List AV) (i:Nat),(R2 o cs)[i]? = (cs[i]?).map (AV.melt o)
 | [],i=>by simp[R2]
 | c::cs,0=>by simp[R2]
 | c::cs,i+1=>by simp[R2,Qj o cs i]
theorem Nj (o:Nat->Ob):∀(cs:List AV),(R2 o cs).length=cs.length
 | []=>rfl
 | c::cs=>by simp[R2,Nj o cs]
variable {β:Nat->Option Nat} {w:World}
theorem Ea.melt {E:Gi} {st:St} {a:Act} (r:Eo E β st a w) {c:AV} {u:Value} (h:Ea (E.C β st w) c u):Ea (E.C β st w) (c.melt st.o) u:=by
 induction h with
 | own id n u h =>
  unfold AV.melt
  split
  ·rename_i ty k fr es ho
   split
   ·rename_i hn
    exact .imm _ _ _ _ (r.frozen ho h hn)
   exact .own _ _ _ h
  exact .own _ _ _ h
 | any u=>exact .any u
 | lit v=>exact .lit v
 | nil k A=>exact .nil k A
 | imm fr k es u h=>exact .imm fr k es u h
 | sub id n lo m u h =>
  unfold AV.melt
  split
  ·rename_i ty k fr es ho
   split
   ·rename_i hn
    exact .imm _ _ _ _ (r.frozenS ho h hn)
   exact .sub _ _ _ _ _ h
  exact .sub _ _ _ _ _ h
 | ptr id off u h=>exact .ptr _ _ _ h
 | rptr id n i off u h=>exact .rptr _ _ _ _ _ h
 | bsl id n u h=>exact .bsl _ _ _ h
 | iptr fr cs off b o cur ty fz us h1 h2 h3=>exact .iptr fr cs off b o cur ty fz us h1 h2 h3
 | agg cs us h1 h2 ih =>
  refine .agg _ _ (by rw[Nj];exact h1) fun i c u hc' hu=>?_
  rw[Qj] at hc'
  cases hx:cs[i]? with
  | none=>rw[hx] at hc';cases hc'
  | some x =>
   rw[hx] at hc'
   simp only[Ai,Option.some.injEq] at hc'
   subst hc'
   exact ih i x u hx hu
 | tup cs us h1 h2 ih =>
  refine .tup _ _ (by rw[Nj];exact h1) fun i c u hc' hu=>?_
  rw[Qj] at hc'
  cases hx:cs[i]? with
  | none=>rw[hx] at hc';cases hc'
  | some x =>
   rw[hx] at hc'
   simp only[Ai,Option.some.injEq] at hc'
   subst hc'
   exact ih i x u hx hu
 | fn f cs us h1 h2 ih =>
  refine .fn f _ _ (by rw[Nj];exact h1) fun i c u hc' hu=>?_
  rw[Qj] at hc'
  cases hx:cs[i]? with
  | none=>rw[hx] at hc';cases hc'
  | some x =>
   rw[hx] at hc'
   simp only[Ai,Option.some.injEq] at hc'
   subst hc'
   exact ih i x u hx hu
 | gd t v u h1 h2 ih=>exact .gd t _ u ih h2
def Ob.melt (o:Nat->Ob):Ob->Ob
 | .box ty cs=>.box ty (R2 o cs)
 | x=>x
def Acq (o:Nat->Ob):List (Nat×AV)->List (Nat×AV)
 | []=>[]
 | p::l=>(p.1,p.2.melt o)::Acq o l
theorem Afw (o:Nat->Ob):∀(l:List (Nat×AV)) (t:Nat),Ez (Acq o l) t=(Ez l t).melt o
 | [],t=>rfl
 | p::l,t=>by
  simp only[Acq,Ez]
  cases p.1 == t
  ·exact Afw o l t
  rfl
def Acr (o:Nat->Ob):List Ob->List Ob
 | []=>[]
 | x::l=>x.melt o::Acr o l
theorem Ail (o:Nat->Ob):∀(l:List Ob) (i:Nat),(Acr o l).getD i .gone=(l.getD i .gone).melt o
 | [],i=>by simp[Acr,Ob.melt]
 | x::l,0=>by simp[Acr]
 | x::l,i+1=>by have:=Ail o l i;simp[Acr] at this ⊢;exact this
def St.melt (st:St):St:=⟨Acq st.o st.sl,Acr st.o st.ob⟩
theorem Eo.melt {E:Gi} {st:St} {a:Act} (r:Eo E β st a w):Eo E β st.melt a w:=by
 have ho:∀i,st.melt.o i=(st.o i).melt st.o:=fun i=>Ail _ _ _
 have hg:∀i,st.melt.o i≠.gone->st.o i≠.gone:=fun i h e=>h (by rw[ho,e];rfl)
 have s:Nu (E.C β st w) (E.C β st.melt w):=by
  refine⟨rfl,fun _ h=>h,fun _ h=>h,fun _ h=>h,Aj _,?_,fun _ _ _=>rfl,?_,?_⟩
  ·rintro b hb ⟨i,h1,h2⟩
   refine⟨i,h1,?_⟩
   have h2:(st.melt.o i).live:=h2
   rw[ho] at h2
   show (st.o i).live
   cases hq:st.o i<;>rw[hq] at h2<;>exact h2
  ·intro i ty cs h
   have h:st.o i=_:=h
   exact⟨⟨_,(ho i).trans (by rw[h];rfl)⟩,rfl⟩
  intro i ty k fr fz es h
  have h:st.o i=_:=h
  exact⟨fr,fz,es,(ho i).trans (by rw[h];rfl),Aj _,fun _=>⟨rfl,fun b cur hb hc=>⟨cur,hc,rfl⟩⟩⟩
 refine⟨r.sz,fun t=>?_,r.df,fun i=>?_,fun i j b hi hj=>r.inj i j b (hg i hi) (hg j hj),fun i b hi=>r.rng i b (hg i hi),r.kp,r.ct.step s,r.kb,r.dk⟩
 ·show Ea _ (Ez (Acq st.o st.sl) t) _
  rw[Afw]
  exact ((r.sl t).melt r).step s
 rw[ho]
 cases hq:st.o i with
 | gone=>trivial
 | row ty k fr fz es =>
  have:=r.ob i
  rw[hq] at this
  exact this.step s rfl fun _ _=>rfl
 | box ty cs =>
  have:=r.ob i
  rw[hq] at this
  obtain⟨b,cur,h1,h2,h3,h4⟩:=this
  refine⟨b,cur,h1,h2,by rw[Nj];exact h3,fun j c u hc hu=>?_⟩
  rw[Qj] at hc
  cases hx:cs[j]? with
  | none=>rw[hx] at hc;cases hc
  | some x =>
   rw[hx] at hc
   simp only[Ai,Option.some.injEq] at hc
   subst hc
   exact⟨((h4 j x u hx hu).1.melt r).step s,(h4 j x u hx hu).2⟩
def Z2:Ob->TypeId
 | .row ty _ _ _ _=>ty
 | _=>0
def At6:Ob->Bool
 | .row _ _ fr _ _=>fr
 | _=>false
def St.freeze (st:St) (id:Nat):St:=(st.set id (.row (Z2 (st.o id)) (Sl (st.o id)) (At6 (st.o id)) true (K5 (st.o id)))).melt
section
variable {n m:Nat} {st:St} {K:Exit->St->Prop} {c:Code}
theorem VW.freeze (id:Nat) (h:F5 (st.o id)=true) (hv:VW P n m c (st.freeze id) K):VW P n m c st K:=fun E F hE hF β a w r=>by
 refine hv E F hE hF β a w ?_
 unfold St.freeze
 cases hq:st.o id with
 | row ty k fr fz es=>exact (r.freeze hq).1.melt
 | _=>rw[hq] at h;exact absurd h (by simp[F5])
abbrev Ch:=@VW.freeze
theorem VX.freeze (id:Nat) (h:F5 (st.o id)=true) (hv:VX P n m c (st.freeze id) K):VX P n m c st K:=by
 obtain⟨e,s,h1,h2⟩:=hv
 exact⟨e,s,.freeze id h h1,h2⟩
theorem VW.own0 (t:Nat) (ty k:Nat) (hk:0<k) {k':Nat} (ht:Ez st.sl t=.nil k') (hv:VW P n m c ((st.put (some t) (.own st.ob.length 0)).set st.ob.length (.row ty k true false [])) K):VW P n m c st K:=fun E F hE hF β a w r=>by
 obtain⟨r1,h1⟩:=r.empty (Ha st st.ob.length (Aj _)) ty hk true
 refine hv E F hE hF (fun i=>if i=st.ob.length then none else β i) a w ?_
 rw[St.put_set]
 have hr:=r.sl t
 rw[ht] at hr
 refine⟨r1.sz,fun x=>?_,r1.df,?_,?_,?_,r1.kp,?_,r1.kb,r1.dk⟩
 ·rw[Ac1]
  show Ea _ (bif t == x then _ else Ez _ x) _
  cases hb:t == x with
  | true =>
   have:t=x:=by simpa using hb
   subst this
   generalize a.tmps.getD t undef=u at hr
   cases hr with
   | nil k A=>exact h1 A
  | false=>exact r1.sl x
 ·rw[Ac1,St.put_o];exact r1.ob
 ·rw[St.put_o];exact r1.inj
 ·rw[St.put_o];exact r1.rng
 rw[Ac1];exact r1.ct
abbrev Cn:=@VW.own0
theorem VX.own0 (t:Nat) (ty k:Nat) (hk:0<k) {k':Nat} (ht:Ez st.sl t=.nil k') (hv:VX P n m c ((st.put (some t) (.own st.ob.length 0)).set st.ob.length (.row ty k true false [])) K):VX P n m c st K:=by
 obtain⟨e,s,h1,h2⟩:=hv
 exact⟨e,s,.own0 t ty k hk ht h1,h2⟩
abbrev Cf:=@VX.own0
end
end
abbrev TyS (t:Nat) (k:Nat) (e:Nat):Prop:=tok Tryz.prog t=true/\S9 Tryz.prog t=false/\Ge Tryz.prog t=1/\zok Tryz.prog t=true/\Hd Tryz.prog t=[.nil k]/\Jj Tryz.prog t=24/\Hn Tryz.prog t=true/\Eb Tryz.prog t=e/\(Tryz.prog.underlying t).isSome=true
theorem Jg {t:Nat} {k:Nat} {e:Nat} (h0:tok Tryz.prog t=true:=by kernel_rfl) (h1:S9 Tryz.prog t=false:=by kernel_rfl) (h2:Ge Tryz.prog t=1:=by kernel_rfl) (h3:zok Tryz.prog t=true:=by kernel_rfl) (h4:Hd Tryz.prog t=[.nil k]:=by kernel_rfl) (h5:Jj Tryz.prog t=24:=by kernel_rfl) (h6:Hn Tryz.prog t=true:=by kernel_rfl) (h7:Eb Tryz.prog t=e:=by kernel_rfl) (h8:(Tryz.prog.underlying t).isSome=true:=by kernel_rfl):TyS t k e:=⟨h0,h1,h2,h3,h4,h5,h6,h7,h8⟩
abbrev Xs (t:Nat) (n:Nat) (z:List AV) (b:Nat) (p:List (Nat×Nat)):Prop:=tok Tryz.prog t=true/\S9 Tryz.prog t=true/\Ge Tryz.prog t=n/\zok Tryz.prog t=true/\Hd Tryz.prog t=z/\Jj Tryz.prog t=b/\Rt Tryz.prog t=true/\tpl Tryz.prog t=p/\(Tryz.prog.underlying t).isSome=true
theorem Iu {t:Nat} {n:Nat} {z:List AV} {b:Nat} {p:List (Nat×Nat)} (h0:tok Tryz.prog t=true:=by kernel_rfl) (h1:S9 Tryz.prog t=true:=by kernel_rfl) (h2:Ge Tryz.prog t=n:=by kernel_rfl) (h3:zok Tryz.prog t=true:=by kernel_rfl) (h4:Hd Tryz.prog t=z:=by kernel_rfl) (h5:Jj Tryz.prog t=b:=by kernel_rfl) (h6:Rt Tryz.prog t=true:=by kernel_rfl) (h7:tpl Tryz.prog t=p:=by kernel_rfl) (h8:(Tryz.prog.underlying t).isSome=true:=by kernel_rfl):Xs t n z b p:=⟨h0,h1,h2,h3,h4,h5,h6,h7,h8⟩
theorem ty3:tok Tryz.prog 3=true/\S9 Tryz.prog 3=false/\Ge Tryz.prog 3=1/\zok Tryz.prog 3=true/\Hd Tryz.prog 3=[.lit (.int .i64 0)]/\Jj Tryz.prog 3=8/\Abc Tryz.prog 3=some .i64/\(Tryz.prog.underlying 3).isSome=true:=⟨by kernel_rfl,by kernel_rfl,by kernel_rfl,by kernel_rfl,by kernel_rfl,by kernel_rfl,by kernel_rfl,by kernel_rfl⟩
theorem ty4:tok Tryz.prog 4=true/\S9 Tryz.prog 4=false/\Ge Tryz.prog 4=1/\zok Tryz.prog 4=true/\Hd Tryz.prog 4=[.lit (.bool false)]/\Jj Tryz.prog 4=1/\Ath Tryz.prog 4=true/\(Tryz.prog.underlying 4).isSome=true:=⟨by kernel_rfl,by kernel_rfl,by kernel_rfl,by kernel_rfl,by kernel_rfl,by kernel_rfl,by kernel_rfl,by kernel_rfl⟩
theorem ty5:tok Tryz.prog 5=true/\S9 Tryz.prog 5=false/\Ge Tryz.prog 5=1/\zok Tryz.prog 5=true/\Hd Tryz.prog 5=[.lit (.int .u8 0)]/\Jj Tryz.prog 5=1/\Abc Tryz.prog 5=some .u8/\(Tryz.prog.underlying 5).isSome=true:=⟨by kernel_rfl,by kernel_rfl,by kernel_rfl,by kernel_rfl,by kernel_rfl,by kernel_rfl,by kernel_rfl,by kernel_rfl⟩
theorem ty9:tok Tryz.prog 9=true/\S9 Tryz.prog 9=false/\Ge Tryz.prog 9=1/\zok Tryz.prog 9=true/\Hd Tryz.prog 9=[.lit (.string ⟨#[]⟩)]/\Jj Tryz.prog 9=16/\Xa Tryz.prog 9=true/\(Tryz.prog.underlying 9).isSome=true:=⟨by kernel_rfl,by kernel_rfl,by kernel_rfl,by kernel_rfl,by kernel_rfl,by kernel_rfl,by kernel_rfl,by kernel_rfl⟩
theorem A2v:TyS 22 1 3:=Jg
theorem A2u:TyS 27 3 88:=Jg
theorem A2t:TyS 28 8 60:=Jg
theorem A2s:Xs 30 6 [.nil 3,.nil 8,.lit (.int .i64 0),.lit (.int .i64 0),.lit (.int .i64 0),.lit (.int .i64 0)] 80 [(0,1),(1,1),(2,1),(3,1),(4,1),(5,1)]:=Iu
theorem A2r:TyS 32 17 70:=Jg
theorem A2q:TyS 33 5 135:=Jg
theorem A2p:TyS 34 3 138:=Jg
theorem A2o:TyS 35 4 128:=Jg
theorem A2n:Xs 37 13 [.nil 3,.nil 8,.lit (.int .i64 0),.lit (.int .i64 0),.lit (.int .i64 0),.lit (.int .i64 0),.lit (.bool false),.lit (.int .i64 0),.nil 17,.nil 5,.nil 3,.nil 1,.nil 4] 216 [(0,6),(6,1),(7,1),(8,1),(9,1),(10,1),(11,1),(12,1)]:=Iu
theorem A2m:TyS 38 4 100:=Jg
theorem A2l:Xs 40 14 [.nil 3,.nil 8,.lit (.int .i64 0),.lit (.int .i64 0),.lit (.int .i64 0),.lit (.int .i64 0),.lit (.bool false),.lit (.int .i64 0),.nil 17,.nil 5,.nil 3,.nil 1,.nil 4,.nil 4] 240 [(0,13),(13,1)]:=Iu
theorem A2k:TyS 42 5 46:=Jg
theorem A2j:TyS 44 1 5:=Jg
theorem A2i:Xs 46 5 [.lit (.int .i64 0),.lit (.int .i64 0),.lit (.int .i64 0),.lit (.int .i64 0),.nil 1] 56 [(0,1),(1,1),(2,1),(3,1),(4,1)]:=Iu
theorem A2h:TyS 47 1 44:=Jg
theorem A2g:Xs 49 2 [.nil 1,.nil 1] 48 [(0,1),(1,1)]:=Iu
theorem A2f:Xs 56 4 [.lit (.int .i64 0),.nil 1,.nil 1,.nil 1] 80 [(0,1),(1,1),(2,1),(3,1)]:=Iu
theorem A2e:Xs 60 8 [.nil 1,.lit (.int .i64 0),.lit (.int .i64 0),.nil 1,.lit (.int .i64 0),.lit (.int .i64 0),.lit (.int .i64 0),.lit (.int .i64 0)] 96 [(0,1),(1,1),(2,1),(3,1),(4,1),(5,1),(6,1),(7,1)]:=Iu
theorem A2d:TyS 61 6 73:=Jg
theorem A2c:TyS 62 2 216:=Jg
theorem A2b:Xs 64 3 [.lit (.int .i64 0),.lit (.int .i64 0),.lit (.int .i64 0)] 24 [(0,1),(1,1),(2,1)]:=Iu
theorem A2a:Xs 66 14 [.lit (.int .i64 0),.nil 1,.lit (.int .i64 0),.lit (.int .i64 0),.nil 1,.lit (.int .i64 0),.lit (.int .i64 0),.lit (.int .i64 0),.lit (.int .i64 0),.nil 6,.nil 2,.lit (.int .i64 0),.lit (.int .i64 0),.lit (.int .i64 0)] 176 [(0,1),(1,8),(9,1),(10,1),(11,3)]:=Iu
theorem A19:TyS 67 5 164:=Jg
theorem A18:TyS 68 1 4:=Jg
theorem A17:Xs 70 17 [.lit (.int .i64 0),.nil 1,.lit (.int .i64 0),.lit (.int .i64 0),.nil 1,.lit (.int .i64 0),.lit (.int .i64 0),.lit (.int .i64 0),.lit (.int .i64 0),.nil 6,.nil 2,.lit (.int .i64 0),.lit (.int .i64 0),.lit (.int .i64 0),.nil 5,.nil 1,.nil 1] 248 [(0,14),(14,1),(15,1),(16,1)]:=Iu
theorem A16:Xs 73 6 [.lit (.bool false),.nil 1,.lit (.int .i64 0),.lit (.int .i64 0),.lit (.int .i64 0),.lit (.int .i64 0)] 64 [(0,1),(1,1),(2,1),(3,1),(4,1),(5,1)]:=Iu
theorem A15:TyS 77 2 49:=Jg
theorem A14:TyS 80 4 56:=Jg
theorem A13:Xs 84 2 [.nil 1,.lit (.int .i64 0)] 32 [(0,1),(1,1)]:=Iu
theorem A12:TyS 86 8 124:=Jg
theorem A11:Xs 88 3 [.nil 8,.nil 1,.lit (.int .i64 0)] 56 [(0,1),(1,1),(2,1)]:=Iu
theorem A10:Xs 98 2 [.nil 1,.lit (.bool false)] 32 [(0,1),(1,1)]:=Iu
theorem A0q:Xs 100 4 [.lit (.bool false),.lit (.bool false),.nil 1,.lit (.bool false)] 40 [(0,1),(1,1),(2,2)]:=Iu
theorem A0p:tok Tryz.prog 108=true/\S9 Tryz.prog 108=false/\Ge Tryz.prog 108=1/\zok Tryz.prog 108=true/\Hd Tryz.prog 108=[.lit (.int .i64 0)]/\Jj Tryz.prog 108=8/\Abc Tryz.prog 108=some .i64/\(Tryz.prog.underlying 108).isSome=true:=⟨by kernel_rfl,by kernel_rfl,by kernel_rfl,by kernel_rfl,by kernel_rfl,by kernel_rfl,by kernel_rfl,by kernel_rfl⟩
theorem A0o:TyS 113 3 116:=Jg
theorem A0n:Xs 116 3 [.lit (.int .i64 0),.lit (.int .i64 0),.nil 1] 40 [(0,1),(1,1),(2,1)]:=Iu
theorem A0m:TyS 120 2 122:=Jg
theorem A0l:tok Tryz.prog 122=true/\S9 Tryz.prog 122=true/\Ge Tryz.prog 122=2/\zok Tryz.prog 122=true/\Hd Tryz.prog 122=[.lit (.int .i64 0),.lit (.int .i64 0)]/\Jj Tryz.prog 122=16/\Rt Tryz.prog 122=false/\Eb Tryz.prog 122=3/\Aok Tryz.prog 122=some 2/\tpl Tryz.prog 122=[(0,1),(1,1)]/\(Tryz.prog.underlying 122).isSome=true:=⟨by kernel_rfl,by kernel_rfl,by kernel_rfl,by kernel_rfl,by kernel_rfl,by kernel_rfl,by kernel_rfl,by kernel_rfl,by kernel_rfl,by kernel_rfl,by kernel_rfl⟩
theorem A0k:Xs 124 8 [.lit (.int .i64 0),.lit (.int .i64 0),.lit (.int .i64 0),.lit (.int .i64 0),.lit (.int .i64 0),.lit (.int .i64 0),.lit (.int .i64 0),.lit (.int .i64 0)] 64 [(0,1),(1,1),(2,1),(3,1),(4,1),(5,1),(6,1),(7,1)]:=Iu
theorem A0j:tok Tryz.prog 125=true/\S9 Tryz.prog 125=false/\Ge Tryz.prog 125=1/\zok Tryz.prog 125=true/\Hd Tryz.prog 125=[.lit (.int .u64 0)]/\Jj Tryz.prog 125=8/\Abc Tryz.prog 125=some .u64/\(Tryz.prog.underlying 125).isSome=true:=⟨by kernel_rfl,by kernel_rfl,by kernel_rfl,by kernel_rfl,by kernel_rfl,by kernel_rfl,by kernel_rfl,by kernel_rfl⟩
theorem A0i:Xs 128 4 [.lit (.bool false),.lit (.bool false),.nil 1,.nil 1] 56 [(0,1),(1,1),(2,1),(3,1)]:=Iu
theorem A0h:TyS 131 2 185:=Jg
theorem A0g:Xs 133 4 [.nil 2,.lit (.int .i64 0),.nil 1,.lit (.int .i64 0)] 64 [(0,1),(1,1),(2,1),(3,1)]:=Iu
theorem A0f:Xs 135 5 [.nil 2,.lit (.int .i64 0),.nil 1,.lit (.int .i64 0),.lit (.bool false)] 72 [(0,4),(4,1)]:=Iu
theorem A0e:Xs 138 3 [.lit (.int .i64 0),.lit (.int .i64 0),.nil 1] 40 [(0,1),(1,1),(2,1)]:=Iu
theorem A0d:tok Tryz.prog 141=true/\S9 Tryz.prog 141=false/\Ge Tryz.prog 141=1/\zok Tryz.prog 141=true/\Hd Tryz.prog 141=[.lit (.int .u64 0)]/\Jj Tryz.prog 141=8/\Abc Tryz.prog 141=some .u64/\(Tryz.prog.underlying 141).isSome=true:=⟨by kernel_rfl,by kernel_rfl,by kernel_rfl,by kernel_rfl,by kernel_rfl,by kernel_rfl,by kernel_rfl,by kernel_rfl⟩
theorem A0c:TyS 147 2 149:=Jg
theorem A0b:Xs 149 2 [.lit (.bool false),.nil 3] 32 [(0,1),(1,1)]:=Iu
theorem A0a:TyS 152 1 80:=Jg
theorem Az9:Xs 154 2 [.nil 1,.nil 4] 48 [(0,1),(1,1)]:=Iu
theorem Az8:TyS 162 5 166:=Jg
theorem Az7:Xs 164 5 [.lit (.int .i64 0),.lit (.int .i64 0),.lit (.int .i64 0),.lit (.int .i64 0),.nil 5] 56 [(0,1),(1,1),(2,1),(3,1),(4,1)]:=Iu
theorem Az6:Xs 166 5 [.lit (.int .i64 0),.lit (.int .i64 0),.lit (.int .i64 0),.lit (.int .i64 0),.lit (.int .i64 0)] 40 [(0,1),(1,1),(2,1),(3,1),(4,1)]:=Iu
theorem Az4:Xs 171 6 [.lit (.int .i64 0),.lit (.int .i64 0),.lit (.int .i64 0),.lit (.int .i64 0),.lit (.int .i64 0),.lit (.int .i64 0)] 48 [(0,1),(1,1),(2,1),(3,1),(4,1),(5,1)]:=Iu
theorem Az3:Xs 177 5 [.lit (.int .i64 0),.lit (.int .i64 0),.lit (.int .i64 0),.lit (.int .i64 0),.lit (.int .i64 0)] 40 [(0,1),(1,1),(2,1),(3,1),(4,1)]:=Iu
theorem Az2:Xs 185 2 [.lit (.int .i64 0),.lit (.int .i64 0)] 16 [(0,1),(1,1)]:=Iu
theorem Az1:TyS 197 1 152:=Jg
theorem Az0:TyS 198 3 248:=Jg
theorem Azz:Xs 209 3 [.lit (.int .i64 0),.lit (.int .i64 0),.lit (.int .i64 0)] 24 [(0,1),(1,1),(2,1)]:=Iu
theorem Azy:tok Tryz.prog 213=true/\S9 Tryz.prog 213=false/\Ge Tryz.prog 213=1/\zok Tryz.prog 213=true/\Hd Tryz.prog 213=[.lit (.int .u32 0)]/\Jj Tryz.prog 213=4/\Abc Tryz.prog 213=some .u32/\(Tryz.prog.underlying 213).isSome=true:=⟨by kernel_rfl,by kernel_rfl,by kernel_rfl,by kernel_rfl,by kernel_rfl,by kernel_rfl,by kernel_rfl,by kernel_rfl⟩
theorem Azx:Xs 216 2 [.lit (.int .i64 0),.lit (.int .i64 0)] 16 [(0,1),(1,1)]:=Iu
theorem Azw:TyS 242 5 287:=Jg
theorem Azv:Xs 248 3 [.lit (.int .i64 0),.lit (.int .i64 0),.lit (.int .i64 0)] 24 [(0,1),(1,1),(2,1)]:=Iu
theorem Azu:Xs 287 5 [.lit (.int .i64 0),.lit (.int .i64 0),.lit (.int .i64 0),.lit (.int .i64 0),.lit (.int .i64 0)] 40 [(0,1),(1,1),(2,1),(3,1),(4,1)]:=Iu
theorem Azs:TyS 371 1 62:=Jg
attribute [go_sem] ty3 ty4 ty5 ty9 A2v A2u A2t A2s A2r A2q A2p A2o A2n A2m A2l A2k A2j A2i A2h A2g A2f A2e A2d A2c A2b A2a A19 A18 A17 A16 A15 A14 A13 A12 A11 A10 A0q A0p A0o A0n A0m A0l A0k A0j A0i A0h A0g A0f A0e A0d A0c A0b A0a Az9 Az8 Az7 Az6 Az4 Az3 Az2 Az1 Az0 Azz Azy Azx Azw Azv Azu Azs
attribute [go_sem] Value.oneCell'
section
variable {es:List (List T)}
section
variable {P:Program} {n m:Nat} {st:St} {K:Exit->St->Prop}
theorem Ads (d:Nat) {ty el:TypeId} {A:Option Addr} {nn c:Nat} {w:World} (hu:P.underlying ty=some (.slice el)):(Op.equalIn (d+1) ty (.slice A nn c) (.slice none 0 0)).run P w=.ok A.isNone w:=by
 cases A<;>simp[Op.equalIn,run_underlying hu]
theorem VW.isnil {id d1 d2 t0:Nat} {ty:TypeId} {p1 p2:String} {a1 a2:Array Edge} {ty2:TypeId} {y:Code} {fr:Bool} {k:Nat} (ht:Ez st.sl t0=.imm fr k es) (h1:d1<n) (h2:d2<n) (hs:Hn P ty=true) (hn:es=[]->VW P n m y ((st.put (some d1) (.imm fr k es)).put (some d2) (.lit (.bool true))) K) (hy:VW P n m y ((st.put (some d1) (.imm fr k es)).put (some d2) (.lit (.bool false))) K) :
  VW P n m (.seq (.region id #[⟨some d1,.move (.tmp t0),ty,p1,a1,none⟩,⟨some d2,.binOp .eql ty (.tmp d1) (.const (.slice none 0 0)) ty,ty2,p2,a2,none⟩] false) y) st K:=by
 refine .seq fun E F hE hF β a w r=>?_
 refine wpIn_region_lit (l:=[⟨some d1,.move (.tmp t0),ty,p1,a1,none⟩,⟨some d2,.binOp .eql ty (.tmp d1) (.const (.slice none 0 0)) ty,ty2,p2,a2,none⟩]) ?_
 have hr:=r.sl t0
 rw[ht] at hr
 have r1:=r.put hr (some d1) (fun x hx=>by injection hx with hx;subst hx;rw[hE.1];exact h1)
 have hu:=Fu hs
 have hsz:d1<a.tmps.size:=by rw[r.sz,hE.1];exact h1
 have hcase:∃A nn c,a.tmps.getD t0 undef=.slice A nn c/\(A=none->es=[]):=by
  generalize a.tmps.getD t0 undef=u at hr
  cases hr with
  | imm fr k es u h=>cases h with
   | nil k A c=>exact⟨A,0,c,rfl,fun _=>rfl⟩
   | sl k es b off c cur ty fz us=>exact⟨_,_,c,rfl,fun e=>by cases e⟩
 obtain⟨A,nn,c,hu0,hA⟩:=hcase
 refine wpListIn_plain rfl fun K1 hK1=>Qv hF (by intro c h;cases h) ?_
 have e1:(execOp a.eval ⟨some d1,.move (.tmp t0),ty,p1,a1,none⟩).run P w=.ok (.value (a.tmps.getD t0 undef)) w:=rfl
 unfold Oper.wp
 rw[e1]
 refine hK1 _ _ ?_
 refine wpListIn_plain rfl fun K2 hK2=>Qv hF (by intro c h;cases h) ?_
 have e2:(execOp (a.put (some d1) (a.tmps.getD t0 undef)).eval ⟨some d2,.binOp .eql ty (.tmp d1) (.const (.slice none 0 0)) ty,ty2,p2,a2,none⟩).run P w=.ok (.value (.bool A.isNone)) w:=by
  have e3:(a.put (some d1) (a.tmps.getD t0 undef)).eval (.tmp d1)=.slice A nn c:=by
   simp only[Act.eval,Act.put]
   rw[<- hu0,Av,Array.getElem?_setIfInBounds_self_of_lt hsz];rfl
  have e6:(a.put (some d1) (a.tmps.getD t0 undef)).eval (.const (.slice none 0 0))=.slice none 0 0:=rfl
  simp only[execOp,e3,e6]
  have e4:(eqGuard .eql ty (.tmp d1) (.const (.slice none 0 0)) (.slice A nn c) (.slice none 0 0)).run P w=.ok () w:=rfl
  have e5:(binOp .eql ty (.slice A nn c) (.slice none 0 0)).run P w=.ok (.bool A.isNone) w:=by
   have:binOp .eql ty (.slice A nn c) (.slice none 0 0)=(do pure (.bool (<- Op.equal ty (.slice A nn c) (.slice none 0 0)))):=rfl
   have e7:(Op.equal ty (.slice A nn c) (.slice none 0 0)).run P w=.ok A.isNone w:=Ads 9999 hu
   rw[this]
   simp only[Sem.run_bind,e7,Result.andThen_ok,Sem.run_pure]
  simp only[Sem.run_bind,e4,e5,Result.andThen_ok,Sem.run_pure]
 unfold Oper.wp
 rw[e2]
 refine hK2 _ _ ?_
 have r2:=fun b:Bool=>r1.put (v:=.lit (.bool b)) (u:=.bool b) (.lit _) (some d2) (fun x hx=>by injection hx with hx;subst hx;rw[hE.1];exact h2)
 cases hb:A with
 | none=>exact⟨E,_,β,Hj.refl E,hn (hA hb),r2 true⟩
 | some x=>exact⟨E,_,β,Hj.refl E,hy,r2 false⟩
abbrev Co:=@VW.isnil
end
def Ari:Ob->Bool
 | .row _ _ _ fz _=>fz
 | _=>false
def St.fresh (st:St) (id:Nat):St:=st.set id (.row (Z2 (st.o id)) (Sl (st.o id)) true (Ari (st.o id)) (K5 (st.o id)))
section
variable {P:Program} {n m:Nat} {st:St} {K:Exit->St->Prop} {c:Code}
theorem VW.fresh (id:Nat) (h:F5 (st.o id)=true) (hp:(K5 (st.o id)).all (fun e=>e.all T.plain)=true) (hv:VW P n m c (st.fresh id) K):VW P n m c st K:=fun E F hE hF β a w r=>by
 refine hv E F hE hF β a w ?_
 unfold St.fresh
 cases hq:st.o id with
 | row ty k fr fz es =>
  rw[hq] at hp
  exact (r.flag hq (fun _=>.inr hp) fun e=>e).1
 | _=>rw[hq] at h;exact absurd h (by simp[F5])
abbrev Cr:=@VW.fresh
theorem VX.fresh (id:Nat) (h:F5 (st.o id)=true) (hp:(K5 (st.o id)).all (fun e=>e.all T.plain)=true) (hv:VX P n m c (st.fresh id) K):VX P n m c st K:=by
 obtain⟨e,s,h1,h2⟩:=hv
 exact⟨e,s,.fresh id h hp h1,h2⟩
end
variable {id:Nat}
theorem Av1 {sl:List (Nat×AV)} {ob:List Ob}:(St.mk sl ob).fresh id=St.mk sl (O7 ob id (.row (Z2 (ob.getD id .gone)) (Sl (ob.getD id .gone)) true (Ari (ob.getD id .gone)) (K5 (ob.getD id .gone)))):=rfl
variable {P:Program} {st:St} {rs:List ResultVar}
theorem A2x {res:AV} {o:Ob} (hc:Vk P st rs) (h:Le ((Kt P st rs).ren fun id=>Ms id [0] 0) res) (ho:Vl ((st.o 0).ren fun id=>Ms id [0] 0) o):Re P 0 rs [o] res .ret st :=
 ⟨.inr rfl,hc,[0],⟨.cons h .nil,fun j hj=>by
  have:j=0:=by simpa using hj
  subst this
  exact ho,rfl,by simp⟩,fun id hid=>by omega⟩
variable {n m:Nat} {K:Exit->St->Prop}
theorem VW.z1 {res:AV} {o:Ob} (ho:Vl ((st.o 0).ren fun id=>Ms id [0] 0) o) (hk:Re P 0 rs [o] res .ret st->K .ret st:=by exact id) (hc:Vk P st rs:=by simp[go_sem]) (h:Le ((Kt P st rs).ren fun id=>Ms id [0] 0) res:=by simp[go_sem]):VW P n m .ret st K:=.ret (hk (A2x hc h ho))
abbrev Cq:=@VW.z1
theorem Azc {sl:List (Nat×AV)} {ob:List Ob} {d:Tmp} {v:AV}:(St.mk sl ob).put (some d) v=⟨(d,v)::sl,ob⟩:=rfl
theorem Azb {sl:List (Nat×AV)} {ob:List Ob} {i:Nat} {x:Ob}:(St.mk sl ob).set i x=⟨sl,O7 ob i x⟩:=rfl
theorem Aup {o:Nat->Ob} {id n:Nat}:(AV.own id n).melt o=match o id with | .row _ k fr true es=>if n=es.length then .imm fr k es else .own id n | _=>.own id n:=rfl
section
variable {sl:List (Nat×AV)} {ob:List Ob}
include sl ob
theorem Axq:(St.mk sl ob).melt=⟨Acq (fun i=>ob.getD i .gone) sl,Acr (fun i=>ob.getD i .gone) ob⟩:=rfl
theorem Asv:(St.mk sl ob).freeze id=(St.mk sl (O7 ob id (.row (Z2 (ob.getD id .gone)) (Sl (ob.getD id .gone)) (At6 (ob.getD id .gone)) true (K5 (ob.getD id .gone))))).melt:=rfl
end
attribute [go_sem] Jv AV.pass Jo AV.passC Tm AV.bor AV.shift Of Ob.shift Lj AV.cln Fb Ob.cln Ob.ren Ms Av1 Ari Azc Azb Axq Asv Acq Acr Ob.melt Aup AV.melt R2 Z2 At6
variable {f:FuncId} {fo:Operand} {xs:List Operand} {ts:Array TypeId} {want:Bool} {bor:Bool} {rd:List Nat}
section
variable {P:Program} {d:Option Tmp} {ty:TypeId} {os:List VO} {st:St} {K:St->Prop} {KT:Tr->St->Prop} {tr:Tr}
def Avj (v:AV) (F:FuncId->List AV->Prop):Prop:=match v with
 | .fn f caps=>F f caps
 | _=>False
theorem Avi {caps:List AV} {F:FuncId->List AV->Prop}:Avj (.fn f caps) F=F f caps:=rfl
structure Tq (P:Program) (f:FuncId) (args:List AV) (bor:Bool) (Gx:List AV) (d:Option Tmp) (os:List VO) (st:St) (K:St->Prop):Prop where
  ex:(∃σr res,Ey P f [] args σr res/\(bor=true->res.cln=true/\σr.all Ob.cln=true)/\runs P os (st.after d (res.shift st.ob.length) (Lj st.ob.length 0 σr)) K) \/
    ∃sel σr res,Ye P f Gx st.o st.ob.length sel σr res/\runs P os (st.after d (Om sel st.ob.length σr res).1 (Om sel st.ob.length σr res).2) K
structure W7 (P:Program) (f:FuncId) (args:List AV) (bor:Bool) (Gx:List AV) (d:Option Tmp) (os:List VO) (st:St) (rd:List Nat) (tr:Tr) (K:Tr->St->Prop):Prop where
  ex:(∃σr res,Ey P f [] args σr res/\(bor=true->res.cln=true/\σr.all Ob.cln=true)/\Gn P os (st.after d (res.shift st.ob.length) (Lj st.ob.length 0 σr)) ((rd,(Lj st.ob.length 0 σr).map (·.1))::tr) K) \/
    ∃sel σr res,Ye P f Gx st.o st.ob.length sel σr res/\Gn P os (st.after d (Om sel st.ob.length σr res).1 (Om sel st.ob.length σr res).2) ((rd,(Om sel st.ob.length σr res).2.map (·.1))::tr) K
theorem Av4:Av5 P d (.call ⟨.value fo,xs.toArray,ts⟩) ty os st K=(((st.raw fo).sb=true/\(xs.all fun x=>(st.raw x).sb)=true) /\
 Avj (st.raw fo).sv fun f caps=>Jo st.o (xs.map (fun x=>(st.raw x).sv)++caps)/\Tq P f (Jv st.o (xs.map (fun x=>(st.raw x).sv)++caps)) (Tm (xs.map (fun x=>(st.raw x).sv)++caps)) (xs.map (fun x=>(st.raw x).sv)++caps) d os st K):=by
 apply propext
 constructor
 ·rintro⟨e,⟨h1,⟨f,caps,σr,res,h2,h3,h4,h5,rfl⟩ | ⟨f,caps,sel,σr,res,h2,h3,rfl⟩⟩,h6⟩
  ·exact⟨h1,by rw[h2];exact⟨h4,⟨.inl ⟨σr,res,h3,h5,h6⟩⟩⟩⟩
  exact⟨h1,by rw[h2];exact⟨h3.args,⟨.inr ⟨sel,σr,res,h3,h6⟩⟩⟩⟩
 rintro⟨h1,h2⟩
 cases hv:(st.raw fo).sv with
 | fn f caps =>
  rw[hv] at h2
  rcases h2 with⟨h4,⟨⟨σr,res,h3,h5,h6⟩ | ⟨sel,σr,res,h3,h6⟩⟩⟩
  ·exact⟨_,⟨h1,.inl ⟨f,caps,σr,res,hv,h3,h4,h5,rfl⟩⟩,h6⟩
  exact⟨_,⟨h1,.inr ⟨f,caps,sel,σr,res,hv,h3,rfl⟩⟩,h6⟩
 | _=>rw[hv] at h2;exact h2.elim
theorem Asx:Apx P d (.call ⟨.value fo,xs.toArray,ts⟩) ty os st tr KT=(((st.raw fo).sb=true/\(xs.all fun x=>(st.raw x).sb)=true) /\
 Avj (st.raw fo).sv fun f caps=>Jo st.o (xs.map (fun x=>(st.raw x).sv)++caps)/\W7 P f (Jv st.o (xs.map (fun x=>(st.raw x).sv)++caps)) (Tm (xs.map (fun x=>(st.raw x).sv)++caps)) (xs.map (fun x=>(st.raw x).sv)++caps) d os st (Fi (.call ⟨.value fo,xs.toArray,ts⟩) st) tr KT):=by
 apply propext
 constructor
 ·rintro⟨e,⟨h1,⟨f,caps,σr,res,h2,h3,h4,h5,rfl⟩ | ⟨f,caps,sel,σr,res,h2,h3,rfl⟩⟩,h6⟩
  ·exact⟨h1,by rw[h2];exact⟨h4,⟨.inl ⟨σr,res,h3,h5,h6⟩⟩⟩⟩
  exact⟨h1,by rw[h2];exact⟨h3.args,⟨.inr ⟨sel,σr,res,h3,h6⟩⟩⟩⟩
 rintro⟨h1,h2⟩
 cases hv:(st.raw fo).sv with
 | fn f caps =>
  rw[hv] at h2
  rcases h2 with⟨h4,⟨⟨σr,res,h3,h5,h6⟩ | ⟨sel,σr,res,h3,h6⟩⟩⟩
  ·exact⟨_,⟨h1,.inl ⟨f,caps,σr,res,hv,h3,h4,h5,rfl⟩⟩,h6⟩
  exact⟨_,⟨h1,.inr ⟨f,caps,sel,σr,res,hv,h3,rfl⟩⟩,h6⟩
 | _=>rw[hv] at h2;exact h2.elim
theorem Ans {op:Op} {v:AV} (hv:Hw v.sv=true/\(v.sb&&(Fe v.sv == want))=true) (h:∃e:AV×List (Nat×Ob),Uw P op ty st st.ob.length e/\runs P os (st.after d (.gd true e.1) e.2) K):Zf P d op ty v want os st K:=by
 obtain⟨e,h1,h2⟩:=h
 exact⟨hv.1,e,fun _=>h1,by rw[hv.2];exact h2⟩
theorem Aar {op:Op} {v:AV} (hv:Hw v.sv=true/\(v.sb&&(Fe v.sv == want))=false) (h:runs P os (st.after d (.gd false .any) []) K):Zf P d op ty v want os st K :=
 ⟨hv.1,(.any,[]),(fun hb=>by rw[hv.2] at hb;cases hb),by rw[hv.2];exact h⟩
theorem Tq.by {args args' Gx:List AV} {σr:List Ob} {res:AV} (hp:Ey P f [] args' σr res) (ha:Qg args args') (hl:bor=true->res.cln=true/\σr.all Ob.cln=true) (h:runs P os (st.after d (res.shift st.ob.length) (Lj st.ob.length 0 σr)) K):Tq P f args bor Gx d os st K:=⟨.inl ⟨σr,res,hp.le ha,hl,h⟩⟩
theorem W7.by {args args' Gx:List AV} {σr:List Ob} {res:AV} (hp:Ey P f [] args' σr res) (ha:Qg args args') (hl:bor=true->res.cln=true/\σr.all Ob.cln=true) (h:Gn P os (st.after d (res.shift st.ob.length) (Lj st.ob.length 0 σr)) ((rd,(Lj st.ob.length 0 σr).map (·.1))::tr) KT):W7 P f args bor Gx d os st rd tr KT:=⟨.inl ⟨σr,res,hp.le ha,hl,h⟩⟩
end
attribute [go_sem] Av4 Asx Avi List.append_nil List.nil_append List.cons_append
variable {ty k:Nat} {fr fz:Bool}
theorem Ey.froz {args:List AV} (h:Ey P f [] args [.row ty k fr fz es] (.own 0 es.length)):Ey P f [] args [] (.imm fr k es):=by
 refine⟨h.1,fun E β us hn ho hβ r=>(h.2 E β us hn ho hβ r).mono ?_⟩
 rintro e w' ⟨v,β',rfl,r1⟩
 have r2:=(r1.freeze (id:=0) (ty:=ty) (k:=k) (fr:=fr) (fz:=fz) (es:=es) rfl).1.melt
 obtain⟨β2,r3⟩:=r2.weak (sel:=[]) (st':=⟨[(0,.imm fr k es)],[]⟩) ⟨.cons (by simp[St.melt,St.set,O7,St.o,Acq,Ez,AV.melt,AV.ren];exact Le.refl _) .nil,fun j hj=>by simp at hj,rfl,List.nodup_nil⟩ fun id hid=>absurd (by show E.o0 id=_;rw[ho];simp[St.o]) hid
 exact⟨v,β2,rfl,r3⟩
inductive OL (o:Nat->Ob) (ρ:Nat->Option Nat):List Nat->List Ob->Prop
  | nil:OL o ρ [] []
  | cons {id:Nat} {ids:List Nat} {x:Ob} {xs:List Ob}:Vl ((o id).ren ρ) x->OL o ρ ids xs->OL o ρ (id::ids) (x::xs)
theorem OL.out {o:Nat->Ob} {ρ:Nat->Option Nat} {ids:List Nat} {xs:List Ob} (h:OL o ρ ids xs):xs.length=ids.length/\∀j,j<ids.length->Vl ((o (ids.getD j 0)).ren ρ) (xs.getD j .gone):=by
 induction h with
 | nil=>exact⟨rfl,fun j hj=>by simp at hj⟩
 | cons h1 _ ih =>
  refine⟨by simp[ih.1],fun j hj=>?_⟩
  cases j with
  | zero=>exact h1
  | succ j=>simpa using ih.2 j (by simpa using hj)
theorem El {sl sl':List (Nat×AV)} {ob ob':List Ob} {sel:List Nat} (hnd:sel.Nodup) (h1:LeS (fun id=>Ms id sel 0) sl sl') (h2:OL (fun i=>ob.getD i .gone) (fun id=>Ms id sel 0) sel ob'):Ahw ⟨sl,ob⟩ sel ⟨sl',ob'⟩ :=
 ⟨h1,fun j hj=>h2.out.2 j hj,h2.out.1,hnd⟩
def Yb (m:Nat) (s s':St):Prop:=∃sel,Ahw s sel s'/\∀id,id<m->sel[id]? = some id
theorem Uu {c:AV}:Le c c=True:=by simp[Le.refl]
theorem Asz {o:Ob}:Vl o o=True:=by simp[Vl.refl]
theorem Av7 {fr fz fr' fz':Bool}:Vl (.row ty k fr fz es) (.row ty k fr' fz' es)=((fr'=true->fr=true)/\(fz'=false->fz=false)):=by
 apply propext
 constructor
 ·intro h;cases h with | row h1 h2=>exact⟨h1,h2⟩
 rintro⟨h1,h2⟩;exact .row h1 h2
attribute [go_sem] Uu Asz Av7
section
variable {P:Program} {n m:Nat} {st:St} {K:Exit->St->Prop} {c:Code}
theorem VW.wkE {s':St} (h:Yb m st s') (hv:VW P n m c s' K):VW P n m c st K:=by
 obtain⟨sel,h1,h2⟩:=h
 exact .weak h1 h2 hv
theorem VX.wkE {s':St} (h:Yb m st s') (hv:VX P n m c s' K):VX P n m c st K:=by
 obtain⟨sel,h1,h2⟩:=h
 exact .weak h1 h2 hv
abbrev Cz:=@VX.wkE
theorem VW.loop_w (I:Nat->St->Prop) (h0:∃z,Anq m st (I z)) (round:∀z s,I z s->VW P n m c s (Exit.vthen (fun s'=>∃z',z'<z/\Anq m s' (I z')) K)):VW P n m (.loop c) st K:=by
 obtain⟨z,h0⟩:=h0
 refine .loop (fun z s=>Anq m s (I z)) z h0 fun z s ⟨sel,s',h1,h2,h3⟩=>?_
 exact .weak h1 h2 (round z s' h3)
theorem VW.range (N:Nat) (f:Nat->St) (h0:Yb m st (f 0)) (round:∀i,i<=N->VW P n m c (f i) (Exit.vthen (fun s'=>i<N/\Yb m s' (f (i+1))) K)):VW P n m (.loop c) st K:=by
 obtain⟨sel,h1,h2⟩:=h0
 refine .loop_w (fun z s=>∃i,i+z=N/\s=f i) ⟨N,sel,f 0,h1,h2,0,by omega,rfl⟩ ?_
 rintro z s ⟨i,hi,rfl⟩
 refine (round i (by omega)).mono fun e s=>?_
 cases e with
 | normal =>
  rintro⟨h3,sel,h4,h5⟩
  exact⟨z - 1,by omega,sel,_,h4,h5,i+1,by omega,rfl⟩
 | _=>exact fun h=>h
abbrev Cb:=@VW.range
theorem VX.range (N:Nat) (f:Nat->St) (h0:Yb m st (f 0)) (round:∀i,i<=N->VX P n m c (f i) (Exit.vthen (fun s'=>i<N/\Yb m s' (f (i+1))) K)):VX P n m (.loop c) st K:=by
 obtain⟨sel,h1,h2⟩:=h0
 refine .loop_w (fun z s=>∃i,i+z=N/\s=f i) ⟨N,sel,f 0,h1,h2,0,by omega,rfl⟩ ?_
 rintro z s ⟨i,hi,rfl⟩
 refine (round i (by omega)).mono fun e s=>?_
 cases e with
 | normal =>
  rintro⟨h3,sel,h4,h5⟩
  exact⟨z - 1,by omega,sel,_,h4,h5,i+1,by omega,rfl⟩
 | _=>exact fun h=>h
theorem VW.region1 {l:List Oper} (hd:Ft n l=true) (h:∀K1:St->Prop,(∀s,K .normal s->K1 s)->runs P (Gc l) st K1):VW P n m (.region id l.toArray false) st K:=.region hd (h _ fun _ h=>h)
end
mutual
def AV.low:AV->AV
 | .imm _ k es=>.imm false k es
 | .nil k=>.imm false k []
 | .iptr _ cs off=>.iptr false cs off
 | .agg cs=>.agg (J6 cs)
 | .tup cs=>.tup (J6 cs)
 | .fn f cs=>.fn f (J6 cs)
 | .any=>.any
 | .lit v=>.lit v
 | .own id n=>.own id n
 | .sub id n lo m=>.sub id n lo m
 | .ptr id off=>.ptr id off
 | .rptr id n i off=>.rptr id n i off
 | .bsl id n=>.bsl id n
 | .gd t v=>.gd t v
def J6:List AV->List AV
 | []=>[]
 | c::cs=>c.low::J6 cs
end
theorem Le.iptr (fr:Bool) (cs:List T) (off:Nat):Le (.iptr fr cs off) (.iptr false cs off):=fun C u h=>by
 cases h with
 | iptr fr cs off b o cur ty fz us h1 h2 h3=>exact .iptr _ _ _ _ _ _ _ _ us h1 (VC.S_weak h2) fun j x hx=>⟨(h3 j x hx).1,VC.T_weak (h3 j x hx).2 fun e=>by cases e⟩
theorem Le.fn {cs cs':List AV} (h:Qg cs cs'):Le (.fn f cs) (.fn f cs'):=fun C u hr=>by
 cases hr with
 | fn f cs us h1 h2 =>
  refine .fn _ _ _ (by rw[<- h.length];exact h1) fun i c u hc hu=>?_
  obtain⟨c0,g1,g2⟩:=h.get hc
  exact g2 C u (h2 i c0 u g1 hu)
mutual
theorem Le.low:∀(c:AV),Le c c.low
 | .imm fr k es=>by simp only[AV.low];exact Le.imm (fun e=>by cases e) k es
 | .nil k=>by simp only[AV.low];exact Le.nil k false k
 | .iptr fr cs off=>by simp only[AV.low];exact Le.iptr fr cs off
 | .agg cs=>by simp only[AV.low];exact Le.agg (Qg.low cs)
 | .tup cs=>by simp only[AV.low];exact Le.tup (Qg.low cs)
 | .fn f cs=>by simp only[AV.low];exact Le.fn (Qg.low cs)
 | .any=>by simp only[AV.low];exact Le.refl _
 | .lit v=>by simp only[AV.low];exact Le.refl _
 | .own id n=>by simp only[AV.low];exact Le.refl _
 | .sub id n lo m=>by simp only[AV.low];exact Le.refl _
 | .ptr id off=>by simp only[AV.low];exact Le.refl _
 | .rptr id n i off=>by simp only[AV.low];exact Le.refl _
 | .bsl id n=>by simp only[AV.low];exact Le.refl _
 | .gd t v=>by simp only[AV.low];exact Le.refl _
theorem Qg.low:∀(cs:List AV),Qg cs (J6 cs)
 | []=>.nil
 | c::cs=>.cons (Le.low c) (Qg.low cs)
end
theorem Aqg {res:AV} (hc:Vk P st rs) (h:((Kt P st rs).ren fun _=>none).low=res):Re P 0 rs [] res .ret st:=A2y hc (by rw[<- h];exact Le.low _)
theorem VW.z {res:AV} (h:((Kt P st rs).ren fun _=>none).low=res) (hk:Re P 0 rs [] res .ret st->K .ret st:=by exact id) (hc:Vk P st rs:=by simp[go_sem]):VW P n m .ret st K:=.ret (hk (Aqg hc h))
abbrev B6:=@VW.z
section
variable {P:Program} {d:Option Tmp} {os:List VO} {st:St} {K:St->Prop} {KT:Tr->St->Prop} {tr:Tr}
theorem Tq.lo {args args' Gx:List AV} {σr:List Ob} {res:AV} (hp:Ey P f [] args' σr res) (ha:J6 args=args') (hl:bor=true->res.cln=true/\σr.all Ob.cln=true) (h:runs P os (st.after d (res.shift st.ob.length) (Lj st.ob.length 0 σr)) K):Tq P f args bor Gx d os st K:=.by hp (by rw[<- ha];exact Qg.low _) hl h
theorem W7.lo {args args' Gx:List AV} {σr:List Ob} {res:AV} (hp:Ey P f [] args' σr res) (ha:J6 args=args') (hl:bor=true->res.cln=true/\σr.all Ob.cln=true) (h:Gn P os (st.after d (res.shift st.ob.length) (Lj st.ob.length 0 σr)) ((rd,(Lj st.ob.length 0 σr).map (·.1))::tr) KT):W7 P f args bor Gx d os st rd tr KT:=.by hp (by rw[<- ha];exact Qg.low _) hl h
end
attribute [go_sem] AV.low J6
theorem Tb {m:Nat} {sl:List (Nat×AV)} {ob:List Ob} {σr:List Ob} {res:AV} (sel:List Nat) (hc:Vk P ⟨sl,ob⟩ rs) (hnd:sel.Nodup) (hm:∀id,id<m->sel[id]? = some id) (h:((Kt P ⟨sl,ob⟩ rs).ren fun id=>Ms id sel 0).low=res) (ho:OL (fun i=>ob.getD i .gone) (fun id=>Ms id sel 0) sel σr):Re P m rs σr res .ret ⟨sl,ob⟩ :=
 ⟨.inr rfl,hc,sel,El hnd (.cons (by rw[<- h];exact Le.low _) .nil) ho,hm⟩
theorem Ey.frozA {args:List AV} {res res':AV} (h:Ey P f [] args [.row ty k fr fz es] res) (hr:((res.melt fun i=>[Ob.row ty k fr true es].getD i .gone).ren fun _=>none).low=res'):Ey P f [] args [] res':=by
 refine⟨h.1,fun E β us hn ho hβ r=>(h.2 E β us hn ho hβ r).mono ?_⟩
 rintro e w' ⟨v,β',rfl,r1⟩
 have r2:=(r1.freeze (id:=0) (ty:=ty) (k:=k) (fr:=fr) (fz:=fz) (es:=es) rfl).1.melt
 obtain⟨β2,r3⟩:=r2.weak (sel:=[]) (st':=⟨[(0,res')],[]⟩) ⟨.cons (by rw[<- hr];exact Le.low _) .nil,fun j hj=>by simp at hj,rfl,List.nodup_nil⟩ fun id hid=>absurd (by show E.o0 id=_;rw[ho];simp[St.o]) hid
 exact⟨v,β2,rfl,r3⟩
section
variable {P:Program} {d:Option Tmp} {ty:TypeId} {os:List VO} {st:St} {K:St->Prop} {KT:Tr->St->Prop} {tr:Tr}
structure Acz (P:Program) (g:Bool) (f:FuncId) (args:List AV) (bor:Bool) (d:Option Tmp) (os:List VO) (st:St) (K:St->Prop):Prop where
  ex:∃σr res,(g=true->Ey P f [] args σr res/\(bor=true->res.cln=true/\σr.all Ob.cln=true))/\runs P os (st.after d (.gd g (res.shift st.ob.length)) (bif g then Lj st.ob.length 0 σr else [])) K
structure Zg (P:Program) (g:Bool) (f:FuncId) (args:List AV) (bor:Bool) (d:Option Tmp) (os:List VO) (st:St) (rd:List Nat) (tr:Tr) (K:Tr->St->Prop):Prop where
  ex:∃σr res,(g=true->Ey P f [] args σr res/\(bor=true->res.cln=true/\σr.all Ob.cln=true))/\Gn P os (st.after d (.gd g (res.shift st.ob.length)) (bif g then Lj st.ob.length 0 σr else [])) ((rd,(Lj st.ob.length 0 σr).map (·.1))::tr) K
theorem Asy {v:AV} (hv:Hw v.sv=true) (hb:(v.sb&&(Fe v.sv == want))=true->(xs.all fun x=>(st.raw x).sb)=true/\Jo st.o (xs.map fun x=>(st.raw x).sv)) (h:Acz P (v.sb&&(Fe v.sv == want)) f (Jv st.o (xs.map fun x=>(st.raw x).sv)) (Tm (xs.map fun x=>(st.raw x).sv)) d os st K):Zf P d (.call ⟨.value (.func f),xs.toArray,ts⟩) ty v want os st K:=by
 obtain⟨σr,res,h1,h2⟩:=h
 refine⟨hv,(res.shift st.ob.length,Lj st.ob.length 0 σr),fun hg=>?_,h2⟩
 obtain⟨q1,q2⟩:=hb hg
 obtain⟨q3,q4⟩:=h1 hg
 exact⟨⟨rfl,q1⟩,.inl ⟨f,[],σr,res,rfl,by simpa using q3,by simpa using q2,by simpa using q4,rfl⟩⟩
theorem P3 {v:AV} (h:Acz P (v.sb&&(Fe v.sv == want)) f (Jv st.o (xs.map fun x=>(st.raw x).sv)) (Tm (xs.map fun x=>(st.raw x).sv)) d os st K) (hv:Hw v.sv=true:=by simp[go_sem]) (hb:(v.sb&&(Fe v.sv == want))=true->(xs.all fun x=>(st.raw x).sb)=true/\Jo st.o (xs.map fun x=>(st.raw x).sv):=by simp[go_sem]):Zf P d (.call ⟨.value (.func f),xs.toArray,ts⟩) ty v want os st K:=Asy hv hb h
theorem Oq {v:AV} (hv:Hw v.sv=true) (hb:(v.sb&&(Fe v.sv == want))=true->(xs.all fun x=>(st.raw x).sb)=true/\Jo st.o (xs.map fun x=>(st.raw x).sv)) (h:Zg P (v.sb&&(Fe v.sv == want)) f (Jv st.o (xs.map fun x=>(st.raw x).sv)) (Tm (xs.map fun x=>(st.raw x).sv)) d os st (Fi (.call ⟨.value (.func f),xs.toArray,ts⟩) st) tr KT):Ak2 P d (.call ⟨.value (.func f),xs.toArray,ts⟩) ty v want os st tr KT:=by
 obtain⟨σr,res,h1,h2⟩:=h
 refine⟨hv,(res.shift st.ob.length,Lj st.ob.length 0 σr),fun hg=>?_,h2⟩
 obtain⟨q1,q2⟩:=hb hg
 obtain⟨q3,q4⟩:=h1 hg
 exact⟨⟨rfl,q1⟩,.inl ⟨f,[],σr,res,rfl,by simpa using q3,by simpa using q2,by simpa using q4,rfl⟩⟩
theorem Acz.skip {args:List AV} (h:runs P os (st.after d (.gd false .any) []) K):Acz P false f args bor d os st K:=⟨[],.any,(fun e=>by cases e),h⟩
theorem Zg.skip {args:List AV} (h:Gn P os (st.after d (.gd false .any) []) ((rd,[])::tr) KT):Zg P false f args bor d os st rd tr KT:=⟨[],.any,(fun e=>by cases e),h⟩
theorem Acz.lo {g:Bool} {args args':List AV} {σr:List Ob} {res:AV} (hp:Ey P f [] args' σr res) (ha:J6 args=args') (hl:bor=true->res.cln=true/\σr.all Ob.cln=true) (h:runs P os (st.after d (.gd g (res.shift st.ob.length)) (bif g then Lj st.ob.length 0 σr else [])) K):Acz P g f args bor d os st K:=⟨σr,res,fun _=>⟨hp.le (by rw[<- ha];exact Qg.low _),hl⟩,h⟩
theorem Zg.lo {g:Bool} {args args':List AV} {σr:List Ob} {res:AV} (hp:Ey P f [] args' σr res) (ha:J6 args=args') (hl:bor=true->res.cln=true/\σr.all Ob.cln=true) (h:Gn P os (st.after d (.gd g (res.shift st.ob.length)) (bif g then Lj st.ob.length 0 σr else [])) ((rd,(Lj st.ob.length 0 σr).map (·.1))::tr) KT):Zg P g f args bor d os st rd tr KT:=⟨σr,res,fun _=>⟨hp.le (by rw[<- ha];exact Qg.low _),hl⟩,h⟩
end
theorem Ayw (fr:Bool):∀(t:T),(T.av fr t).ids=[]
 | .lit v=>by simp only[T.av,AV.ids]
 | .sl k es=>by simp only[T.av,AV.ids]
 | .fn f cs off=>by simp only[T.av,AV.ids,G5];rfl
theorem Ake (fr:Bool):∀(l:List T),G5 (l.map (T.av fr))=[]
 | []=>by simp only[List.map_nil,G5]
 | t::l=>by simp only[List.map_cons,G5,Ayw,Ake fr l,List.append_nil]
theorem Asa (n:Nat) (fr:Bool) (l:List T):G5 ((l.map (T.av fr)).take n)=[]:=by
 rw[<- List.map_take];exact Ake fr _
attribute [go_sem] Ake Asa
def Ob.low:Ob->Ob
 | .box ty cs=>.box ty (J6 cs)
 | o=>o
theorem Vl.low (o:Ob):Vl o o.low:=by
 cases o with
 | box ty cs=>exact .box (Qg.low cs)
 | gone=>exact .gone
 | row ty k fr fz es=>exact Vl.refl _
theorem Ey.lowO {σa:List Ob} {args:List AV} {σr:List Ob} {res:AV} (h:Ey P f (σa.map Ob.low) (J6 args) σr res):Ey P f σa args σr res:=by
 refine⟨h.1,fun E β us hn ho hβ r=>?_⟩
 have hlen:(J6 args).length=args.length:=(Qg.length (Qg.low args)).symm
 have hC:∀sl sl':List (Nat×AV),True:=fun _ _=>trivial
 have hget:∀j,(St.mk [] (σa.map Ob.low)).o j=((St.mk [] σa).o j).low:=fun j=>by
  show (σa.map Ob.low).getD j Ob.gone=(σa.getD j Ob.gone).low
  rw[Ad,Ad,Ap]
  cases σa[j]? <;> rfl
 have hlow:∀o:Ob,o.low≠.gone<->o≠.gone:=fun o=>by cases o<;>simp[Ob.low]
 let E2:Gi:={ E with o0:=(St.mk [] (σa.map Ob.low)).o }
 have hM:E2.M=E.M:=by
  funext b
  apply propext
  constructor
  ·rintro⟨j,h1,h2⟩
   have h1:(St.mk [] (σa.map Ob.low)).o j≠.gone:=h1
   rw[hget,hlow] at h1
   exact⟨j,by rw[ho];exact h1,h2⟩
  rintro⟨j,h1,h2⟩
  rw[ho] at h1
  exact⟨j,by show (St.mk [] (σa.map Ob.low)).o j≠.gone;rw[hget,hlow];exact h1,h2⟩
 have hlv:∀o:Ob,o.low.live<->o.live:=fun o=>by cases o<;>simp[Ob.low,Ob.live]
 have hStep:∀C:VC,∀C':VC,C'.h=C.h->C'.β=C.β->C'.B=C.B->C'.M=C.M->C'.im=C.im->C'.fr=C.fr->(∀j,C'.ob j=(C.ob j).low)->∀c u,Ea C c u->Ea C' c u:=fun C C' h1 h2 h3 h4 h5 h6 h7 c u hv=>by
  refine hv.step ⟨h3,fun b hb=>by rw[h4];exact hb,fun b hb=>by rw[h5];exact hb,fun b hb=>by rw[h6];exact hb,by rw[h1];exact Aj _,?_,fun b _ _=>by rw[h1],fun id ty cs hc=>⟨⟨J6 cs,by rw[h7,hc];rfl⟩,by rw[h2]⟩,fun id ty k fr fz es hc=>⟨fr,fz,es,by rw[h7,hc];rfl,Aj _,fun _=>⟨by rw[h2],fun b cur hb hcur=>⟨cur,by rw[h1];exact hcur,rfl⟩⟩⟩⟩
  rintro b _ ⟨id,h8,h9⟩
  rw[h7,hlv] at h9
  exact⟨id,by rw[<- h2];exact h8,h9⟩
 have hCC:∀sl sl':List (Nat×AV),∀c u,Ea (E.C β ⟨sl,σa⟩ E.w0) c u->Ea (E2.C β ⟨sl',σa.map Ob.low⟩ E.w0) c u:=fun sl sl'=>hStep _ _ rfl rfl rfl hM rfl rfl hget
 have r2:Eo E2 β ⟨Hr 0 (J6 args),σa.map Ob.low⟩ ⟨us,[]⟩ E2.w0:=by
  refine⟨r.sz,fun t=>?_,r.df,fun j=>?_,fun i j b hi hj=>?_,fun i b hi hb=>?_,Kp.refl _ _,⟨fun id ty cs h=>⟨⟨cs,h⟩,congrFun hβ.symm id⟩,fun id ty k fr fz es h=>⟨fr,fz,es,h,Aj _,fun _=>⟨congrFun hβ.symm id,fun b cur hb hc=>⟨cur,hc,rfl⟩⟩⟩⟩,r.kb,r.dk⟩
  ·have hr:=r.sl t
   have hr:Ea (E.C β ⟨Hr 0 args,σa⟩ E.w0) (Ez (Hr 0 args) t) (us.getD t undef):=hr
   show Ea _ (Ez (Hr 0 (J6 args)) t) _
   rw[K8,if_pos (Ae _),Ad] at hr ⊢
   cases hq:(J6 args)[t - 0]? with
   | none=>exact .any _
   | some c' =>
    obtain⟨c,g1,g2⟩:=(Qg.low args).get hq
    rw[g1] at hr
    exact g2 _ _ (hCC _ _ _ _ hr)
  ·have hr:=r.ob j
   have hr:J8 (E.C β ⟨Hr 0 args,σa⟩ E.w0) j ((St.mk [] σa).o j):=hr
   show J8 _ j ((St.mk [] (σa.map Ob.low)).o j)
   rw[hget]
   cases hq:(St.mk [] σa).o j with
   | gone=>trivial
   | box ty cs =>
    rw[hq] at hr
    obtain⟨b,cur,q1,q2,q3,q4⟩:=hr
    refine⟨b,cur,q1,q2,by rw[<- Qg.length (Qg.low cs)];exact q3,fun i c u hc hu=>?_⟩
    obtain⟨c0,g1,g2⟩:=(Qg.low cs).get hc
    exact⟨g2 _ _ (hCC _ _ _ _ (q4 i c0 u g1 hu).1),(q4 i c0 u g1 hu).2⟩
   | row ty k fr fz es =>
    rw[hq] at hr
    obtain⟨q1,q2⟩:=hr
    refine⟨q1,?_⟩
    have hb:(E2.C β ⟨Hr 0 (J6 args),σa.map Ob.low⟩ E.w0).β j=(E.C β ⟨Hr 0 args,σa⟩ E.w0).β j:=rfl
    show match (E2.C β ⟨Hr 0 (J6 args),σa.map Ob.low⟩ E.w0).β j with | none=>es=[] | some b=>_
    rw[hb]
    cases hbb:(E.C β ⟨Hr 0 args,σa⟩ E.w0).β j with
    | none=>rw[hbb] at q2;exact q2
    | some b =>
     rw[hbb] at q2
     obtain⟨cur,c,g1,g2,g3,g4,g5⟩:=q2
     refine⟨cur,c,g1,g2,g3,g4,fun i e j x he hx=>?_⟩
     obtain⟨u,p1,p2⟩:=g5 i e j x he hx
     refine⟨u,p1,p2.keep (fun _ _=>rfl) fun b hs=>⟨hs.1,fun⟨id,h8,h9⟩=>hs.2.1 ⟨id,h8,?_⟩,?_⟩⟩
     ·have h9:((St.mk [] (σa.map Ob.low)).o id).live:=h9
      rw[hget,hlv] at h9
      exact h9
     show E.w0.heap.size<=b\/E2.M b\/_
     rw[hM]
     exact hs.2.2
  ·exact r.inj i j b (by have hi:(St.mk [] (σa.map Ob.low)).o i≠.gone:=hi;rw[hget,hlow] at hi;exact hi) (by have hj:(St.mk [] (σa.map Ob.low)).o j≠.gone:=hj;rw[hget,hlow] at hj;exact hj)
  have:=r.rng i b (by have hi:(St.mk [] (σa.map Ob.low)).o i≠.gone:=hi;rw[hget,hlow] at hi;exact hi) hb
  exact⟨this.1,by rw[hM];exact this.2⟩
 refine (h.2 E2 β us (by rw[hlen];exact hn) rfl hβ r2).mono ?_
 rintro e w' ⟨v,β',rfl,r3⟩
 refine⟨v,β',rfl,?_⟩
 have hC2:({ E2 with n:=1 }:Gi).C β' ⟨[(0,res)],σr⟩ w'=({ E with n:=1 }:Gi).C β' ⟨[(0,res)],σr⟩ w':=by
  show VC.mk _ _ _ _ _ _ _=VC.mk _ _ _ _ _ _ _
  congr 1
 refine⟨r3.sz,fun t=>by rw[<- hC2];exact r3.sl t,r3.df,fun id=>by rw[<- hC2];exact r3.ob id,r3.inj,fun i b hi hb=>?_,?_,?_,r3.kb,r3.dk⟩
 ·have:=r3.rng i b hi hb
  refine⟨this.1,?_⟩
  have h2:E.w0.heap.size<=b\/E2.M b:=this.2
  rw[hM] at h2
  exact h2
 ·have:=r3.kp
  refine⟨this.os,this.tape,this.output,this.size,fun b hb hm=>this.block b hb fun h=>hm ?_⟩
  have h:E2.M b:=h
  rw[hM] at h
  exact h
 rw[<- hC2]
 refine⟨fun id ty cs hc=>?_,fun id ty k fr fz es hc=>?_⟩
 ·have hc:E.o0 id=_:=hc
  rw[ho] at hc
  exact r3.ct.box id ty (J6 cs) (by show (St.mk [] (σa.map Ob.low)).o id=_;rw[hget,hc];rfl)
 have hc:E.o0 id=_:=hc
 rw[ho] at hc
 exact r3.ct.row id ty k fr fz es (by show (St.mk [] (σa.map Ob.low)).o id=_;rw[hget,hc];rfl)
def Ac0 (Gx:List AV) (st:St) (sel:List Nat) (σr:List Ob) (res:AV):Prop :=
 sel.Nodup/\(∀id∈sel,(st.o id).live)/\Jo st.o Gx/\(∀id∈sel,(st.o id).passC st.o)/\sel.length<=σr.length/\(∀id∈sel,id∈rdC st.o (G5 Gx)/\∀x∈obI (st.o id),x∈rdC st.o (G5 Gx)) /\
  ((Tl (fun id=>Ms id sel 0) Gx||sel.any fun id=>(st.o id).borR fun id=>Ms id sel 0)=true->res.cln=true/\σr.all Ob.cln=true)
section
variable {P:Program} {d:Option Tmp} {os:List VO} {st:St} {K:St->Prop} {KT:Tr->St->Prop} {tr:Tr}
theorem Ye.of {args' Gx:List AV} {σa σr:List Ob} {res:AV} (sel:List Nat) (hp:Ey P f σa args' σr res) (hσ:(sel.map fun id=>((st.o id).passR st.o fun id=>Ms id sel 0).low)=σa) (ha:J6 (G4 st.o (fun id=>Ms id sel 0) Gx)=args') (hc:Ac0 Gx st sel σr res) (nid:Nat):Ye P f Gx st.o nid sel σr res:=by
 obtain⟨h1,h2,h3,h4,h5,h6,h7⟩:=hc
 refine⟨h1,h2,Ey.lowO ?_,h3,h4,h5,h6,h7⟩
 rw[ha,List.map_map]
 rw[<- hσ] at hp
 exact hp
theorem Tq.ob {args args' Gx:List AV} {σa σr:List Ob} {res:AV} (sel:List Nat) (hp:Ey P f σa args' σr res) (hσ:(sel.map fun id=>((st.o id).passR st.o fun id=>Ms id sel 0).low)=σa) (ha:J6 (G4 st.o (fun id=>Ms id sel 0) Gx)=args') (hc:Ac0 Gx st sel σr res) (h:runs P os (st.after d (Om sel st.ob.length σr res).1 (Om sel st.ob.length σr res).2) K):Tq P f args bor Gx d os st K:=⟨.inr ⟨sel,σr,res,.of sel hp hσ ha hc _,h⟩⟩
theorem W7.ob {args args' Gx:List AV} {σa σr:List Ob} {res:AV} (sel:List Nat) (hp:Ey P f σa args' σr res) (hσ:(sel.map fun id=>((st.o id).passR st.o fun id=>Ms id sel 0).low)=σa) (ha:J6 (G4 st.o (fun id=>Ms id sel 0) Gx)=args') (hc:Ac0 Gx st sel σr res) (h:Gn P os (st.after d (Om sel st.ob.length σr res).1 (Om sel st.ob.length σr res).2) ((rd,(Om sel st.ob.length σr res).2.map (·.1))::tr) KT):W7 P f args bor Gx d os st rd tr KT:=⟨.inr ⟨sel,σr,res,.of sel hp hσ ha hc _,h⟩⟩
end
attribute [go_sem] Ob.low G4 AV.passR Ob.passR Tl AV.borR Ob.borR Ob.live Ob.passC Ac0 bkN Akf Ahl Om AV.bk bkL Ob.bk
end
end Go.Proofs.YtkkimgjinbaemaaGreat
