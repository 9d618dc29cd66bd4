/- The walk. -/
import Derived.Test.YtkkimgjinbaemaaGreatRows
import Derived.WalkKit
import Derived.WalkSpells
import Derived.WalkLawsBesides
import Derived.Lib.Hide
import Derived.Handy
import Derived.Deep.Light
import Derived.Deep.RegionHeld3
import Derived.OpenShut
import Derived.Laws.OwnMore
import Derived.Laws.CopyRow
import Derived.Laws.Tables
import Derived.Laws.MakeOwn
import Derived.Laws.Append
import Derived.ArgAppend
import Derived.Laws.CopyOwn
import Derived.Laws.Entries
import Derived.Laws.Slices
import Derived.Laws.Strings
import Derived.Laws.BytesString
import Derived.Laws.StructEq
import Derived.ChangeKeysEq
import Derived.TacticsIn
import Derived.OrdersIn
import Derived.RangeFuncLeaves
import Derived.RangeFuncNested
import Derived.Orders
import Derived.RangeFuncCalls
import Derived.Scope
import Derived.Lib.AppendZeros
import Derived.Shelf.Spec.SlicesInsertGrow
noncomputable section
namespace Go.Proofs.YtkkimgjinbaemaaGreat
open Go.RowKit
set_option linter.unusedVariables false
set_option linter.unusedSimpArgs false
set_option linter.defProp false
set_option linter.unusedSectionVars false
set_option maxRecDepth 100000
set_option maxHeartbeats 4000000
section
abbrev Aa:=@List.getElem?_eq_getElem
abbrev Ab:=@List.getElem?_eq_some_iff
abbrev Ac:=@List.mem_of_getElem?
abbrev Ad:=@List.getD_eq_getElem?_getD
abbrev Ae:=@Nat.zero_le
abbrev Af:=@Nat.add_assoc
abbrev Ag:=@List.getElem?_take_of_lt
abbrev Ah:=@Bool.and_eq_true
abbrev Ai:=@Option.map_some
abbrev Aj:=@Nat.le_refl
abbrev Ak:=@Nat.le_trans
abbrev Al:=@Array.getElem?_eq_getElem
abbrev Am:=@List.all_eq_true
abbrev An:=@List.mem_singleton
abbrev Ao:=@List.getElem?_append_right
abbrev Ap:=@List.getElem?_map
abbrev Aq:=@List.mem_of_mem_take
abbrev Ar:=@List.getElem?_eq_none
abbrev Au:=@List.getElem?_append_left
abbrev Av:=@Array.getD_eq_getD_getElem?
abbrev Aw:=@Array.getElem?_eq_some_iff
abbrev Ax:=@And.intro
abbrev Ay:=@List.mem_of_mem_drop
abbrev Az:=@List.length_filter_le
abbrev A0:=@List.mem_append
abbrev A1:=@Nat.mul_le_mul_right
abbrev A2:=@List.length_map
abbrev A3:=@List.mem_iff_getElem?
abbrev A4:=@List.mem_map
abbrev A5:=@List.length_take
abbrev A6:=@List.length_cons
abbrev A7:=@Nat.add_left_comm
abbrev A8:=@List.not_mem_nil
abbrev A9:=@List.getElem?_set_ne
abbrev Ba:=@Nat.add_comm
abbrev Bb:=@List.getElem?_cons_succ
abbrev Bc:=@List.length_drop
abbrev Bd:=@List.getElem?_drop
abbrev Be:=@Nat.add_mul
abbrev Bf:=@List.take_of_length_le
abbrev Bg:=@List.getElem?_set_self
abbrev Bh:=@Option.getD_some
abbrev Bi:=@List.mem_or_eq_of_mem_set
abbrev Bj:=@List.mem_append_left
abbrev Bk:=@Array.getElem?_append_left
abbrev Bl:=@Bool.false_eq_true
abbrev Bm:=@Nat.zero_add
abbrev Bn:=@List.mem_filter
abbrev Bo:=@List.length_append
def Box (w:World) (g:Nat) (t:TypeId) (cs:Array Value):Prop:=w.heap[g]? = some (.cells cs t (0,0))
section
variable {w w':World} {g:Nat} {t:TypeId} {cs:Array Value}
theorem Box.lt (h:Box w g t cs):g<w.heap.size:=by
 apply Classical.byContradiction
 intro hge
 unfold Box at h
 rw[Array.getElem?_eq_none (by omega)] at h
 cases h
theorem Box.cell (h:Box w g t cs) (i:Nat):w.cell? ⟨g,i,none⟩=cs[i]?:=cell_of_row w g i cs t (0,0) h
theorem Box.frozen (h:Box w g t cs) (i:Nat):w.frozen? ⟨g,i,none⟩=false:=by
 unfold Box at h
 simp[World.frozen?,h]
theorem Box.new (w:World) (t:TypeId) (cs:Array Value):Box (w.alloc (.cells cs t)) w.heap.size t cs:=heap_alloc_new w _
theorem Box.drew (h:Box w g t cs):Box w.drew g t cs:=h
theorem Box.alloc (h:Box w g t cs) (o:Obj):Box (w.alloc o) g t cs:=(Below.heap_alloc w o g h.lt).trans h
theorem Box.put (h:Box w g t cs) (i:Nat) (u:Value):Box (w.setCell ⟨g,i,none⟩ u) g t (cs.setIfInBounds i u):=by
 unfold Box at h ⊢
 simp[World.setCell,Array.getElem?_modify,h]
end
def Apv (w:World) (a:Option Addr) (len cap:Nat) (zs:List Int):Prop :=
 (a=none/\len=0/\cap=0/\zs=[]) \/
 ∃x,a=some x/\len<=cap/\cap<=maxLen/\zs.length=cap/\(∀i,i<zs.length->w.cell? (x.add i)=some (.int .i64 (zs.getD i 0)))/\∀n∈zs,(Lit.int .i64 n).wf=true
variable {w:World}
theorem Apv.at_ {a:Option Addr} {len cap:Nat} {zs:List Int} (h:Apv w a len cap zs) (i:Nat) (hi:i<len) :
 ∃b off,a=some ⟨b,off,none⟩/\b<w.heap.size/\w.cell? ⟨b,off+i,none⟩=some (.int .i64 (zs.getD i 0)):=by
 rcases h with⟨_,rfl,_,_⟩ | ⟨x,rfl,hl,hm,hz,hc,hw⟩
 ·omega
 obtain⟨b,off,spot⟩:=x
 have h0:=hc i (by omega)
 have h00:=hc 0 (by omega)
 have hspot:spot=none:=by simpa[Addr.add] using World.cell?_spot h00
 subst hspot
 have h1:w.cell? ⟨b,off+i,none⟩=some (.int .i64 (zs.getD i 0)):=by rw[Addr.add_lit] at h0;exact h0
 exact⟨b,off,rfl,World.block_lt_of_cell? w _ h1,h1⟩
theorem Apj {B:Nat} {a w:World} (h:Below B a w) (n:Nat):Below B a (w.drewN n):=⟨h.os,h.tape,h.output,h.size,h.block⟩
def A24 (w:World) (B:Nat) (A:Option Addr) (xs:List Int):Prop :=
 ∀i,i<xs.length->∃b off,A=some ⟨b,off,none⟩/\b<B/\w.cell? ⟨b,off+i,none⟩=some (.int .i64 (xs.getD i 0))
theorem A24.more {B B':Nat} {A:Option Addr} {xs:List Int} (h:A24 w B A xs) (hB:B<=B'):A24 w B' A xs:=fun i hi=>by
 obtain⟨b,off,e,hlt,hc⟩:=h i hi
 exact⟨b,off,e,by omega,hc⟩
end
section
inductive T where
  | lit (v:Value)
  | sl (k:Nat) (es:List (List T))
  | fn (f:FuncId) (cs:List T) (off:Nat)
inductive AV where
  | any
  | lit (v:Value)
  | nil (k:Nat)
  | imm (fr:Bool) (k:Nat) (es:List (List T))
  | own (id n:Nat)
  | sub (id n lo m:Nat)
  | ptr (id off:Nat)
  | rptr (id n i off:Nat)
  | bsl (id n:Nat)
  | iptr (fr:Bool) (cs:List T) (off:Nat)
  | agg (cs:List AV)
  | tup (vs:List AV)
  | fn (f:FuncId) (caps:List AV)
  | gd (t:Bool) (v:AV)
inductive Ob where
  | gone
  | box (ty:TypeId) (cs:List AV)
  | row (ty k:Nat) (fr fz:Bool) (es:List (List T))
def Ob.live:Ob->Prop
 | .gone=>False
 | .box _ _=>True
 | .row _ _ _ fz _=>fz=false
inductive Gq (h:Array Obj) (S:Nat->Prop):T->Value->Prop
  | lit (v:Value):v.oneCell'=true->Gq h S (.lit v) v
  | nil (k:Nat) (A:Option Addr) (c:Nat):Gq h S (.sl k []) (.slice A 0 c)
  | sl (k : Nat) (es : List (List T)) (b off c : Nat) (cur : Array Value) (ty : TypeId) (fz : Nat × Nat) (us : Nat -> Nat -> Value) :
      h[b]? = some (.cells cur ty fz)->S b->es.length<=c->(∀(i:Nat) (e:List T),es[i]? = some e->e.length=k) ->
      (∀(i:Nat) (e:List T) (j:Nat) (x:T),es[i]? = some e->e[j]? = some x->cur[off+i*k+j]? = some (us i j)) ->
      (∀(i:Nat) (e:List T) (j:Nat) (x:T),es[i]? = some e->e[j]? = some x->Gq h S x (us i j))->Gq h S (.sl k es) (.slice (some ⟨b,off,none⟩) es.length c)
  | fn (f : FuncId) (cs : List T) (off b o : Nat) (cur : Array Value) (ty : TypeId) (fz : Nat × Nat) (us : Nat -> Value) : h[b]? = some (.cells cur ty fz) -> S b -> (∀ (j : Nat) (x : T), cs[j]? = some x -> cur[o + j]? = some (us j)) ->
      (∀(j:Nat) (x:T),cs[j]? = some x->Gq h S x (us j))->Gq h S (.fn f cs off) (.func (.func f) #[] #[.pointer (some ⟨b,o+off,none⟩)])
variable {h h':Array Obj} {t:T} {u:Value}
theorem Gq.keepC {S S':Nat->Prop} (r:Gq h S t u) (hk:∀b cur ty fz,S b->h[b]? = some (.cells cur ty fz)->h'[b]? = some (.cells cur ty fz)) (hS:∀b,S b->S' b):Gq h' S' t u:=by
 induction r with
 | lit v h1=>exact .lit v h1
 | nil k A c=>exact .nil k A c
 | sl k es b off c cur ty fz us h1 h2 h3 h4 h5 _ ih=>exact .sl k es b off c cur ty fz us (hk b cur ty fz h2 h1) (hS b h2) h3 h4 h5 ih
 | fn f cs off b o cur ty fz us h1 h2 h3 _ ih=>exact .fn f cs off b o cur ty fz us (hk b cur ty fz h2 h1) (hS b h2) h3 ih
theorem Gq.keep {S S':Nat->Prop} (r:Gq h S t u) (hk:∀b,S b->h'[b]? = h[b]?) (hS:∀b,S b->S' b):Gq h' S' t u :=
 r.keepC (fun b cur ty fz h1 h2=>(hk b h1).trans h2) hS
theorem Gq.one {h:Array Obj} {S:Nat->Prop} (r:Gq h S t u):u.oneCell'=true:=by
 cases r<;>first | assumption | rfl
structure VC where
  h:Array Obj
  ob:Nat->Ob
  β:Nat->Option Nat
  B:Nat
  M:Nat->Prop
  im:Nat->Prop
  fr:Nat->Prop
def VC.lives (C:VC) (b:Nat):Prop:=∃id,C.β id=some b/\(C.ob id).live
def VC.S (C:VC) (f:Bool) (b:Nat):Prop:=b<C.h.size/\¬C.lives b/\(C.B<=b\/C.M b\/(C.im b/\(f=true->C.fr b)))
def Ah2 (C:VC) (id n:Nat) (u:Value):Prop :=
 u.oneCell'=true/\∃ty k fr fz es,C.ob id=.row ty k fr fz es/\n<=es.length/\(n=es.length ->
  match C.β id with
  | none=>∃A,u=.slice A 0 0
  | some b=>∃c cur,C.h[b]? = some (.cells cur ty (0,0))/\cur.size=c*k/\u=.slice (some ⟨b,0,none⟩) n c)
def A5j (C:VC) (id n lo m:Nat) (u:Value):Prop :=
 u.oneCell'=true/\∃ty k fr fz es,C.ob id=.row ty k fr fz es/\n<=es.length/\(n=es.length->lo+m<=es.length/\∃A c,u=.slice A m c/\m<=c/\es.length<=lo+c/\(c=0\/∃b,C.β id=some b/\A=some ⟨b,lo*k,none⟩))
def A5m (C:VC) (id n i off:Nat) (u:Value):Prop :=
 u.oneCell'=true/\∃ty k fr fz es,C.ob id=.row ty k fr fz es/\n<=es.length/\(n=es.length->∃b,C.β id=some b/\u=.pointer (some ⟨b,i*k+off,none⟩))
def A7t (C:VC) (id off:Nat) (u:Value):Prop:=∃ty cs b,C.ob id=.box ty cs/\C.β id=some b/\u=.pointer (some ⟨b,off,none⟩)
def A7y (C:VC) (id n:Nat) (u:Value):Prop:=∃ty cs b c,C.ob id=.box ty cs/\C.β id=some b/\u=.slice (some ⟨b,0,none⟩) n c/\n<=c
inductive Ec (C:VC):AV->Value->Prop
  | any (u:Value):Ec C .any u
  | lit (v:Value):Ec C (.lit v) v
  | nil (k:Nat) (A:Option Addr):Ec C (.nil k) (.slice A 0 0)
  | imm (fr:Bool) (k:Nat) (es:List (List T)) (u:Value):Gq C.h (C.S fr) (.sl k es) u->Ec C (.imm fr k es) u
  | own (id n:Nat) (u:Value):Ah2 C id n u->Ec C (.own id n) u
  | sub (id n lo m:Nat) (u:Value):A5j C id n lo m u->Ec C (.sub id n lo m) u
  | ptr (id off:Nat) (u:Value):A7t C id off u->Ec C (.ptr id off) u
  | rptr (id n i off:Nat) (u:Value):A5m C id n i off u->Ec C (.rptr id n i off) u
  | bsl (id n:Nat) (u:Value):A7y C id n u->Ec C (.bsl id n) u
  | iptr (fr : Bool) (cs : List T) (off b o : Nat) (cur : Array Value) (ty : TypeId) (fz : Nat × Nat) (us : Nat -> Value) : C.h[b]? = some (.cells cur ty fz) -> C.S fr b ->
      (∀(j:Nat) (x:T),cs[j]? = some x->cur[o+j]? = some (us j)/\Gq C.h (C.S fr) x (us j))->Ec C (.iptr fr cs off) (.pointer (some ⟨b,o+off,none⟩))
  | agg (cs:List AV) (us:Array Value):cs.length=us.size->(∀(i:Nat) (c:AV) (u:Value),cs[i]? = some c->us[i]? = some u->Ec C c u)->Ec C (.agg cs) (.agg us)
  | tup (cs:List AV) (us:Array Value):cs.length=us.size->(∀(i:Nat) (c:AV) (u:Value),cs[i]? = some c->us[i]? = some u->Ec C c u)->Ec C (.tup cs) (.tuple us)
  | fn (f:FuncId) (cs:List AV) (us:Array Value):cs.length=us.size->(∀(i:Nat) (c:AV) (u:Value),cs[i]? = some c->us[i]? = some u->Ec C c u)->Ec C (.fn f cs) (.func (.func f) #[] us)
  | gd (t:Bool) (v:AV) (u:Value):(t=true->Ec C v u)->(t=false->u=undef)->Ec C (.gd t v) u
def Kx (C:VC) (id:Nat):Ob->Prop
 | .gone=>True
 | .box ty cs=>∃b cur,C.β id=some b/\C.h[b]? = some (.cells cur ty (0,0))/\cs.length<=cur.size/\∀(j:Nat) (c:AV) (u:Value),cs[j]? = some c->cur[j]? = some u->Ec C c u/\u.oneCell'=true
 | .row ty k fr fz es=>(0<k/\∀(i:Nat) (e:List T),es[i]? = some e->e.length=k) /\
  match C.β id with
  | none=>es=[]
  | some b=>∃cur c,C.h[b]? = some (.cells cur ty (0,0))/\cur.size=c*k/\es.length<=c/\c<=maxLen /\
   ∀(i:Nat) (e:List T) (j:Nat) (x:T),es[i]? = some e->e[j]? = some x->∃u,cur[i*k+j]? = some u/\Gq C.h (C.S fr) x u
structure Ot (C C':VC):Prop where
  B:C'.B=C.B
  M:∀b,C.M b->C'.M b
  im:∀b,C.im b->C'.im b
  fr:∀b,C.fr b->C'.fr b
  size:C.h.size<=C'.h.size
  live:∀b,b<C.h.size->C'.lives b->C.lives b
  keep:∀b,b<C.h.size->¬C.lives b->C'.h[b]? = C.h[b]?
  box:∀id ty cs,C.ob id=.box ty cs->(∃cs',C'.ob id=.box ty cs')/\C'.β id=C.β id
  row:∀id ty k fr fz es,C.ob id=.row ty k fr fz es->∃fr' fz' es',C'.ob id=.row ty k fr' fz' es'/\es.length<=es'.length/\(es.length=es'.length ->
    C'.β id=C.β id/\∀b cur,C.β id=some b->C.h[b]? = some (.cells cur ty (0,0))->∃cur':Array Value,C'.h[b]? = some (.cells cur' ty (0,0))/\cur'.size=cur.size)
structure Yb (C C':VC):Prop where
  B:C'.B=C.B
  M:∀b,C.M b->C'.M b
  im:∀b,C.im b->C'.im b
  fr:∀b,C.fr b->C'.fr b
  size:C.h.size<=C'.h.size
  live:∀b,b<C.h.size->C'.lives b->C.lives b
  keep:∀b cur ty fz,b<C.h.size->¬C.lives b->C.h[b]? = some (.cells cur ty fz)->C'.h[b]? = some (.cells cur ty fz)
  box:∀id ty cs,C.ob id=.box ty cs->(∃cs',C'.ob id=.box ty cs')/\C'.β id=C.β id
  row:∀id ty k fr fz es,C.ob id=.row ty k fr fz es->∃fr' fz' es',C'.ob id=.row ty k fr' fz' es'/\es.length<=es'.length/\(es.length=es'.length ->
    C'.β id=C.β id/\∀b cur,C.β id=some b->C.h[b]? = some (.cells cur ty (0,0))->∃cur':Array Value,C'.h[b]? = some (.cells cur' ty (0,0))/\cur'.size=cur.size)
theorem Ot.toW {C C':VC} (s:Ot C C'):Yb C C':=⟨s.B,s.M,s.im,s.fr,s.size,s.live,fun b cur ty fz h1 h2 h3=>(s.keep b h1 h2).trans h3,s.box,s.row⟩
variable {f:Bool} {b:Nat}
theorem Yb.S {C C':VC} (s:Yb C C') (h:C.S f b):C'.S f b:=by
 obtain⟨h1,h2,h3⟩:=h
 refine⟨Nat.lt_of_lt_of_le h1 s.size,fun hl=>h2 (s.live b h1 hl),?_⟩
 rcases h3 with h3 | h3 | ⟨h3,h4⟩
 ·exact .inl (by rw[s.B];exact h3)
 ·exact .inr (.inl (s.M b h3))
 exact .inr (.inr ⟨s.im b h3,fun e=>s.fr b (h4 e)⟩)
theorem Yb.T {C C':VC} (s:Yb C C') (h:Gq C.h (C.S f) t u):Gq C'.h (C'.S f) t u :=
 h.keepC (fun b cur ty fz hb hc=>s.keep b cur ty fz hb.1 hb.2.1 hc) fun b hb=>s.S hb
theorem Ot.S {C C':VC} (s:Ot C C') (h:C.S f b):C'.S f b:=s.toW.S h
theorem Ot.T {C C':VC} (s:Ot C C') (h:Gq C.h (C.S f) t u):Gq C'.h (C'.S f) t u:=s.toW.T h
theorem VC.S_weak {C:VC} (h:C.S f b):C.S false b:=by
 obtain⟨h1,h2,h3⟩:=h
 refine⟨h1,h2,?_⟩
 rcases h3 with h3 | h3 | ⟨h3,_⟩
 ·exact .inl h3
 ·exact .inr (.inl h3)
 exact .inr (.inr ⟨h3,fun e=>by cases e⟩)
theorem VC.T_weak {C:VC} {f g:Bool} (h:Gq C.h (C.S f) t u) (hg:g=true->f=true):Gq C.h (C.S g) t u:=by
 cases g
 ·exact h.keep (fun _ _=>rfl) fun b hb=>VC.S_weak hb
 rw[hg rfl] at h;exact h
theorem Ec.stepW {C C':VC} (s:Yb C C') {c:AV} (r:Ec C c u):Ec C' c u:=by
 induction r with
 | any u=>exact .any u
 | lit v=>exact .lit v
 | nil k A=>exact .nil k A
 | imm fr k es u h=>exact .imm fr k es u (s.T h)
 | own id n u h =>
  refine .own id n u ?_
  obtain⟨h0,ty,k,fr,fz,es,ho,hn,h1⟩:=h
  obtain⟨fr',fz',es',ho',hle,h2⟩:=s.row id ty k fr fz es ho
  refine⟨h0,ty,k,fr',fz',es',ho',by omega,fun e=>?_⟩
  obtain⟨h3,h4⟩:=h2 (by omega)
  have h5:=h1 (by omega)
  rw[h3]
  cases hb:C.β id with
  | none=>rw[hb] at h5;exact h5
  | some b =>
   rw[hb] at h5
   obtain⟨c,cur,h6,h7,h8⟩:=h5
   obtain⟨cur',h9,h10⟩:=h4 b cur hb h6
   exact⟨c,cur',h9,by rw[h10,h7],h8⟩
 | sub id n lo m u h =>
  refine .sub id n lo m u ?_
  obtain⟨h0,ty,k,fr,fz,es,ho,hn,h1⟩:=h
  obtain⟨fr',fz',es',ho',hle,h2⟩:=s.row id ty k fr fz es ho
  refine⟨h0,ty,k,fr',fz',es',ho',by omega,fun e=>?_⟩
  obtain⟨h3,_⟩:=h2 (by omega)
  obtain⟨h4,A,c,h5,h6,h6',h7⟩:=h1 (by omega)
  refine⟨by omega,A,c,h5,h6,by omega,?_⟩
  rw[h3]
  exact h7
 | ptr id off u h =>
  obtain⟨ty,cs,b,ho,hb,hu⟩:=h
  obtain⟨⟨cs',ho'⟩,hβ⟩:=s.box id ty cs ho
  exact .ptr id off u ⟨ty,cs',b,ho',by rw[hβ];exact hb,hu⟩
 | bsl id n u h =>
  obtain⟨ty,cs,b,c,ho,hb,hu⟩:=h
  obtain⟨⟨cs',ho'⟩,hβ⟩:=s.box id ty cs ho
  exact .bsl id n u ⟨ty,cs',b,c,ho',by rw[hβ];exact hb,hu⟩
 | rptr id n i off u h =>
  refine .rptr id n i off u ?_
  obtain⟨h0,ty,k,fr,fz,es,ho,hn,h1⟩:=h
  obtain⟨fr',fz',es',ho',hle,h2⟩:=s.row id ty k fr fz es ho
  refine⟨h0,ty,k,fr',fz',es',ho',by omega,fun e=>?_⟩
  obtain⟨h3,_⟩:=h2 (by omega)
  rw[h3]
  exact h1 (by omega)
 | iptr fr cs off b o cur ty fz us h1 h2 h3 =>
  exact .iptr fr cs off b o cur ty fz us (s.keep b cur ty fz h2.1 h2.2.1 h1) (s.S h2) fun j x hx=>⟨(h3 j x hx).1,s.T (h3 j x hx).2⟩
 | agg cs us h1 _ ih=>exact .agg cs us h1 ih
 | tup cs us h1 _ ih=>exact .tup cs us h1 ih
 | fn f cs us h1 _ ih=>exact .fn f cs us h1 ih
 | gd t v u _ h2 ih=>exact .gd t v u ih h2
theorem Ec.step {C C':VC} (s:Ot C C') {c:AV} (r:Ec C c u):Ec C' c u:=r.stepW s.toW
theorem Kx.stepW {C C':VC} (s:Yb C C') {id:Nat} {o:Ob} (r:Kx C id o) (hβ:C'.β id=C.β id) (hb:∀b,C.β id=some b->C'.h[b]? = C.h[b]?):Kx C' id o:=by
 cases o with
 | gone=>trivial
 | box ty cs =>
  obtain⟨b,cur,h1,h2,h3,h4⟩:=r
  exact⟨b,cur,by rw[hβ];exact h1,(hb b h1).trans h2,h3,fun j c u hc hu=>⟨(h4 j c u hc hu).1.stepW s,(h4 j c u hc hu).2⟩⟩
 | row ty k fr fz es =>
  refine⟨r.1,?_⟩
  have h1:=r.2
  rw[hβ]
  cases hb':C.β id with
  | none=>rw[hb'] at h1;exact h1
  | some b =>
   rw[hb'] at h1
   obtain⟨cur,c,h2,h3,h4,h5,h6⟩:=h1
   refine⟨cur,c,(hb b hb').trans h2,h3,h4,h5,fun i e j x he hx=>?_⟩
   obtain⟨u,h7,h8⟩:=h6 i e j x he hx
   exact⟨u,h7,s.T h8⟩
theorem Kx.step {C C':VC} (s:Ot C C') {id:Nat} {o:Ob} (r:Kx C id o) (hβ:C'.β id=C.β id) (hb:∀b,C.β id=some b->C'.h[b]? = C.h[b]?):Kx C' id o:=r.stepW s.toW hβ hb
def Ac0:Obj->Bool
 | .cells _ _ _=>true
 | _=>false
structure Gs where
  w0:World
  o0:Nat->Ob
  β0:Nat->Option Nat
  im:Nat->Prop
  fr:Nat->Prop
  n:Nat
  ds:List Nat
  kb:Nat->Option Obj
def dmk (D:Nat):Deferred:={ target:=.collected D,args:=#[] }
def Gs.M (E:Gs) (b:Nat):Prop:=∃id,E.o0 id≠.gone/\E.β0 id=some b
structure Apy (h0:Array Obj) (o0:Nat->Ob) (β0:Nat->Option Nat) (C:VC):Prop where
  box:∀id ty cs,o0 id=.box ty cs->(∃cs',C.ob id=.box ty cs')/\C.β id=β0 id
  row:∀id ty k fr fz es,o0 id=.row ty k fr fz es->∃fr' fz' es',C.ob id=.row ty k fr' fz' es'/\es.length<=es'.length/\(es.length=es'.length ->
    C.β id=β0 id/\∀b cur,β0 id=some b->h0[b]? = some (.cells cur ty (0,0))->∃cur':Array Value,C.h[b]? = some (.cells cur' ty (0,0))/\cur'.size=cur.size)
variable {h0:Array Obj} {o0:Nat->Ob} {β0:Nat->Option Nat}
theorem Apy.stepW {C C':VC} (c:Apy h0 o0 β0 C) (s:Yb C C'):Apy h0 o0 β0 C':=by
 refine⟨fun id ty cs h=>?_,fun id ty k fr fz es h=>?_⟩
 ·obtain⟨⟨cs',h1⟩,h2⟩:=c.box id ty cs h
  obtain⟨h3,h4⟩:=s.box id ty cs' h1
  exact⟨h3,h4.trans h2⟩
 obtain⟨fr',fz',es',h1,h2,h3⟩:=c.row id ty k fr fz es h
 obtain⟨fr2,fz2,es2,h4,h5,h6⟩:=s.row id ty k fr' fz' es' h1
 refine⟨fr2,fz2,es2,h4,by omega,fun e=>?_⟩
 obtain⟨h7,h8⟩:=h3 (by omega)
 obtain⟨h9,h10⟩:=h6 (by omega)
 refine⟨h9.trans h7,fun b cur hb hc=>?_⟩
 obtain⟨cur',q1,q2⟩:=h8 b cur hb hc
 obtain⟨cur2,q3,q4⟩:=h10 b cur' (h7.trans hb) q1
 exact⟨cur2,q3,q4.trans q2⟩
theorem Apy.step {C C':VC} (c:Apy h0 o0 β0 C) (s:Ot C C'):Apy h0 o0 β0 C':=c.stepW s.toW
def E9:List (Nat×AV)->Nat->AV
 | [],_=>.any
 | p::l,t=>bif p.1 == t then p.2 else E9 l t
structure St where
  sl:List (Nat×AV)
  ob:List Ob
def St.o (s:St) (id:Nat):Ob:=s.ob.getD id .gone
def Gs.C (E:Gs) (β:Nat->Option Nat) (s:St) (w:World):VC:=⟨w.heap,s.o,β,E.w0.heap.size,E.M,E.im,E.fr⟩
structure Kp (M:Nat->Prop) (w w':World):Prop where
  os:w'.os=w.os
  tape:w'.tape=w.tape
  output:w'.output=w.output
  size:w.heap.size<=w'.heap.size
  block:∀b,b<w.heap.size->¬M b->w'.heap[b]? = w.heap[b]?
structure Eu (E:Gs) (β:Nat->Option Nat) (st:St) (a:Act) (w:World):Prop where
  sz:a.tmps.size=E.n
  sl:∀(t:Nat),Ec (E.C β st w) (E9 st.sl t) (a.tmps.getD t undef)
  df:a.defers=E.ds.map dmk
  ob:∀id,Kx (E.C β st w) id (st.o id)
  inj:∀i j b,st.o i≠.gone->st.o j≠.gone->β i=some b->β j=some b->i=j
  rng:∀i b,st.o i≠.gone->β i=some b->b<w.heap.size/\(E.w0.heap.size<=b\/E.M b)
  kp:Kp E.M E.w0 w
  ct:Apy E.w0.heap E.o0 E.β0 (E.C β st w)
  kb:∀b o,E.kb b=some o->w.heap[b]? = some o/\Ac0 o=false
  dk:E.ds.Nodup/\∀D∈E.ds,E.kb D=some (.deferred (some []))/\E.w0.heap.size<=D

end
section
def P3:List Ob->Nat->Ob->List Ob
 | [],0,x=>[x]
 | [],n+1,x=>.gone::P3 [] n x
 | _::l,0,x=>x::l
 | y::l,n+1,x=>y::P3 l n x
theorem Xn:∀(l:List Ob) (n:Nat) (x:Ob) (i:Nat),(P3 l n x).getD i .gone=if i=n then x else l.getD i .gone
 | [],0,x,i=>by cases i<;>simp[P3]
 | [],n+1,x,0=>by simp[P3]
 | [],n+1,x,i+1=>by have:=Xn [] n x i;simp[P3] at this ⊢;exact this
 | y::l,0,x,i=>by cases i<;>simp[P3]
 | y::l,n+1,x,0=>by simp[P3]
 | y::l,n+1,x,i+1=>by have:=Xn l n x i;simp[P3] at this ⊢;exact this
def St.set (s:St) (id:Nat) (x:Ob):St:={ s with ob:=P3 s.ob id x }
theorem St.set_o (s:St) (id:Nat) (x:Ob) (i:Nat):(s.set id x).o i=if i=id then x else s.o i:=Xn _ _ _ _
def St.put (s:St) (d:Option Tmp) (v:AV):St:=match d with | some d=>{ s with sl:=(d,v)::s.sl } | none=>s
theorem St.put_o (s:St) (d:Option Tmp) (v:AV):(s.put d v).o=s.o:=by cases d<;>rfl
def upd (β:Nat->Option Nat) (id b:Nat):Nat->Option Nat:=fun i=>if i=id then some b else β i
theorem Kp.refl (M:Nat->Prop) (w:World):Kp M w w:=⟨rfl,rfl,rfl,Aj _,fun _ _ _=>rfl⟩
variable {E:Gs} {β:Nat->Option Nat} {st:St} {a:Act} {w:World} {u:Value}
theorem Eu.put (r:Eu E β st a w) {v:AV} (h:Ec (E.C β st w) v u) (d:Option Tmp) (hd:∀x,d=some x->x<E.n):Eu E β (st.put d v) (a.put d u) w:=by
 cases d with
 | none=>exact r
 | some d =>
  have hlt:d<a.tmps.size:=by rw[r.sz];exact hd d rfl
  refine⟨by simp[Act.put,r.sz],fun t=>?_,r.df,r.ob,r.inj,r.rng,r.kp,r.ct,r.kb,r.dk⟩
  show Ec (E.C β st w) (bif d == t then v else E9 st.sl t) _
  simp only[Act.put,Av,Array.getElem?_setIfInBounds]
  by_cases e:d=t
  ·subst e
   rw[if_pos rfl,if_pos hlt]
   simpa using h
  rw[if_neg e]
  have:(d == t)=false:=by simp[e]
  rw[this,<- Av]
  exact r.sl t
theorem Eu.nolive (r:Eu E β st a w) {b:Nat} {o:Obj} (h:w.heap[b]? = some o) (ho:Ac0 o=false):¬(E.C β st w).lives b:=by
 rintro⟨id,h1,h2⟩
 have h1:β id=some b:=h1
 have h2:(st.o id).live:=h2
 have hr:=r.ob id
 cases hq:st.o id with
 | gone=>rw[hq] at h2;exact h2
 | box ty cs =>
  rw[hq] at hr
  obtain⟨b',cur,q1,q2,_⟩:=hr
  have q1:β id=some b':=q1
  have q2:w.heap[b']? = some (.cells cur ty (0,0)):=q2
  rw[h1] at q1
  injection q1 with q1
  subst q1
  rw[h] at q2
  injection q2 with q2
  subst q2
  cases ho
 | row ty k fr fz es =>
  rw[hq] at hr
  have hr:=hr.2
  have hC:(E.C β st w).β id=some b:=h1
  rw[hC] at hr
  obtain⟨cur,c,q2,_⟩:=hr
  have q2:w.heap[b]? = some (.cells cur ty (0,0)):=q2
  rw[h] at q2
  injection q2 with q2
  subst q2
  cases ho
theorem Eu.move {β β':Nat->Option Nat} {st st':St} {w w':World} (r:Eu E β st a w) (s:Ot (E.C β st w) (E.C β' st' w')) (hsl:st'.sl=st.sl) (hob:∀id,Kx (E.C β' st' w') id (st'.o id)) (inj:∀i j b,st'.o i≠.gone->st'.o j≠.gone->β' i=some b->β' j=some b->i=j) (rng:∀i b,st'.o i≠.gone->β' i=some b->b<w'.heap.size/\(E.w0.heap.size<=b\/E.M b)) (kp:Kp E.M E.w0 w'):Eu E β' st' a w' :=
 ⟨r.sz,fun t=>by rw[hsl];exact (r.sl t).step s,r.df,hob,inj,rng,kp,r.ct.step s,fun b o h=>⟨(s.keep b (Aw.1 (r.kb b o h).1).1 (r.nolive (r.kb b o h).1 (r.kb b o h).2)).trans (r.kb b o h).1,(r.kb b o h).2⟩,r.dk⟩
theorem Eu.drew (r:Eu E β st a w) (n:Nat):Eu E β st a { w with drawn:=n } :=
 ⟨r.sz,r.sl,r.df,r.ob,r.inj,r.rng,⟨r.kp.os,r.kp.tape,r.kp.output,r.kp.size,r.kp.block⟩,r.ct,r.kb,r.dk⟩
variable {id:Nat}
theorem Eu.bind (r:Eu E β st a w) {o:Ob} (hid:st.o id=.gone\/∃ty k fr fz es fr' fz' es',st.o id=.row ty k fr fz es/\o=.row ty k fr' fz' es'/\es.length<es'.length) (ho:o≠.gone) (cur:Array Value) (ty:TypeId) (hr:∀C:VC,Ot (E.C β st w) C->C.β id=some w.heap.size->C.h[w.heap.size]? = some (.cells cur ty (0,0))->Kx C id o) :
  Eu E (upd β id w.heap.size) (st.set id o) a (w.alloc (.cells cur ty)):=by
 have hsz:(w.alloc (.cells cur ty)).heap.size=w.heap.size+1:=by simp
 have hold:∀b,b<w.heap.size->(w.alloc (.cells cur ty)).heap[b]? = w.heap[b]?:=fun b hb=>Below.heap_alloc _ _ _ hb
 have hβ:∀i,i≠id->upd β id w.heap.size i=β i:=fun i hi=>by simp[upd,hi]
 have ho':∀i,i≠id->(st.set id o).o i=st.o i:=fun i hi=>by rw[St.set_o,if_neg hi]
 have s:Ot (E.C β st w) (E.C (upd β id w.heap.size) (st.set id o) (w.alloc (.cells cur ty))):=by
  refine⟨rfl,fun _ h=>h,fun _ h=>h,fun _ h=>h,?_,?_,?_,?_,?_⟩
  ·show w.heap.size<=(w.alloc (.cells cur ty)).heap.size
   omega
  ·rintro b hb ⟨i,h1,h2⟩
   by_cases e:i=id
   ·subst e
    have h1:upd β i w.heap.size i=some b:=h1
    simp[upd] at h1
    have hb:b<w.heap.size:=hb
    omega
   exact⟨i,(hβ i e).symm.trans h1,by have h2:((st.set id o).o i).live:=h2;rw[ho' i e] at h2;exact h2⟩
  ·intro b hb _
   exact hold b hb
  ·intro i ty' cs h
   have h:st.o i=.box ty' cs:=h
   have e:i≠id:=fun e=>by
    subst e
    rcases hid with hid | ⟨_,_,_,_,_,_,_,_,hid,_⟩<;>rw[hid] at h<;>cases h
   exact⟨⟨cs,(ho' i e).trans h⟩,hβ i e⟩
  intro i ty' k fr fz es h
  have h:st.o i=.row ty' k fr fz es:=h
  by_cases e:i=id
  ·subst e
   rcases hid with hid | ⟨ty1,k1,fr1,fz1,es1,fr2,fz2,es2,hid,e2,hlt⟩
   ·rw[hid] at h;cases h
   rw[hid] at h
   injection h with g1 g2 g3 g4 g5
   subst g1 g2 g3 g4 g5
   exact⟨fr2,fz2,es2,by show (st.set i o).o i=_;rw[St.set_o,if_pos rfl,e2],Nat.le_of_lt hlt,fun g=>by omega⟩
  refine⟨fr,fz,es,(ho' i e).trans h,Aj _,fun _=>⟨hβ i e,fun b cur' hb hc=>⟨cur',?_,rfl⟩⟩⟩
  exact (hold b (r.rng i b (by rw[h];simp) hb).1).trans hc
 refine r.move s rfl (fun i=>?_) ?_ ?_ ?_
 ·by_cases e:i=id
  ·subst e
   rw[St.set_o,if_pos rfl]
   exact hr _ s (by simp[Gs.C,upd]) (heap_alloc_new w _)
  rw[ho' i e]
  by_cases hg:st.o i=.gone
  ·rw[hg];trivial
  exact (r.ob i).step s (hβ i e) fun b hb=>hold b (r.rng i b hg hb).1
 ·intro i j b hi hj h1 h2
  by_cases e1:i=id
  ·by_cases e2:j=id
   ·rw[e1,e2]
   subst e1
   simp[upd] at h1
   rw[hβ j e2] at h2
   rw[ho' j e2] at hj
   have:=(r.rng j b hj h2).1
   omega
  rw[hβ i e1] at h1
  rw[ho' i e1] at hi
  by_cases e2:j=id
  ·subst e2
   simp[upd] at h2
   have:=(r.rng i b hi h1).1
   omega
  rw[hβ j e2] at h2
  rw[ho' j e2] at hj
  exact r.inj i j b hi hj h1 h2
 ·intro i b hi h1
  by_cases e1:i=id
  ·subst e1
   simp[upd] at h1
   have:=r.kp.size
   omega
  rw[hβ i e1] at h1
  rw[ho' i e1] at hi
  have:=r.rng i b hi h1
  exact⟨by omega,this.2⟩
 exact⟨r.kp.os,r.kp.tape,r.kp.output,by have:=r.kp.size;omega,fun b hb hm=>(hold b (by have:=r.kp.size;omega)).trans (r.kp.block b hb hm)⟩
theorem Eu.new (r:Eu E β st a w) (hid:st.o id=.gone) (o:Ob) (ho:o≠.gone) (cur:Array Value) (ty:TypeId) (hr:∀C:VC,Ot (E.C β st w) C->C.β id=some w.heap.size->C.h[w.heap.size]? = some (.cells cur ty (0,0))->Kx C id o) :
 Eu E (upd β id w.heap.size) (st.set id o) a (w.alloc (.cells cur ty)):=r.bind (.inl hid) ho cur ty hr
theorem Eu.change (r:Eu E β st a w) {id g:Nat} {o:Ob} (hl:(st.o id).live) (hβ:β id=some g) {ty:TypeId} {cur cur':Array Value} {w':World} (h0:w.heap[g]? = some (.cells cur ty (0,0))) (h1:w'.heap[g]? = some (.cells cur' ty (0,0))) (hsz':cur'.size=cur.size) (hsize:w'.heap.size=w.heap.size) (hfar:∀b,b≠g->w'.heap[b]? = w.heap[b]?) (hos:w'.os=w.os) (hta:w'.tape=w.tape) (hou:w'.output=w.output) (hbox:∀ty cs,st.o id=.box ty cs->∃cs',o=.box ty cs') (hrow:∀ty k fr fz es,st.o id=.row ty k fr fz es->∃fr' fz' es',o=.row ty k fr' fz' es'/\es.length<=es'.length) (hr:∀C:VC,Ot (E.C β st w) C->C.β id=some g->C.h[g]? = some (.cells cur' ty (0,0))->Kx C id o) (hlive:o.live\/True) :
  Eu E β (st.set id o) a w':=by
 have ho':∀i,i≠id->(st.set id o).o i=st.o i:=fun i hi=>by rw[St.set_o,if_neg hi]
 have ho:(st.set id o).o id=o:=by rw[St.set_o,if_pos rfl]
 have hng:st.o id≠.gone:=fun e=>by rw[e] at hl;exact hl
 have hog:o≠.gone:=by
  cases hc:st.o id with
  | gone=>exact absurd hc hng
  | box ty cs=>obtain⟨cs',e⟩:=hbox ty cs hc;rw[e];simp
  | row ty k fr fz es=>obtain⟨_,_,_,e,_⟩:=hrow ty k fr fz es hc;rw[e];simp
 have hothers:∀i b,st.o i≠.gone->i≠id->β i=some b->b≠g:=fun i b hi he hb e=>he (r.inj i id b hi hng hb (by rw[e];exact hβ))
 have hlg:(E.C β st w).lives g:=⟨id,hβ,hl⟩
 have s:Ot (E.C β st w) (E.C β (st.set id o) w'):=by
  refine⟨rfl,fun _ h=>h,fun _ h=>h,fun _ h=>h,?_,?_,?_,?_,?_⟩
  ·show w.heap.size<=w'.heap.size
   omega
  ·rintro b hb ⟨i,h1,h2⟩
   by_cases e:i=id
   ·subst e
    exact⟨i,h1,hl⟩
   exact⟨i,h1,by have h2:((st.set id o).o i).live:=h2;rw[ho' i e] at h2;exact h2⟩
  ·intro b hb hn
   exact hfar b fun e=>hn (e▸hlg)
  ·intro i ty' cs h
   have h:st.o i=.box ty' cs:=h
   by_cases e:i=id
   ·subst e
    obtain⟨cs',e'⟩:=hbox ty' cs h
    exact⟨⟨cs',by show (st.set i o).o i=_;rw[ho,e']⟩,rfl⟩
   exact⟨⟨cs,(ho' i e).trans h⟩,rfl⟩
  intro i ty' k fr fz es h
  have h:st.o i=.row ty' k fr fz es:=h
  by_cases e:i=id
  ·subst e
   obtain⟨fr',fz',es',e',hle⟩:=hrow ty' k fr fz es h
   refine⟨fr',fz',es',by show (st.set i o).o i=_;rw[ho,e'],hle,fun _=>⟨rfl,fun b cc hb hc=>?_⟩⟩
   have hb:β i=some b:=hb
   rw[hβ] at hb
   injection hb with hb
   subst hb
   have hc:w.heap[g]? = _:=hc
   rw[h0] at hc
   injection hc with hc
   injection hc with hc1 hc2
   subst hc1 hc2
   exact⟨cur',h1,hsz'⟩
  refine⟨fr,fz,es,(ho' i e).trans h,Aj _,fun _=>⟨rfl,fun b cc hb hc=>⟨cc,?_,rfl⟩⟩⟩
  exact (hfar b (hothers i b (by rw[h];simp) e hb)).trans hc
 refine r.move s rfl (fun i=>?_) ?_ ?_ ?_
 ·by_cases e:i=id
  ·subst e
   rw[ho]
   exact hr _ s hβ h1
  rw[ho' i e]
  by_cases hg:st.o i=.gone
  ·rw[hg];trivial
  exact (r.ob i).step s rfl fun b hb=>hfar b (hothers i b hg e hb)
 ·intro i j b hi hj
  refine r.inj i j b ?_ ?_
  ·by_cases e:i=id
   ·subst e;exact hng
   rw[ho' i e] at hi;exact hi
  by_cases e:j=id
  ·subst e;exact hng
  rw[ho' j e] at hj;exact hj
 ·intro i b hi hb
  have:=r.rng i b (by
   by_cases e:i=id
   ·subst e;exact hng
   rw[ho' i e] at hi;exact hi) hb
  exact⟨by omega,this.2⟩
 refine⟨hos.trans r.kp.os,hta.trans r.kp.tape,hou.trans r.kp.output,by have:=r.kp.size;omega,fun b hb hm=>?_⟩
 refine (hfar b fun e=>?_).trans (r.kp.block b hb hm)
 have:=r.rng id g hng hβ
 subst e
 rcases this.2 with h | h
 ·omega
 exact hm h
def T.plain:T->Bool
 | .lit _=>true
 | _=>false
variable {ty k:Nat} {es:List (List T)}
theorem Eu.flag (r:Eu E β st a w) {fr fz fr' fz':Bool} (h:st.o id=.row ty k fr fz es) (hf:fr'=true->fr=true\/es.all (fun e=>e.all T.plain)=true) (hz:fz'=false->fz=false) :
 Eu E β (st.set id (.row ty k fr' fz' es)) a w/\Ot (E.C β st w) (E.C β (st.set id (.row ty k fr' fz' es)) w):=by
 have ho':∀i,i≠id->(st.set id (.row ty k fr' fz' es)).o i=st.o i:=fun i hi=>by rw[St.set_o,if_neg hi]
 have ho:(st.set id (.row ty k fr' fz' es)).o id=.row ty k fr' fz' es:=by rw[St.set_o,if_pos rfl]
 have hng:∀i,(st.set id (.row ty k fr' fz' es)).o i≠.gone->st.o i≠.gone:=fun i hi=>by
  by_cases e:i=id
  ·subst e;rw[h];simp
  rw[ho' i e] at hi;exact hi
 have s:Ot (E.C β st w) (E.C β (st.set id (.row ty k fr' fz' es)) w):=by
  refine⟨rfl,fun _ h=>h,fun _ h=>h,fun _ h=>h,Aj _,?_,fun _ _ _=>rfl,?_,?_⟩
  ·rintro b hb ⟨i,h1,h2⟩
   have h2:((st.set id (.row ty k fr' fz' es)).o i).live:=h2
   by_cases e:i=id
   ·subst e
    rw[ho] at h2
    exact⟨i,h1,by show (st.o i).live;rw[h];exact hz h2⟩
   rw[ho' i e] at h2
   exact⟨i,h1,h2⟩
  ·intro i ty' cs hi
   have hi:st.o i=.box ty' cs:=hi
   by_cases e:i=id
   ·subst e;rw[h] at hi;cases hi
   exact⟨⟨cs,(ho' i e).trans hi⟩,rfl⟩
  intro i ty' k' fr' fz' es' hi
  have hi:st.o i=.row ty' k' fr' fz' es':=hi
  by_cases e:i=id
  ·subst e
   rw[h] at hi
   injection hi with e1 e2 e3 e4 e5
   subst e1 e2 e3 e4 e5
   exact⟨_,_,_,ho,Aj _,fun _=>⟨rfl,fun b cc hb hc=>⟨cc,hc,rfl⟩⟩⟩
  exact⟨_,_,_,(ho' i e).trans hi,Aj _,fun _=>⟨rfl,fun b cc hb hc=>⟨cc,hc,rfl⟩⟩⟩
 refine⟨r.move s rfl (fun i=>?_) (fun i j b hi hj=>r.inj i j b (hng i hi) (hng j hj)) (fun i b hi=>r.rng i b (hng i hi)) r.kp,s⟩
 by_cases e:i=id
 ·subst e
  rw[ho]
  have:=r.ob i
  rw[h] at this
  obtain⟨h1,h2⟩:=Kx.step (o:=.row ty k fr fz es) s this rfl fun _ _=>rfl
  refine⟨h1,?_⟩
  cases hb:(E.C β (st.set i (.row ty k fr' fz' es)) w).β i with
  | none=>rw[hb] at h2;exact h2
  | some b =>
   rw[hb] at h2
   obtain⟨cur,c,g1,g2,g3,g4,g5⟩:=h2
   refine⟨cur,c,g1,g2,g3,g4,fun i e j x he hx=>?_⟩
   obtain⟨u,q1,q2⟩:=g5 i e j x he hx
   refine⟨u,q1,?_⟩
   by_cases hfr:fr'=true
   ·rcases hf hfr with hf | hf
    ·exact VC.T_weak q2 fun _=>hf
    have:=Am.1 (Am.1 hf e (Ac he)) x (Ac hx)
    cases q2 with
    | lit _ h=>exact .lit _ h
    | _=>cases this
   exact VC.T_weak q2 fun e=>absurd e hfr
 rw[ho' i e]
 exact (r.ob i).step s rfl fun _ _=>rfl
theorem Eu.freeze (r:Eu E β st a w) {fr fz:Bool} (h:st.o id=.row ty k fr fz es) :
 Eu E β (st.set id (.row ty k fr true es)) a w/\Ot (E.C β st w) (E.C β (st.set id (.row ty k fr true es)) w):=r.flag h (fun e=>.inl e) fun e=>by cases e
theorem Eu.empty (r:Eu E β st a w) (hid:st.o id=.gone) (ty:TypeId) {k:Nat} (hk:0<k) (fr:Bool) :
 Eu E (fun i=>if i=id then none else β i) (st.set id (.row ty k fr false [])) a w/\∀A,Ec (E.C (fun i=>if i=id then none else β i) (st.set id (.row ty k fr false [])) w) (.own id 0) (.slice A 0 0):=by
 have ho':∀i,i≠id->(st.set id (.row ty k fr false [])).o i=st.o i:=fun i hi=>by rw[St.set_o,if_neg hi]
 have ho:(st.set id (.row ty k fr false [])).o id=.row ty k fr false []:=by rw[St.set_o,if_pos rfl]
 have hne:∀i,st.o i≠.gone->i≠id:=fun i hi e=>by subst e;exact hi hid
 have s:Ot (E.C β st w) (E.C (fun i=>if i=id then none else β i) (st.set id (.row ty k fr false [])) w):=by
  refine⟨rfl,fun _ h=>h,fun _ h=>h,fun _ h=>h,Aj _,?_,fun _ _ _=>rfl,?_,?_⟩
  ·rintro b hb ⟨i,h1,h2⟩
   have h1:(if i=id then none else β i)=some b:=h1
   by_cases e:i=id
   ·rw[if_pos e] at h1;cases h1
   rw[if_neg e] at h1
   exact⟨i,h1,by have h2:((st.set id (.row ty k fr false [])).o i).live:=h2;rw[ho' i e] at h2;exact h2⟩
  ·intro i ty' cs h
   have h:st.o i=.box ty' cs:=h
   have e:=hne i (by rw[h];simp)
   exact⟨⟨cs,(ho' i e).trans h⟩,if_neg e⟩
  intro i ty' k fr fz es h
  have h:st.o i=.row ty' k fr fz es:=h
  have e:=hne i (by rw[h];simp)
  exact⟨_,_,_,(ho' i e).trans h,Aj _,fun _=>⟨if_neg e,fun b cc hb hc=>⟨cc,hc,rfl⟩⟩⟩
 refine⟨r.move s rfl (fun i=>?_) (fun i j b hi hj h1 h2=>?_) (fun i b hi h1=>?_) r.kp,fun A=>?_⟩
 ·by_cases e:i=id
  ·subst e
   rw[ho]
   refine⟨⟨hk,fun i e he=>by simp at he⟩,?_⟩
   have:(E.C (fun j=>if j=i then none else β j) (st.set i (.row ty k fr false [])) w).β i=none:=if_pos rfl
   rw[this]
  rw[ho' i e]
  exact (r.ob i).step s (if_neg e) fun _ _=>rfl
 ·by_cases e1:i=id
  ·rw[if_pos e1] at h1;cases h1
  by_cases e2:j=id
  ·rw[if_pos e2] at h2;cases h2
  rw[if_neg e1] at h1
  rw[if_neg e2] at h2
  rw[ho' i e1] at hi
  rw[ho' j e2] at hj
  exact r.inj i j b hi hj h1 h2
 ·by_cases e1:i=id
  ·rw[if_pos e1] at h1;cases h1
  rw[if_neg e1] at h1
  rw[ho' i e1] at hi
  exact r.rng i b hi h1
 refine .own _ _ _ ⟨rfl,ty,k,fr,false,[],ho,Aj _,fun _=>?_⟩
 have:(E.C (fun j=>if j=id then none else β j) (st.set id (.row ty k fr false [])) w).β id=none:=if_pos rfl
 rw[this]
 exact⟨A,rfl⟩
variable {fr:Bool}
theorem Eu.frozen (r:Eu E β st a w) {id n:Nat} (h:st.o id=.row ty k fr true es) (hu:Ah2 (E.C β st w) id n u) (hn:n=es.length) :
 Gq w.heap ((E.C β st w).S fr) (.sl k es) u:=by
 obtain⟨_,ty',k',fr',fz',es',ho,_,h1⟩:=hu
 have ho:st.o id=_:=ho
 rw[h] at ho
 injection ho with e1 e2 e3 e4 e5
 subst e1 e2 e3 e4 e5
 have h1:=h1 hn
 have hr:=r.ob id
 rw[h] at hr
 obtain⟨h2,h3⟩:=hr
 have hC:(E.C β st w).β id=β id:=rfl
 rw[hC] at h1 h3
 cases hb:β id with
 | none =>
  rw[hb] at h1 h3
  obtain⟨A,rfl⟩:=h1
  have h3:es=[]:=h3
  subst h3
  exact .nil k A 0
 | some b =>
  rw[hb] at h1 h3
  obtain⟨c,cur,h4,h5,rfl⟩:=h1
  obtain⟨cur',c',h6,h7,h8,h9,h10⟩:=h3
  have h6:w.heap[b]? = _:=h6
  have h4:w.heap[b]? = _:=h4
  rw[h4] at h6
  injection h6 with h6
  injection h6 with h6
  subst h6
  subst hn
  have hS:(E.C β st w).S fr b:=by
   refine⟨(r.rng id b (by rw[h];simp) hb).1,?_,?_⟩
   ·rintro⟨i,hi1,hi2⟩
    have hi2:(st.o i).live:=hi2
    have:i=id:=r.inj i id b (fun e=>by rw[e] at hi2;exact hi2) (by rw[h];simp) hi1 hb
    subst this
    rw[h] at hi2
    cases hi2
   rcases (r.rng id b (by rw[h];simp) hb).2 with h' | h'
   ·exact .inl h'
   exact .inr (.inl h')
  have hle:es.length<=c:=by
   have:c*k=c'*k:=h5.symm.trans h7
   have:=Nat.eq_of_mul_eq_mul_right h2.1 this
   omega
  exact .sl k es b 0 c cur ty (0,0) (fun i j=>cur[i*k+j]?.getD undef) h4 hS hle h2.2 (fun i e j x he hx=>by
   obtain⟨v,hv,_⟩:=h10 i e j x he hx
   rw[Bm,hv];rfl) (fun i e j x he hx=>by
   obtain⟨v,hv,ht⟩:=h10 i e j x he hx
   rw[hv];exact ht)
theorem Eu.frozenS (r:Eu E β st a w) {id n lo m:Nat} (h:st.o id=.row ty k fr true es) (hu:A5j (E.C β st w) id n lo m u) (hn:n=es.length) :
 Gq w.heap ((E.C β st w).S fr) (.sl k ((es.drop lo).take m)) u:=by
 obtain⟨_,ty',k',fr',fz',es',ho,_,h1⟩:=hu
 have ho:st.o id=_:=ho
 rw[h] at ho
 injection ho with e1 e2 e3 e4 e5
 subst e1 e2 e3 e4 e5
 obtain⟨hle,A,c,rfl,hmc,hec,hA⟩:=h1 hn
 have hr:=r.ob id
 rw[h] at hr
 obtain⟨h2,h3⟩:=hr
 rcases hA with hA | ⟨b,hb,rfl⟩
 ·obtain rfl:m=0:=by omega
  rw[List.take_zero]
  exact .nil _ _ _
 have hb:β id=some b:=hb
 have hC:(E.C β st w).β id=β id:=rfl
 rw[hC,hb] at h3
 obtain⟨cur,c',g1,g2,g3,g4,g5⟩:=h3
 have hS:(E.C β st w).S fr b:=by
  refine⟨(r.rng id b (by rw[h];simp) hb).1,?_,?_⟩
  ·rintro⟨i,hi1,hi2⟩
   have hi2:(st.o i).live:=hi2
   have:i=id:=r.inj i id b (fun e=>by rw[e] at hi2;exact hi2) (by rw[h];simp) hi1 hb
   subst this
   rw[h] at hi2
   cases hi2
  rcases (r.rng id b (by rw[h];simp) hb).2 with h' | h'
  ·exact .inl h'
  exact .inr (.inl h')
 have hlen:((es.drop lo).take m).length=m:=by rw[A5,Bc];omega
 have hget:∀(i:Nat) (e:List T),((es.drop lo).take m)[i]? = some e->es[lo+i]? = some e:=fun i e he=>by
  have hi:i<m:=by rw[<- hlen];exact (Ab.1 he).1
  rw[Ag hi,Bd] at he
  exact he
 have hs:=Gq.sl (h:=w.heap) (S:=(E.C β st w).S fr) k ((es.drop lo).take m) b (lo*k) c cur ty (0,0) (fun i j=>cur[lo*k+i*k+j]?.getD undef) g1 hS (by omega) (fun i e he=>h2.2 _ e (hget i e he)) (fun i e j x he hx=>by
  obtain⟨v,hv,_⟩:=g5 _ e j x (hget i e he) hx
  rw[<- Be,hv];rfl) (fun i e j x he hx=>by
  obtain⟨v,hv,ht⟩:=g5 _ e j x (hget i e he) hx
  rw[<- Be,hv];exact ht)
 rw[hlen] at hs
 exact hs
end
section
section
variable (P:Program)
def Ux (t:TypeId):Bool:=match P.underlying t with | some (.struct _)=>true | some (.array _ _)=>true | _=>false
def Gj (t:TypeId):Nat:=match P.info? t with | some i=>i.size | none=>0
def tok (t:TypeId):Bool:=(P.underlying t).isSome&&(P.info? t).isSome
end
variable {P:Program}
variable {t:TypeId}
theorem Awp (h:tok P t=true) (w:World):(isAgg t).run P w=.ok (Ux P t) w:=by
 simp only[tok,Ah] at h
 obtain⟨d,hd⟩:=Option.isSome_iff_exists.1 h.1
 simp only[isAgg,Sem.run_bind,run_underlying hd,Result.andThen_ok,Ux,hd]
 cases d<;>rfl
theorem Mw (h:tok P t=true) (w:World):(sizeOf t).run P w=.ok (Gj P t) w:=by
 simp only[tok,Ah] at h
 obtain⟨i,hi⟩:=Option.isSome_iff_exists.1 h.2
 simp[sizeOf,typeInfo,hi,Gj]
structure Mp where
  v:AV
  up:List (Nat×Ob)
  c:Prop
def Mp.bad:Mp:=⟨.any,[],False⟩
def T.av (fr:Bool):T->AV
 | .lit v=>.lit v
 | .sl k es=>.imm fr k es
 | .fn f cs off=>.fn f [.iptr fr cs off]
variable {C:VC} {fr:Bool} {u:Value}
theorem T.rel {t:T} (h:Gq C.h (C.S fr) t u):Ec C (t.av fr) u:=by
 cases t with
 | lit v=>cases h;exact .lit _
 | sl k es=>exact .imm fr k es u h
 | fn f cs off =>
  cases h with
  | fn f cs off b o cur ty fz us h1 h2 h3 h4 =>
   refine .fn f _ _ rfl fun i c u hc hu=>?_
   cases i with
   | zero=>simp at hc hu;subst hc hu;exact .iptr fr cs off b o cur ty fz us h1 h2 fun j x hx=>⟨h3 j x hx,h4 j x hx⟩
   | succ i=>simp at hc
def ldv (P:Program) (t:TypeId) (cs:List AV) (off:Nat):AV:=if Ux P t then .agg ((cs.drop off).take (Gj P t)) else cs.getD off .any
def ldc (P:Program) (t:TypeId) (len off:Nat):Prop:=tok P t=true/\(if Ux P t then off+Gj P t<=len else off<len)
def J9 (P:Program) (t:TypeId) (x:AV) (o:Nat->Ob):Mp :=
 match x with
 | .ptr id off=>match o id with
  | .box _ cs=>⟨ldv P t cs off,[],ldc P t cs.length off⟩
  | _=>.bad
 | .rptr id n i off=>match o id with
  | .row _ k fr _ es=>⟨ldv P t ((es.getD i []).map (T.av fr)) off,[],n=es.length/\i<es.length/\ldc P t k off⟩
  | _=>.bad
 | .iptr fr cs off=>⟨ldv P t (cs.map (T.av fr)) off,[],ldc P t cs.length off⟩
 | _=>.bad
variable {w:World} {cur:Array Value} {ty:TypeId}
theorem Aq7 {b p off:Nat} {cs:List AV} {fz:Nat×Nat} (hb:w.heap[b]? = some (.cells cur ty fz)) (hc:ldc P t cs.length off) (hcs:∀(j:Nat) (c:AV),cs[j]? = some c->∃u,cur[p+j]? = some u/\Ec C c u):∃u,(Instr.loadAt t (.pointer (some ⟨b,p+off,none⟩))).run P w=.ok u w/\Ec C (ldv P t cs off) u:=by
 obtain⟨hk,hc⟩:=hc
 have hcell:∀j,w.cell? ⟨b,j,none⟩=cur[j]?:=fun j=>cell_of_row w b j cur ty fz hb
 simp only[Instr.loadAt,Instr.sureAddr,loadVar,Sem.run_bind,Sem.run_pure,Result.andThen_ok,Awp hk,ldv]
 cases ha:Ux P t with
 | false =>
  rw[ha] at hc
  simp only[Bl,if_false] at hc ⊢
  obtain⟨u,h1,h2⟩:=hcs off cs[off] (Aa hc)
  refine⟨u,by rw[run_load,hcell,h1],?_⟩
  rw[Ad,Aa hc]
  exact h2
 | true =>
  rw[ha] at hc
  simp only[if_true] at hc ⊢
  have hl:((cs.drop off).take (Gj P t)).length=Gj P t:=by rw[A5,Bc];omega
  have hall:∀j,j<Gj P t->∃u,cur[p+(off+j)]? = some u/\Ec C (((cs.drop off).take (Gj P t)).getD j .any) u:=fun j hj=>by
   obtain⟨u,h1,h2⟩:=hcs (off+j) cs[off+j] (Aa (by omega))
   refine⟨u,h1,?_⟩
   rw[Ad,Ag hj,Bd,Aa (by omega)]
   exact h2
  refine⟨.agg ((List.range (Gj P t)).map fun j=>(cur[p+(off+j)]?).getD undef).toArray,?_,?_⟩
  ·simp only[Sem.run_bind,Mw hk,Result.andThen_ok,Sem.run_pure]
   rw[run_loadCells w ⟨b,p+off,none⟩ (Gj P t) (fun j=>(cur[p+(off+j)]?).getD undef) fun j hj=>by
    obtain⟨u,h1,_⟩:=hall j hj
    rw[Addr.add_lit,hcell,Af,h1];rfl]
   rfl
  refine .agg _ _ (by simp[hl]) fun i c u hc hu=>?_
  obtain⟨hi,hc'⟩:=Ab.1 hc
  rw[hl] at hi
  obtain⟨v,h1,h2⟩:=hall i hi
  rw[Ad,hc] at h2
  simp[hi] at hu
  subst hu
  rw[h1]
  exact h2
variable {β:Nat->Option Nat}
theorem Asv {E:Gs} {st:St} {a:Act} (r:Eu E β st a w) {x:AV} (hx:Ec (E.C β st w) x u) (hc:(J9 P t x st.o).c) :
 ∃v,(Instr.loadAt t u).run P w=.ok v w/\Ec (E.C β st w) (J9 P t x st.o).v v/\(J9 P t x st.o).up=[]:=by
 cases hx with
 | ptr id off u h =>
  obtain⟨ty,cs,b,ho,hb,rfl⟩:=h
  have ho:st.o id=_:=ho
  have hob:=r.ob id
  simp only[J9,ho] at hc ⊢
  rw[ho] at hob
  obtain⟨b',cur,h1,h2,h3,h4⟩:=hob
  have h1:β id=_:=h1
  have hb:β id=_:=hb
  rw[hb] at h1
  injection h1 with h1
  subst h1
  obtain⟨v,e1,e2⟩:=Aq7 (P:=P) (C:=E.C β st w) (t:=t) (w:=w) (b:=b) (p:=0) (off:=off) (cs:=cs) h2 hc fun j c hj=>by
   have hlt:j<cur.size:=Nat.lt_of_lt_of_le (Ab.1 hj).1 h3
   refine⟨cur[j],by rw[Bm,Al hlt],(h4 j c _ hj (Al hlt)).1⟩
  rw[Bm] at e1
  exact⟨v,e1,e2,trivial⟩
 | rptr id n i off u h =>
  obtain⟨_,ty,k,fr,fz,es,ho,hn,hu⟩:=h
  have ho:st.o id=_:=ho
  have hob:=r.ob id
  simp only[J9,ho] at hc ⊢
  rw[ho] at hob
  obtain⟨hc1,hc2,hc3⟩:=hc
  obtain⟨b,hb,rfl⟩:=hu hc1
  have hb:β id=_:=hb
  obtain⟨⟨_,hk⟩,hob⟩:=hob
  have hC:(E.C β st w).β id=β id:=rfl
  rw[hC,hb] at hob
  obtain⟨cur,c,h2,h3,h4,h5,h6⟩:=hob
  have he:es[i]? = some (es.getD i []):=by rw[Ad,Aa hc2];rfl
  have hel:=hk i _ he
  obtain⟨v,e1,e2⟩:=Aq7 (P:=P) (C:=E.C β st w) (t:=t) (w:=w) (b:=b) (p:=i*k) (off:=off) (cs:=(es.getD i []).map (T.av fr)) h2 (by rw[A2,hel];exact hc3) fun j c hj=>by
   rw[Ap] at hj
   cases hx:(es.getD i [])[j]? with
   | none=>rw[hx] at hj;cases hj
   | some x =>
    rw[hx] at hj
    simp only[Ai,Option.some.injEq] at hj
    subst hj
    obtain⟨u,h7,h8⟩:=h6 i _ j x he hx
    exact⟨u,h7,T.rel h8⟩
  exact⟨v,e1,e2,trivial⟩
 | iptr fr cs off b o cur ty fz us h1 h2 h3 =>
  simp only[J9] at hc ⊢
  obtain⟨v,e1,e2⟩:=Aq7 (P:=P) (C:=E.C β st w) (t:=t) (w:=w) (b:=b) (p:=o) (off:=off) (cs:=cs.map (T.av fr)) h1 (by simpa using hc) fun j c hj=>by
   rw[Ap] at hj
   cases hx:cs[j]? with
   | none=>rw[hx] at hj;cases hj
   | some x =>
    rw[hx] at hj
    simp only[Ai,Option.some.injEq] at hj
    subst hj
    exact⟨us j,(h3 j x hx).1,T.rel (h3 j x hx).2⟩
  exact⟨v,e1,e2,trivial⟩
 | any u=>simp[J9,Mp.bad] at hc
 | lit v=>simp[J9,Mp.bad] at hc
 | nil k A=>simp[J9,Mp.bad] at hc
 | imm fr k es u h=>simp[J9,Mp.bad] at hc
 | own id n u h=>simp[J9,Mp.bad] at hc
 | bsl id n u h=>simp[J9,Mp.bad] at hc
 | sub id n lo m u h=>simp[J9,Mp.bad] at hc
 | agg cs us _ _=>simp[J9,Mp.bad] at hc
 | tup cs us _ _=>simp[J9,Mp.bad] at hc
 | fn f cs us _ _=>simp[J9,Mp.bad] at hc
 | gd t v u _ _=>simp[J9,Mp.bad] at hc
def AV.cl:AV->List AV
 | .agg cs=>cs
 | v=>[v]
def AV.one:AV->Bool
 | .lit v=>v.oneCell'
 | .nil _=>true
 | .imm _ _ _=>true
 | .own _ _=>true
 | .sub _ _ _ _=>true
 | .ptr _ _=>true
 | .rptr _ _ _ _=>true
 | .bsl _ _=>true
 | .iptr _ _ _=>true
 | .fn _ _=>true
 | _=>false
def K4 {α:Type} (cs:List α) (off:Nat):List α->List α
 | []=>cs
 | v::vs=>K4 (cs.set off v) (off+1) vs
theorem Fr {α:Type}:∀(vs:List α) (cs:List α) (off:Nat),(K4 cs off vs).length=cs.length
 | [],_,_=>rfl
 | v::vs,cs,off=>by simp[K4,Fr vs]
theorem Jy {α:Type}:∀(vs:List α) (cs:List α) (off j:Nat),(K4 cs off vs)[j]? = if off<=j/\j<off+vs.length/\j<cs.length then vs[j - off]? else cs[j]?
 | [],cs,off,j=>by simp[K4];omega
 | v::vs,cs,off,j=>by
  rw[K4,Jy vs,List.length_set,List.getElem?_set]
  simp only[A6]
  by_cases h1:off+1<=j/\j<off+1+vs.length/\j<cs.length
  ·rw[if_pos h1,if_pos (by omega),show j - off=(j - (off+1))+1 by omega,Bb]
  rw[if_neg h1]
  by_cases h2:off=j
  ·subst h2
   by_cases h3:off<cs.length
   ·simp[h3]
   rw[if_pos rfl,if_neg h3,if_neg (by omega),Ar (by omega)]
  rw[if_neg h2,if_neg (by omega)]
theorem Pd (cur:Array Value) (o:Nat) (vs:List Value) (h:o+vs.length<=cur.size) (j:Nat):(cur.toList.take o++vs++cur.toList.drop (o+vs.length)).toArray[j]? = if o<=j/\j<o+vs.length then vs[j - o]? else cur[j]?:=by
 have hl:cur.toList.length=cur.size:=by simp
 simp only[List.getElem?_toArray,List.append_assoc]
 by_cases h1:j<o
 ·rw[Au (by rw[A5];omega),Ag h1,if_neg (by omega)];simp
 rw[Ao (by rw[A5];omega),A5,Nat.min_eq_left (by omega)]
 by_cases h2:j<o+vs.length
 ·rw[Au (by omega),if_pos (by omega)]
 rw[Ao (by omega),Bd,if_neg (by omega),show o+vs.length+(j - o - vs.length)=j by omega];simp
theorem Hb (cur:Array Value) (o:Nat) (vs:List Value) (h:o+vs.length<=cur.size):(cur.toList.take o++vs++cur.toList.drop (o+vs.length)).toArray.size=cur.size:=by
 have hl:cur.toList.length=cur.size:=by simp
 simp only[List.size_toArray,Bo,A5,Bc];omega
variable {c:AV}
theorem Ec.one (h:Ec C c u) (ho:c.one=true):u.oneCell'=true:=by
 cases h with
 | lit v=>exact ho
 | nil k A=>rfl
 | imm fr k es u h=>exact h.one
 | own id n u h=>exact h.1
 | sub id n lo m u h=>exact h.1
 | ptr id off u h=>obtain⟨_,_,_,_,_,rfl⟩:=h;rfl
 | rptr id n i off u h=>exact h.1
 | bsl id n u h=>obtain⟨_,_,_,_,_,_,rfl,_⟩:=h;rfl
 | iptr=>rfl
 | fn=>rfl
 | any=>cases ho
 | agg=>cases ho
 | tup=>cases ho
 | gd=>cases ho
theorem Ec.cells {v:AV} (h:Ec C v u) (h1:∀c∈v.cl,c.one=true):u.cells.size=v.cl.length/\∀(i:Nat) (c:AV) (x:Value),v.cl[i]? = some c->u.cells[i]? = some x->Ec C c x/\x.oneCell'=true:=by
 by_cases ha:∃cs,v=.agg cs
 ·obtain⟨cs,rfl⟩:=ha
  cases h with
  | agg cs us e hr=>exact⟨e.symm,fun i c x hc hx=>⟨hr i c x hc hx,(hr i c x hc hx).one (h1 c (Ac hc))⟩⟩
 have hcl:v.cl=[v]:=by
  cases v<;>first | rfl | exact absurd ⟨_,rfl⟩ ha
 rw[hcl] at h1 ⊢
 have hu:=h.one (h1 v (by simp))
 have hc:u.cells = #[u]:=by
  cases u<;>first | rfl | simp[Value.oneCell'] at hu
 rw[hc]
 refine⟨rfl,fun i c x hc hx=>?_⟩
 cases i with
 | zero =>
  simp at hc hx
  subst hc hx
  exact⟨h,hu⟩
 | succ i=>simp at hc
def AV.toT:AV->T
 | .lit v=>.lit v
 | .nil k=>.sl k []
 | .imm _ k es=>.sl k es
 | .fn f [.iptr _ cs off]=>.fn f cs off
 | _=>.lit undef
def AV.laid:AV->Bool
 | .lit v=>v.oneCell'
 | .nil _=>true
 | .imm _ _ _=>true
 | .fn _ [.iptr _ _ _]=>true
 | _=>false
def AV.fresh:AV->Bool
 | .imm fr _ _=>fr
 | .fn _ [.iptr fr _ _]=>fr
 | _=>true
theorem AV.laid_one (h:c.laid=true):c.one=true:=by
 cases c<;>first | exact h | rfl
variable {f:FuncId}
theorem AV.laid_fn {cs:List AV} (h:(AV.fn f cs).laid=true):∃fr ts off,cs=[.iptr fr ts off]:=by
 unfold AV.laid at h
 split at h<;>rename_i hx
 all_goals first | cases hx | skip
 all_goals first | exact⟨_,_,_,rfl⟩ | cases h
theorem Ec.fn1 {ts:List T} {off:Nat} (h:Ec C (.fn f [.iptr fr ts off]) u):Gq C.h (C.S fr) (.fn f ts off) u:=by
 cases h with
 | fn f cs us h1 h2 =>
  obtain⟨u0,rfl⟩:∃u0,us = #[u0]:=by
   obtain⟨l⟩:=us
   match l,h1 with
   | [u0],_=>exact⟨u0,rfl⟩
  have h3:=h2 0 (.iptr fr ts off) u0 rfl (by simp)
  cases h3 with
  | iptr fr cs off b o cur ty fz us g1 g2 g3=>exact .fn f ts off b o cur ty fz us g1 g2 (fun j x hx=>(g3 j x hx).1) fun j x hx=>(g3 j x hx).2
theorem Ec.toT (h:Ec C c u) (hl:c.laid=true) {f:Bool} (hf:f=true->c.fresh=true):Gq C.h (C.S f) c.toT u:=by
 cases h with
 | lit v=>exact .lit _ hl
 | nil k A=>exact .nil k A 0
 | imm fr k es u h=>exact VC.T_weak h hf
 | fn f cs us h1 h2 =>
  obtain⟨fr,ts,off,rfl⟩:=AV.laid_fn hl
  exact VC.T_weak (f:=fr) (Ec.fn1 (.fn f _ us h1 h2)) hf
 | _=>cases hl
def It (P:Program) (t:TypeId) (x v:AV) (o:Nat->Ob):Mp :=
 match x with
 | .ptr id off=>match o id with
  | .box ty cs=>⟨.any,[(id,.box ty (K4 cs off v.cl))],tok P t=true/\Gj P t=v.cl.length/\off+v.cl.length<=cs.length/\∀c∈v.cl,c.one=true⟩
  | _=>.bad
 | .rptr id n i off=>match o id with
  | .row ty k fr fz es=>⟨.any,[(id,.row ty k (fr&&v.cl.all AV.fresh) false (es.set i (K4 (es.getD i []) off (v.cl.map AV.toT))))],
   fz=false/\n=es.length/\i<es.length/\tok P t=true/\Gj P t=v.cl.length/\off+v.cl.length<=k/\∀c∈v.cl,c.laid=true⟩
  | _=>.bad
 | _=>.bad
theorem Abb (hk:tok P t=true) {b off:Nat} (hb:w.heap[b]? = some (.cells cur ty (0,0))) (hs:Gj P t=u.cells.size) (hle:off+u.cells.size<=cur.size) (h1:∀(i:Nat) (x:Value),u.cells[i]? = some x->x.oneCell'=true) :
  (Instr.storeAt t (.pointer (some ⟨b,off,none⟩)) u).run P w=.ok () (w.setRow b (cur.toList.take off++u.cells.toList++cur.toList.drop (off+u.cells.toList.length)).toArray):=by
 simp only[Instr.storeAt,Instr.sureAddr,storeVar,Sem.run_bind,Sem.run_pure,Result.andThen_ok,Mw hk,hs,ne_eq,not_true_eq_false,if_false]
 have:=run_storeCells_at P b off ty u.cells.toList 0 cur w hb (by simpa using hle) fun v hv=>by
  obtain⟨i,hi⟩:=A3.1 hv
  exact h1 i v (by simpa using hi)
 simpa using this
theorem Av9 {E:Gs} {st:St} {a:Act} (r:Eu E β st a w) {x v:AV} {ux uv:Value} (hx:Ec (E.C β st w) x ux) (hv:Ec (E.C β st w) v uv) (hc:(It P t x v st.o).c) :
 ∃w' id o,(Instr.storeAt t ux uv).run P w=.ok () w'/\(It P t x v st.o).up=[(id,o)]/\Eu E β (st.set id o) a w':=by
 cases hx with
 | ptr id off u h =>
  obtain⟨ty,cs,b,ho,hb,rfl⟩:=h
  have ho:st.o id=_:=ho
  have hb:β id=_:=hb
  have hob:=r.ob id
  simp only[It,ho] at hc ⊢
  rw[ho] at hob
  obtain⟨b',cur,h1,h2,h3,h4⟩:=hob
  have h1:β id=_:=h1
  rw[hb] at h1
  injection h1 with h1
  subst h1
  obtain⟨hk,hsz,hle,hone⟩:=hc
  obtain⟨hcs,hcr⟩:=hv.cells hone
  have hle':off+uv.cells.toList.length<=cur.size:=by simp only[Array.length_toList];omega
  refine⟨_,id,_,Abb hk h2 (by omega) (by omega) (fun i x hx=>?_),rfl,?_⟩
  ·have hi:i<v.cl.length:=by rw[<- hcs];exact (Aw.1 hx).1
   exact (hcr i _ x (Aa hi) hx).2
  refine r.change (by rw[ho];trivial) hb h2 (setRow_heap w b cur _ ty (0,0) h2) (Hb cur off _ hle') (by simp) (fun b' hb'=>setRow_other w b b' _ hb') rfl rfl rfl (fun ty' cs' e=>?_) (fun ty' k fr fz es e=>by rw[ho] at e;cases e) (fun C s hCβ hCh=>?_) (.inr trivial)
  ·rw[ho] at e
   injection e with e1 e2
   subst e1
   exact⟨_,rfl⟩
  refine⟨b,_,hCβ,hCh,by rw[Hb cur off _ hle',Fr];exact h3,fun j c u hj hu=>?_⟩
  rw[Pd cur off _ hle'] at hu
  rw[Jy] at hj
  simp only[Array.length_toList] at hu
  by_cases hin:off<=j/\j<off+v.cl.length
  ·rw[if_pos (by omega)] at hj hu
   have:=hcr (j - off) c u hj (by simpa using hu)
   exact⟨this.1.step s,this.2⟩
  rw[if_neg (by omega)] at hj hu
  have:=h4 j c u hj hu
  exact⟨this.1.step s,this.2⟩
 | rptr id n i off u h =>
  obtain⟨_,ty,k,fr,fz,es,ho,hn,hu⟩:=h
  have ho:st.o id=_:=ho
  have hob:=r.ob id
  simp only[It,ho] at hc ⊢
  rw[ho] at hob
  obtain⟨rfl,hc1,hc2,hk,hsz,hle,hlaid⟩:=hc
  obtain⟨b,hb,rfl⟩:=hu hc1
  have hb:β id=_:=hb
  obtain⟨⟨hk0,hkl⟩,hob⟩:=hob
  have hC:(E.C β st w).β id=β id:=rfl
  rw[hC,hb] at hob
  obtain⟨cur,c,h2,h3,h4,h5,h6⟩:=hob
  have he:es[i]? = some (es.getD i []):=by rw[Ad,Aa hc2];rfl
  have hel:=hkl i _ he
  obtain⟨hcs,hcr⟩:=hv.cells fun c hc=>AV.laid_one (hlaid c hc)
  have hik:i*k+k<=c*k:=by
   have:=A1 k (show i+1<=c by omega)
   rw[Be] at this;omega
  have hle':i*k+off+uv.cells.toList.length<=cur.size:=by simp only[Array.length_toList];omega
  refine⟨_,id,_,Abb hk h2 (by omega) (by simpa using hle') (fun i x hx=>?_),rfl,?_⟩
  ·have hi:i<v.cl.length:=by rw[<- hcs];exact (Aw.1 hx).1
   exact (hcr i _ x (Aa hi) hx).2
  refine r.change (by rw[ho];rfl) hb h2 (setRow_heap w b cur _ ty (0,0) h2) (Hb cur _ _ hle') (by simp) (fun b' hb'=>setRow_other w b b' _ hb') rfl rfl rfl (fun ty' cs' e=>by rw[ho] at e;cases e) (fun ty' k' fr' fz' es' e=>?_) (fun C s hCβ hCh=>?_) (.inr trivial)
  ·rw[ho] at e
   injection e with e1 e2 e3 e4 e5
   subst e1 e2 e5
   exact⟨_,_,_,rfl,by simp⟩
  refine⟨⟨hk0,fun i' e' he'=>?_⟩,?_⟩
  ·rw[List.getElem?_set] at he'
   by_cases e:i=i'
   ·subst e
    rw[if_pos rfl,if_pos hc2] at he'
    injection he' with he'
    rw[<- he',Fr,hel]
   rw[if_neg e] at he'
   exact hkl i' e' he'
  rw[hCβ]
  refine⟨_,c,hCh,by rw[Hb cur _ _ hle',h3],by simpa using h4,h5,fun i' e' j x he' hx=>?_⟩
  rw[Pd cur _ _ hle']
  simp only[Array.length_toList]
  rw[List.getElem?_set] at he'
  by_cases e:i=i'
  ·subst e
   rw[if_pos rfl,if_pos hc2] at he'
   injection he' with he'
   subst he'
   rw[Jy] at hx
   simp only[A2,hel] at hx
   by_cases hin:off<=j/\j<off+v.cl.length
   ·rw[if_pos (by omega)] at hx
    rw[if_pos (by omega),show i*k+j - (i*k+off)=j - off by omega]
    rw[Ap] at hx
    cases hq:v.cl[j - off]? with
    | none=>rw[hq] at hx;cases hx
    | some q =>
     rw[hq] at hx
     simp only[Ai,Option.some.injEq] at hx
     subst hx
     have hlt:j - off<uv.cells.size:=by omega
     have hrel:=hcr (j - off) q _ hq (Al hlt)
     refine⟨uv.cells[j - off],by simp[hlt],(hrel.1.step s).toT (hlaid q (Ac hq)) fun hf=>?_⟩
     simp only[Ah,Am] at hf
     exact hf.2 q (Ac hq)
   rw[if_neg (by omega)] at hx
   rw[if_neg (by omega)]
   obtain⟨u,h7,h8⟩:=h6 i _ j x he hx
   exact⟨u,h7,VC.T_weak (s.T h8) fun hf=>by simp only[Ah] at hf;exact hf.1⟩
  rw[if_neg e] at he'
  obtain⟨u,h7,h8⟩:=h6 i' e' j x he' hx
  have hjk:j<k:=by rw[<- hkl i' e' he'];exact (Ab.1 hx).1
  have hfar:¬(i*k+off<=i'*k+j/\i'*k+j<i*k+off+uv.cells.size):=by
   rintro⟨q1,q2⟩
   rcases Nat.lt_or_ge i i' with hlt | hge
   ·have:=A1 k (show i+1<=i' by omega)
    rw[Be] at this;omega
   have:=A1 k (show i'+1<=i by omega)
   rw[Be] at this;omega
  rw[if_neg hfar]
  exact⟨u,h7,VC.T_weak (s.T h8) fun hf=>by simp only[Ah] at hf;exact hf.1⟩
 | any u=>simp[It,Mp.bad] at hc
 | lit v=>simp[It,Mp.bad] at hc
 | nil k A=>simp[It,Mp.bad] at hc
 | imm fr k es u h=>simp[It,Mp.bad] at hc
 | iptr fr cs off b o cur ty fz us h1 h2 h3=>simp[It,Mp.bad] at hc
 | own id n u h=>simp[It,Mp.bad] at hc
 | bsl id n u h=>simp[It,Mp.bad] at hc
 | sub id n lo m u h=>simp[It,Mp.bad] at hc
 | agg cs us _ _=>simp[It,Mp.bad] at hc
 | tup cs us _ _=>simp[It,Mp.bad] at hc
 | fn f cs us _ _=>simp[It,Mp.bad] at hc
 | gd t v u _ _=>simp[It,Mp.bad] at hc
end
section
variable {P:Program}
def Vz (P:Program):Nat->TypeId->List Nat
 | 0,_=>[0]
 | n+1,t=>match P.underlying t with
  | some (.struct fs)=>fs.toList.flatMap fun f=>Vz P n f.type
  | some (.array m e)=>(List.replicate m (Vz P n e)).flatten
  | some (.slice e)=>[Gj P e]
  | _=>[0]
def Aas (u:Value) (k:Nat):AV:=match u with
 | .slice none 0 0=>.nil k
 | u=>.lit u
def Nr (P:Program) (t:TypeId):List Value:=match P.info? t with
 | some i=>match i.zero with
  | some z=>z.cells.toList
  | none=>[]
 | none=>[]
def Hj (P:Program) (t:TypeId):List AV:=List.zipWith Aas (Nr P t) (Vz P 10 t)
def zok (P:Program) (t:TypeId):Bool:=tok P t&&((P.info? t).bind (·.zero)).isSome&&(Vz P 10 t).length == Gj P t&&(Nr P t).length == Gj P t&&(Nr P t).all (·.oneCell')
theorem Avo (C:VC) (u:Value) (k:Nat):Ec C (Aas u k) u:=by
 unfold Aas
 split
 ·exact .nil k none
 exact .lit _
theorem Ap8 (u:Value) (k:Nat) (h:u.oneCell'=true):(Aas u k).laid=true:=by
 unfold Aas
 split
 ·rfl
 exact h
variable {t:TypeId}
theorem Q2 (h:zok P t=true):∃i z,P.info? t=some i/\i.zero=some z/\i.size=Gj P t/\z.cells.size=Gj P t/\(Hj P t).length=Gj P t /\
 ∀(j:Nat) (c:AV) (u:Value),(Hj P t)[j]? = some c->z.cells[j]? = some u->(∀C,Ec C c u)/\u.oneCell'=true/\c.laid=true:=by
 simp only[zok,Ah,beq_iff_eq] at h
 obtain⟨⟨⟨⟨h1,h2⟩,h3⟩,h4⟩,h5⟩:=h
 obtain⟨z,hz⟩:=Option.isSome_iff_exists.1 h2
 cases hi:P.info? t with
 | none=>rw[hi] at hz;cases hz
 | some i =>
  rw[hi] at hz
  have hz:i.zero=some z:=hz
  have e:Nr P t=z.cells.toList:=by simp[Nr,hi,hz]
  rw[e] at h4 h5
  refine⟨i,z,rfl,hz,by simp[Gj,hi],by simpa using h4,by simp only[Hj,e,List.length_zipWith,h3];simp at h4;simp[h4],fun j c u hc hu=>?_⟩
  simp only[Hj,e,List.getElem?_zipWith] at hc
  have hu':z.cells.toList[j]? = some u:=by simpa using hu
  rw[hu'] at hc
  have h1:u.oneCell'=true:=Am.1 h5 u (Ac hu')
  cases hk:(Vz P 10 t)[j]? with
  | none=>rw[hk] at hc;simp at hc
  | some k =>
   rw[hk] at hc
   simp at hc
   subst hc
   exact⟨fun C=>Avo C u k,h1,Ap8 u k h1⟩
def Aqg (P:Program) (t:TypeId) (nid:Nat):Mp:=⟨.ptr nid 0,[(nid,.box t (Hj P t))],zok P t=true⟩
def A3h (t:TypeId) (v:AV) (nid:Nat):Mp:=⟨.ptr nid 0,[(nid,.box t v.cl)],∀c∈v.cl,c.one=true⟩
theorem Aa5 (β:Nat->Option Nat) (id b:Nat):upd β id b id=some b:=by simp[upd]
variable {E:Gs} {β:Nat->Option Nat} {st:St} {a:Act} {w:World} {nid:Nat}
theorem Ayi (r:Eu E β st a w) (hn:st.o nid=.gone) (hc:(Aqg P t nid).c) :
 ∃u w' β',(Instr.alloc t true (.tuple #[])).run P w=.ok u w'/\Eu E β' (st.set nid (.box t (Hj P t))) a w'/\Ec (E.C β' (st.set nid (.box t (Hj P t))) w') (.ptr nid 0) u:=by
 obtain⟨i,z,hi,hz,hsz,hzs,htl,hcell⟩:=Q2 hc
 refine⟨.pointer (some ⟨w.heap.size,0,none⟩),w.alloc (.cells z.cells t),upd β nid w.heap.size,?_,r.new hn (.box t (Hj P t)) (by simp) z.cells t fun C s hb hh=>?_,?_⟩
 ·simp[Instr.alloc,zeroValue,typeInfo,hi,hz,newVar,newRow]
 ·exact⟨_,_,hb,hh,by rw[hzs,htl];exact Aj _,fun j c u hc hu=>⟨(hcell j c u hc hu).1 C,(hcell j c u hc hu).2.1⟩⟩
 exact .ptr _ _ _ ⟨t,_,w.heap.size,by show (st.set _ _).o _=_;rw[St.set_o,if_pos rfl],Aa5 _ _ _,rfl⟩
theorem A2k (r:Eu E β st a w) (hn:st.o nid=.gone) {v:AV} {uv:Value} (hv:Ec (E.C β st w) v uv) (hc:(A3h t v nid).c) :
 ∃u w' β',(Instr.box t uv).run P w=.ok u w'/\Eu E β' (st.set nid (.box t v.cl)) a w'/\Ec (E.C β' (st.set nid (.box t v.cl)) w') (.ptr nid 0) u:=by
 obtain⟨hs,hcell⟩:=hv.cells hc
 refine⟨.pointer (some ⟨w.heap.size,0,none⟩),w.alloc (.cells uv.cells t),upd β nid w.heap.size,?_,r.new hn (.box t v.cl) (by simp) uv.cells t fun C s hb hh=>?_,?_⟩
 ·simp[Instr.box,newVar,newRow]
 ·exact⟨_,_,hb,hh,Nat.le_of_eq hs.symm,fun j c u hc hu=>⟨(hcell j c u hc hu).1.step s,(hcell j c u hc hu).2⟩⟩
 exact .ptr _ _ _ ⟨t,_,w.heap.size,by show (st.set _ _).o _=_;rw[St.set_o,if_pos rfl],Aa5 _ _ _,rfl⟩
theorem Alt (r:Eu E β st a w) (hn:st.o nid=.gone) {ty k:Nat} {fr:Bool} {es:List (List T)} {cur:Array Value} {c:Nat} (hk:0<k) (hel:∀(i:Nat) (e:List T),es[i]? = some e->e.length=k) (hcur:cur.size=c*k) (hle:es.length<=c) (hm:c<=maxLen) (hcell:∀(i:Nat) (e:List T) (j:Nat) (x:T),es[i]? = some e->e[j]? = some x->∃u,cur[i*k+j]? = some u/\Gq w.heap ((E.C β st w).S fr) x u) :
  Eu E (upd β nid w.heap.size) (st.set nid (.row ty k fr false es)) a (w.alloc (.cells cur ty)) /\
  Ec (E.C (upd β nid w.heap.size) (st.set nid (.row ty k fr false es)) (w.alloc (.cells cur ty))) (.own nid es.length) (.slice (some ⟨w.heap.size,0,none⟩) es.length c):=by
 refine⟨r.new hn (.row ty k fr false es) (by simp) cur ty fun C s hb hh=>?_,?_⟩
 ·refine⟨⟨hk,hel⟩,?_⟩
  rw[hb]
  refine⟨cur,c,hh,hcur,hle,hm,fun i e j x he hx=>?_⟩
  obtain⟨u,h1,h2⟩:=hcell i e j x he hx
  exact⟨u,h1,s.T h2⟩
 refine .own _ _ _ ⟨rfl,ty,k,fr,false,es,by show (st.set _ _).o _=_;rw[St.set_o,if_pos rfl],Aj _,fun _=>?_⟩
 have:(E.C (upd β nid w.heap.size) (st.set nid (.row ty k fr false es)) (w.alloc (.cells cur ty))).β nid=some w.heap.size:=Aa5 _ _ _
 rw[this]
 exact⟨c,cur,heap_alloc_new w _,hcur,rfl⟩
def Ed (P:Program) (t:TypeId):TypeId:=match P.underlying t with
 | some (.slice e)=>e
 | some (.array _ e)=>e
 | _=>0
def Hv (P:Program) (t:TypeId):Bool:=match P.underlying t with
 | some (.slice _)=>true
 | _=>false
def Jx (P:Program) (t:TypeId):Nat:=match P.info? t with
 | some i=>i.bytes
 | none=>0
theorem Fv (h:Hv P t=true):P.underlying t=some (.slice (Ed P t)):=by
 unfold Hv at h
 unfold Ed
 split at h
 ·rename_i e he;rw[he]
 cases h
def Fy:AV->Int
 | .lit (.int _ n)=>n
 | _=>0
def Ow:AV->Bool
 | .lit (.int _ n)=>true
 | _=>false
def Fh:AV->Bool
 | .lit (.bool b)=>b
 | _=>false
def Ik:AV->Bool
 | .lit (.bool b)=>true
 | _=>false
theorem Ir {v:AV} (h:Ow v=true) {C:VC} {u:Value} (r:Ec C v u):∃k,u=.int k (Fy v):=by
 unfold Ow at h
 split at h
 ·cases r;exact⟨_,rfl⟩
 cases h
def V8 (P:Program) (t:TypeId) (l c:AV) (nid:Nat):Mp :=
 ⟨.own nid (Fy l).toNat,[(nid,.row (Ed P t) (Gj P (Ed P t)) true false (List.replicate (Fy l).toNat ((Hj P (Ed P t)).map AV.toT)))],
  Ow l=true/\Ow c=true/\Hv P t=true/\zok P (Ed P t)=true/\0<Gj P (Ed P t)/\0<=Fy l/\Fy l<=Fy c/\Fy c<=1000000/\Jx P (Ed P t)<=1000000⟩
theorem Az9 (r:Eu E β st a w) (hn:st.o nid=.gone) {l c:AV} {ul uc:Value} (hl:Ec (E.C β st w) l ul) (hcc:Ec (E.C β st w) c uc) (hc:(V8 P t l c nid).c) :
 ∃u w' β' o,(Instr.makeSlice t ul uc).run P w=.ok u w'/\(V8 P t l c nid).up=[(nid,o)]/\Eu E β' (st.set nid o) a w'/\Ec (E.C β' (st.set nid o) w') (V8 P t l c nid).v u:=by
 obtain⟨h1,h2,h3,h4,h5,h6,h7,h8,h9⟩:=hc
 obtain⟨kl,rfl⟩:=Ir h1 hl
 obtain⟨kc,rfl⟩:=Ir h2 hcc
 obtain⟨i,z,hi,hz,hsz,hzs,htl,hcell⟩:=Q2 h4
 have hby:i.bytes<=1000000:=by simpa[Jx,hi] using h9
 have hmul:(i.bytes:Int)*Fy c<=281474976710656:=by
  have a1:(i.bytes:Int)<=1000000:=by omega
  have a2:=Int.mul_le_mul a1 h8 (by omega) (by omega)
  omega
 have hrun:=run_make (P:=P) w t _ i z (Fv h3) hi hz kl kc (Fy l) (Fy c) h6 h7 hmul (by omega)
 have hms:=size_madeCells z.cells ((Fy c).toNat*i.size)
 rw[hsz] at hrun hms
 obtain⟨q1,q2⟩:=Alt (ty:=Ed P t) (fr:=true) r hn (es:=List.replicate (Fy l).toNat ((Hj P (Ed P t)).map AV.toT)) (cur:=madeCells z.cells ((Fy c).toNat*Gj P (Ed P t))) (c:=(Fy c).toNat) h5
  (fun i e he=>by rw[List.getElem?_replicate] at he;split at he<;>simp at he;rw[<- he,A2,htl]) hms (by rw[List.length_replicate];omega) (by simp only[maxLen];omega) (fun i' e j x he hx=>by
   rw[List.getElem?_replicate] at he
   split at he
   ·rename_i hlt
    simp at he
    subst he
    rw[Ap] at hx
    cases hq:(Hj P (Ed P t))[j]? with
    | none=>rw[hq] at hx;cases hx
    | some q =>
     rw[hq] at hx
     simp only[Ai,Option.some.injEq] at hx
     subst hx
     have hj:j<Gj P (Ed P t):=by rw[<- htl];exact (Ab.1 hq).1
     have hj2:j<z.cells.size:=by omega
     obtain⟨g1,g2,g3⟩:=hcell j q z.cells[j] hq (Al hj2)
     have hfre:q.fresh=true:=by
      have:q=Aas z.cells[j] ((Vz P 10 (Ed P t)).getD j 0):=by
       have e:Nr P (Ed P t)=z.cells.toList:=by simp[Nr,hi,hz]
       simp only[Hj,e,List.getElem?_zipWith] at hq
       have hu':z.cells.toList[j]? = some z.cells[j]:=by simp
       rw[hu'] at hq
       cases hk:(Vz P 10 (Ed P t))[j]? with
       | none=>rw[hk] at hq;simp at hq
       | some k=>rw[hk] at hq;simp at hq;rw[Ad,hk];exact hq.symm
      rw[this]
      unfold Aas
      split<;>rfl
     refine⟨z.cells[j],?_,(g1 (E.C β st w)).toT g3 fun _=>hfre⟩
     have hlt2:i'*Gj P (Ed P t)+j<(Fy c).toNat*Gj P (Ed P t):=by
      have:=A1 (Gj P (Ed P t)) (show i'+1<=(Fy c).toNat by omega)
      rw[Be] at this;omega
     have hmod:(i'*Gj P (Ed P t)+j) % z.cells.size=j:=by rw[hzs,Nat.mul_comm,Nat.mul_add_mod,Nat.mod_eq_of_lt hj]
     simp only[madeCells]
     rw[Array.getElem?_map,Array.getElem?_range,if_pos hlt2]
     simp only[Ai,hmod]
     rw[getElem!_pos z.cells j hj2]
   cases he)
 rw[List.length_replicate] at q2
 exact⟨_,_,_,_,hrun,rfl,q1,q2⟩
end
section
variable {P:Program}
def Lu:Ob->List (List T)
 | .row _ _ _ _ es=>es
 | _=>[]
def At2:Ob->Bool
 | .row _ _ f _ _=>f
 | _=>true
def T4:Ob->Nat
 | .row _ k _ _ _=>k
 | _=>0
def F8:Ob->Bool
 | .row _ _ _ _ _=>true
 | _=>false
def Gw (o:Nat->Ob):AV->List (List T)
 | .imm _ _ es=>es
 | .own id _=>Lu (o id)
 | .sub id _ lo m=>((Lu (o id)).drop lo).take m
 | _=>[]
def Q4 (o:Nat->Ob):AV->Bool
 | .imm fr _ _=>fr
 | .own id _=>At2 (o id)
 | .sub id _ _ _=>At2 (o id)
 | _=>true
def Ae1 (o:Nat->Ob) (k:Nat):AV->Prop
 | .nil _=>True
 | .imm _ k' _=>k'=k
 | .own id n=>F8 (o id)=true/\T4 (o id)=k/\n=(Lu (o id)).length
 | .sub id n lo m=>F8 (o id)=true/\T4 (o id)=k/\n=(Lu (o id)).length
 | _=>False
def Src (C:VC) (u:Value) (f:Bool) (k:Nat) (es:List (List T)):Prop :=
 ∃A c,u=.slice A es.length c/\es.length<=c/\(∀(i:Nat) (e:List T),es[i]? = some e->e.length=k)/\(es=[]\/∃b off cur ty fz,A=some ⟨b,off,none⟩/\C.h[b]? = some (.cells cur ty fz) /\
  ∀(i:Nat) (e:List T) (j:Nat) (x:T),es[i]? = some e->e[j]? = some x->∃u,cur[off+i*k+j]? = some u/\Gq C.h (C.S f) x u)
theorem K3 {ob:Ob} (h:F8 ob=true):∃ty fz,ob=.row ty (T4 ob) (At2 ob) fz (Lu ob):=by
 cases ob with
 | row ty k fr fz es=>exact⟨ty,fz,rfl⟩
 | _=>cases h
variable {E:Gs} {β:Nat->Option Nat} {st:St} {a:Act} {w:World} {fr fz:Bool} {es:List (List T)}
theorem Eu.row_cells (r:Eu E β st a w) {id ty k:Nat} (h:st.o id=.row ty k fr fz es) :
 0<k/\(∀(i:Nat) (e:List T),es[i]? = some e->e.length=k)/\((β id=none/\es=[])\/∃b cur c,β id=some b/\w.heap[b]? = some (.cells cur ty (0,0))/\cur.size=c*k/\es.length<=c/\c<=maxLen /\
  ∀(i:Nat) (e:List T) (j:Nat) (x:T),es[i]? = some e->e[j]? = some x->∃u,cur[i*k+j]? = some u/\Gq w.heap ((E.C β st w).S fr) x u):=by
 have hr:=r.ob id
 rw[h] at hr
 obtain⟨⟨h1,h2⟩,h3⟩:=hr
 have hC:(E.C β st w).β id=β id:=rfl
 rw[hC] at h3
 refine⟨h1,h2,?_⟩
 cases hb:β id with
 | none=>rw[hb] at h3;exact .inl ⟨rfl,h3⟩
 | some b =>
  rw[hb] at h3
  obtain⟨cur,c,g1,g2,g3,g4,g5⟩:=h3
  exact .inr ⟨b,cur,c,rfl,g1,g2,g3,g4,g5⟩
variable {u:Value}
theorem Eu.own_val (r:Eu E β st a w) {id n ty k:Nat} (h:st.o id=.row ty k fr fz es) (hu:Ah2 (E.C β st w) id n u) (hn:n=es.length) :
 (β id=none/\es=[]/\∃A,u=.slice A 0 0)\/∃b cur c,β id=some b/\w.heap[b]? = some (.cells cur ty (0,0))/\cur.size=c*k/\es.length<=c/\c<=maxLen/\u=.slice (some ⟨b,0,none⟩) es.length c /\
  ∀(i:Nat) (e:List T) (j:Nat) (x:T),es[i]? = some e->e[j]? = some x->∃u,cur[i*k+j]? = some u/\Gq w.heap ((E.C β st w).S fr) x u:=by
 obtain⟨_,ty',k',fr',fz',es',ho,_,h1⟩:=hu
 have ho:st.o id=_:=ho
 rw[h] at ho
 injection ho with e1 e2 e3 e4 e5
 subst e1 e2 e3 e4 e5
 have h1:=h1 hn
 have hC:(E.C β st w).β id=β id:=rfl
 rw[hC] at h1
 obtain⟨hk,_,hr⟩:=r.row_cells h
 rcases hr with⟨hb,he⟩ | ⟨b,cur,c,hb,g1,g2,g3,g4,g5⟩
 ·rw[hb] at h1
  exact .inl ⟨hb,he,h1⟩
 rw[hb] at h1
 obtain⟨c',cur',q1,q2,q3⟩:=h1
 have q1:w.heap[b]? = _:=q1
 rw[g1] at q1
 injection q1 with q1
 injection q1 with q1
 subst q1
 have:c*k=c'*k:=g2.symm.trans q2
 have:=Nat.eq_of_mul_eq_mul_right hk this
 subst this
 exact .inr ⟨b,cur,c,hb,g1,g2,g3,g4,by rw[q3,hn],g5⟩
variable {k:Nat}
theorem Aac (r:Eu E β st a w) {x:AV} (hx:Ec (E.C β st w) x u) (hc:Ae1 st.o k x):Src (E.C β st w) u (Q4 st.o x) k (Gw st.o x):=by
 cases hx with
 | nil k' A=>exact⟨A,0,rfl,Aj _,fun i e he=>by simp[Gw] at he,.inl rfl⟩
 | imm fr k' es u h =>
  have hc:k'=k:=hc
  subst hc
  cases h with
  | nil k A c=>exact⟨A,c,rfl,Ae _,fun i e he=>by simp[Gw] at he,.inl rfl⟩
  | sl k es b off c cur ty fz us h1 h2 h3 h4 h5 h6=>exact⟨_,c,rfl,h3,h4,.inr ⟨b,off,cur,ty,fz,rfl,h1,fun i e j x he hx=>⟨_,h5 i e j x he hx,h6 i e j x he hx⟩⟩⟩
 | own id n u h =>
  obtain⟨h1,rfl,h3⟩:=hc
  obtain⟨ty,fz,ho⟩:=K3 h1
  obtain⟨hk,hel,_⟩:=r.row_cells ho
  rcases r.own_val ho h h3 with⟨hb,he,A,rfl⟩ | ⟨b,cur,c,hb,g1,g2,g3,g4,rfl,g5⟩
  ·have he2:Gw st.o (.own id n)=[]:=he
   refine⟨A,0,?_,?_,fun i e he'=>?_,.inl he2⟩
   ·rw[he2];rfl
   ·rw[he2];exact Aj _
   rw[he2] at he';simp at he'
  exact⟨_,c,rfl,g3,hel,.inr ⟨b,0,cur,ty,(0,0),rfl,g1,fun i e j x he hx=>by rw[Bm];exact g5 i e j x he hx⟩⟩
 | sub id n lo m u h =>
  obtain⟨h1,rfl,h3⟩:=hc
  obtain⟨ty,fz,ho⟩:=K3 h1
  obtain⟨hk,hel,hcell⟩:=r.row_cells ho
  obtain⟨_,ty',k',fr',fz',es',ho',_,h5⟩:=h
  have ho':st.o id=_:=ho'
  rw[ho] at ho'
  injection ho' with e1 e2 e3 e4 e5
  subst e1 e2 e3 e4 e5
  obtain⟨h6,A,c,rfl,h7,_,h8⟩:=h5 h3
  have hlen:(((Lu (st.o id)).drop lo).take m).length=m:=by rw[A5,Bc];omega
  have hget:∀(i:Nat) (e:List T),(((Lu (st.o id)).drop lo).take m)[i]? = some e->(Lu (st.o id))[lo+i]? = some e/\i<m:=fun i e he=>by
   have hi:i<m:=by rw[<- hlen];exact (Ab.1 he).1
   rw[Ag hi,Bd] at he
   exact⟨he,hi⟩
  refine⟨A,c,by simp only[Gw,hlen],by simp only[Gw,hlen];exact h7,fun i e he=>hel _ e (hget i e he).1,?_⟩
  rcases h8 with h8 | ⟨b,hb,rfl⟩
  ·obtain rfl:m=0:=by omega
   exact .inl (by simp[Gw])
  rcases hcell with⟨hb',_⟩ | ⟨b',cur,c',hb',g1,g2,g3,g4,g5⟩
  ·have hb:β id=_:=hb
   rw[hb'] at hb;cases hb
  have hb:β id=_:=hb
  rw[hb'] at hb
  injection hb with hb
  subst hb
  refine .inr ⟨b',_,cur,ty,(0,0),rfl,g1,fun i e j x he hx=>?_⟩
  obtain⟨u,q1,q2⟩:=g5 (lo+i) e j x (hget i e he).1 hx
  exact⟨u,by rw[<- q1,Be],q2⟩
 | _=>exact hc.elim
theorem Src.news {C:VC} {f:Bool} (h:Src C u f k es) (hk:0<k) (w:World) (hw:w.heap=C.h) (hne:es≠[]) :
 ∃(b off c:Nat) (news:List Value),u=.slice (some ⟨b,off,none⟩) es.length c/\news.length=es.length*k/\(∀(j:Nat) (x:Value),news[j]? = some x->w.cell? ((⟨b,off,none⟩:Addr).add j)=some x)/\(∀x∈news,x.oneCell'=true) /\
  ∀(i:Nat) (e:List T) (j:Nat) (x:T),es[i]? = some e->e[j]? = some x->∃u,news[i*k+j]? = some u/\Gq C.h (C.S f) x u:=by
 obtain⟨A,c,hu,hle,hel,h1⟩:=h
 rcases h1 with h1 | ⟨b,off,cur,ty,fz,rfl,hb,hcell⟩
 ·exact absurd h1 hne
 have hcell':∀n,n<es.length*k->∃u x,cur[off+n]? = some u/\Gq C.h (C.S f) x u:=fun n hn=>by
  have hi:n / k<es.length:=Nat.div_lt_of_lt_mul (by rw[Nat.mul_comm];exact hn)
  have hj:n % k<k:=Nat.mod_lt _ hk
  have he:=Aa hi
  have hl:=hel _ _ he
  obtain⟨u,q1,q2⟩:=hcell (n / k) _ (n % k) _ he (Aa (by omega))
  refine⟨u,_,?_,q2⟩
  rw[<- q1]
  congr 1
  rw[Nat.mul_comm,Af,Nat.div_add_mod]
 have hnews:∀n,n<es.length*k->((List.range (es.length*k)).map fun n=>(cur[off+n]?).getD undef)[n]? = cur[off+n]?:=fun n hn=>by
  obtain⟨u,_,q,_⟩:=hcell' n hn
  rw[Ap,List.getElem?_range hn];simp only[Ai,q,Bh]
 refine⟨b,off,c,(List.range (es.length*k)).map fun n=>(cur[off+n]?).getD undef,hu,by simp,fun j x hx=>?_,fun x hx=>?_,fun i e j x he hx=>?_⟩
 ·have hj:j<es.length*k:=by have:=(Ab.1 hx).1;simpa using this
  rw[hnews j hj] at hx
  rw[Addr.add_lit,cell_of_row w b _ cur ty fz (by rw[hw];exact hb)]
  exact hx
 ·obtain⟨j,hj⟩:=A3.1 hx
  have hj':j<es.length*k:=by have:=(Ab.1 hj).1;simpa using this
  rw[hnews j hj'] at hj
  obtain⟨u,y,q1,q2⟩:=hcell' j hj'
  rw[q1] at hj
  injection hj with hj
  subst hj
  exact q2.one
 obtain⟨u,q1,q2⟩:=hcell i e j x he hx
 have hi:i<es.length:=(Ab.1 he).1
 have hj:j<k:=by rw[<- hel i e he];exact (Ab.1 hx).1
 have:i*k+j<es.length*k:=by
  have:=A1 k (show i+1<=es.length by omega)
  rw[Be] at this;omega
 exact⟨u,by rw[hnews _ this,<- q1,Af],q2⟩
theorem Ami {R:T->Value->Prop} {es es2:List (List T)} {cs cs2:List Value} (hl:cs.length=es.length*k) (hel:∀(i:Nat) (e:List T),es[i]? = some e->e.length=k) (h1:∀(i:Nat) (e:List T) (j:Nat) (x:T),es[i]? = some e->e[j]? = some x->∃u,cs[i*k+j]? = some u/\R x u) (h2:∀(i:Nat) (e:List T) (j:Nat) (x:T),es2[i]? = some e->e[j]? = some x->∃u,cs2[i*k+j]? = some u/\R x u) :
  ∀(i:Nat) (e:List T) (j:Nat) (x:T),(es++es2)[i]? = some e->e[j]? = some x->∃u,(cs++cs2)[i*k+j]? = some u/\R x u:=by
 intro i e j x he hx
 by_cases hi:i<es.length
 ·rw[Au hi] at he
  obtain⟨u,q1,q2⟩:=h1 i e j x he hx
  exact⟨u,by rw[Au (Ab.1 q1).1];exact q1,q2⟩
 rw[Ao (by omega)] at he
 obtain⟨u,q1,q2⟩:=h2 _ e j x he hx
 have:es.length*k<=i*k:=A1 k (by omega)
 refine⟨u,?_,q2⟩
 rw[Ao (by omega),hl,<- q1,Nat.sub_mul]
 congr 1
 omega
variable {P:Program}
theorem Qs (w:World) (t ty e:TypeId) (i:TypeInfo) (ht:P.underlying t=some (.slice e)) (hi:P.info? e=some i) (A:Option Addr) (n cap:Nat) (hn:n<=cap) (X:Option Addr) (c:Nat) :
 (Builtin.append_ #[t,t] ty #[.slice A n cap,.slice X 0 c]).run P w=.ok (.slice A n cap) w:=by
 have hl:∀(x:Addr),(loadCells x 0).run P w=.ok #[] w:=fun x=>by simpa using run_loadCells_list (P:=P) w x [] (by simp)
 cases A<;>cases X<;>simp[Builtin.append_,run_underlying ht,sizeOf,typeInfo,hi,Builtin.lenOf,Builtin.firstCells,hn,storeCells,hl]
theorem Pg (w:World) (t ty e:TypeId) (i:TypeInfo) (z:Value) (k:Nat) (ht:P.underlying t=some (.slice e)) (hi:P.info? e=some i) (hz:i.zero=some z) (hk:i.size=k) (hzs:z.cells.size=k) (A:Option Addr) (n cap:Nat) (olds:List Value) (hlo:olds.length=n*k) (hA:A=none->n=0/\cap=0) (holds:∀b,A=some b->∀(j:Nat) (v:Value),olds[j]? = some v->w.cell? (b.add j)=some v) (x:Addr) (m c:Nat) (news:List Value) (hl:news.length=m*k) (hnews:∀(j:Nat) (v:Value),news[j]? = some v->w.cell? (x.add j)=some v) (hg:cap<n+m) (hb:i.bytes<=1000000) (hle:n+m<=1000002) :
  ∃(c':Nat) (cur:Array Value),(Builtin.append_ #[t,t] ty #[.slice A n cap,.slice (some x) m c]).run P w=.ok (.slice (some ⟨w.heap.size,0,none⟩) (n+m) c') (w.drew.alloc (.cells cur e)) /\
   cur.size=c'*k/\n+m<=c'/\c'<=maxLen/\∀(j:Nat) (u:Value),(olds++news)[j]? = some u->cur[j]? = some u:=by
 subst hk
 have hmul:(n+m)*i.bytes<=1000002*1000000:=Nat.mul_le_mul hle hb
 have h63:n+m<=maxLen:=by simp only[maxLen];omega
 have hge:=grownCap_ge w (n+m) cap e
 have hcm:grownCap w (n+m) cap e<=maxLen:=grownCap_le_maxLen w (n+m) cap e h63
 cases A with
 | none =>
  obtain⟨rfl,rfl⟩:=hA rfl
  have ho:olds=[]:=List.eq_nil_of_length_eq_zero (by omega)
  subst ho
  rw[Bm] at *
  refine⟨_,_,run_append_nil (P:=P) w t ty e i z ht hi hz x m c news hl hnews (by omega) (by omega) (by omega),?_,hge,hcm,fun j u hu=>?_⟩
  ·rw[Array.size_append,size_zeroCells,hzs,List.size_toArray,hl,<- Be]
   congr 1;omega
  have hj:j<news.length:=by simpa using (Ab.1 hu).1
  rw[Bk (by simpa using hj)]
  simpa using hu
 | some b =>
  refine⟨_,_,run_append_grow (P:=P) w t ty e i z ht hi hz b n cap olds hlo (holds b rfl) x m c news hl hnews hg (by omega) (growslice_fits hg (by omega)),?_,hge,hcm,fun j u hu=>?_⟩
  ·rw[Array.size_append,Array.size_append,size_zeroCells,hzs,List.size_toArray,List.size_toArray,hl,hlo,<- Be,<- Be]
   congr 1;omega
  have hj:j<olds.length+news.length:=by simpa using (Ab.1 hu).1
  rw[Bk (by simp;omega)]
  simpa using hu
def Nx (P:Program) (t:TypeId) (dst src:AV) (o:Nat->Ob) (nid:Nat):Mp :=
 match dst with
 | .nil _=>⟨.own nid (Gw o src).length,[(nid,.row (Ed P t) (Gj P (Ed P t)) (Q4 o src) false (Gw o src))],
  Hv P t=true/\zok P (Ed P t)=true/\0<Gj P (Ed P t)/\Jx P (Ed P t)<=1000000/\Ae1 o (Gj P (Ed P t)) src/\(Gw o src).length<=1000000⟩
 | .own id n=>match o id with
  | .row ty k fr fz es=>⟨.own id (n+(Gw o src).length),[(id,.row ty k (fr&&Q4 o src) false (es++Gw o src))],
   Hv P t=true/\zok P (Ed P t)=true/\0<Gj P (Ed P t)/\Jx P (Ed P t)<=1000000/\Ae1 o (Gj P (Ed P t)) src/\n+(Gw o src).length<=1000002/\ty=Ed P t/\k=Gj P (Ed P t)/\fz=false/\n=es.length⟩
  | _=>.bad
 | _=>.bad
theorem Ada {w w1:World} (r:Eu E β st a w) {id ty k:Nat} {fr:Bool} {cur:Array Value} {c:Nat} (hid:st.o id=.gone\/∃ty' k' fr' fz' es' fr2 fz2 es2,st.o id=.row ty' k' fr' fz' es'/\(.row ty k fr false es:Ob)=.row ty' k' fr2 fz2 es2/\es'.length<es2.length) (hk:0<k) (hel:∀(i:Nat) (e:List T),es[i]? = some e->e.length=k) (hcur:cur.size=c*k) (hle:es.length<=c) (hm:c<=maxLen) (hcell:∀(i:Nat) (e:List T) (j:Nat) (x:T),es[i]? = some e->e[j]? = some x->∃u,cur[i*k+j]? = some u/\Gq w.heap ((E.C β st w).S fr) x u) (hw:w1=w.drew.alloc (.cells cur ty)) :
  Eu E (upd β id w.heap.size) (st.set id (.row ty k fr false es)) a w1/\Ec (E.C (upd β id w.heap.size) (st.set id (.row ty k fr false es)) w1) (.own id es.length) (.slice (some ⟨w.heap.size,0,none⟩) es.length c):=by
 subst hw
 have r':Eu E β st a w.drew:=r.drew _
 refine⟨r'.bind hid (by simp) cur ty fun C s hb hh=>?_,?_⟩
 ·refine⟨⟨hk,hel⟩,?_⟩
  have hb:C.β id=some w.heap.size:=hb
  rw[hb]
  refine⟨cur,c,hh,hcur,hle,hm,fun i e j x he hx=>?_⟩
  obtain⟨u,h1,h2⟩:=hcell i e j x he hx
  exact⟨u,h1,s.T h2⟩
 refine .own _ _ _ ⟨rfl,ty,k,fr,false,es,by show (st.set _ _).o _=_;rw[St.set_o,if_pos rfl],Aj _,fun _=>?_⟩
 have:(E.C (upd β id w.heap.size) (st.set id (.row ty k fr false es)) (w.drew.alloc (.cells cur ty))).β id=some w.heap.size:=Aa5 _ _ _
 rw[this]
 exact⟨c,cur,heap_alloc_new w.drew _,hcur,rfl⟩
theorem Au0 (r:Eu E β st a w) {nid:Nat} {t ty:TypeId} {d x:AV} (hn:(∃k,d=.nil k)->st.o nid=.gone) {ud ux:Value} (hd:Ec (E.C β st w) d ud) (hx:Ec (E.C β st w) x ux) (hc:(Nx P t d x st.o nid).c) :
 ∃u w' β' id o,(Builtin.append_ #[t,t] ty #[ud,ux]).run P w=.ok u w'/\(Nx P t d x st.o nid).up=[(id,o)]/\Eu E β' (st.set id o) a w'/\Ec (E.C β' (st.set id o) w') (Nx P t d x st.o nid).v u:=by
 cases hd with
 | nil k0 A =>
  have hn:=hn ⟨k0,rfl⟩
  obtain⟨h1,h2,h3,h4,h5,h6⟩:=hc
  obtain⟨i,z,hi,hz,hsz,hzs,_,_⟩:=Q2 h2
  have hby:i.bytes<=1000000:=by simpa[Jx,hi] using h4
  have hs:=Aac r hx h5
  by_cases he:Gw st.o x=[]
  ·obtain⟨A',c,rfl,_⟩:=hs
   obtain⟨q1,q2⟩:=r.empty hn (Ed P t) h3 (Q4 st.o x)
   simp only[Nx,he]
   exact⟨_,_,_,nid,_,Qs w t ty _ i (Fv h1) hi A 0 0 (Aj _) A' c,rfl,q1,q2 A⟩
  have hpos:0<(Gw st.o x).length:=List.length_pos_iff.2 he
  obtain⟨b,off,c,news,rfl,n1,n2,n3,n4⟩:=hs.news h3 w rfl he
  obtain⟨_,_,_,_,hel,_⟩:=hs
  obtain⟨c',cur,g1,g2,g3,g4,g5⟩:=Pg w t ty _ i z _ (Fv h1) hi hz hsz hzs A 0 0 [] (by simp) (fun _=>⟨rfl,rfl⟩) (by simp) ⟨b,off,none⟩ _ c news n1 n2 (by omega) hby (by omega)
  rw[Bm] at g1 g3
  obtain⟨q1,q2⟩:=Ada r (ty:=Ed P t) (fr:=Q4 st.o x) (es:=Gw st.o x) (.inl hn) h3 hel g2 g3 g4 (fun i e j y he hy=>by
   obtain⟨u,p1,p2⟩:=n4 i e j y he hy
   exact⟨u,g5 _ u (by simpa using p1),p2⟩) rfl
  exact⟨_,_,_,nid,_,g1,rfl,q1,q2⟩
 | own id n u h =>
  have h':=h
  obtain⟨_,ty0,k,fr,fz,es,ho,_,_⟩:=h'
  have ho:st.o id=_:=ho
  simp only[Nx,ho] at hc ⊢
  obtain⟨h1,h2,h3,h4,h5,h6,rfl,rfl,rfl,h7⟩:=hc
  obtain⟨i,z,hi,hz,hsz,hzs,_,_⟩:=Q2 h2
  have hby:i.bytes<=1000000:=by simpa[Jx,hi] using h4
  have hs:=Aac r hx h5
  obtain⟨hk,helO,_⟩:=r.row_cells ho
  have hlen:(es++Gw st.o x).length=n+(Gw st.o x).length:=by rw[Bo,h7]
  by_cases he:Gw st.o x=[]
  ·obtain⟨A',c,rfl,_⟩:=hs
   obtain⟨q1,q2⟩:=r.flag ho (fr':=fr&&Q4 st.o x) (fz':=false) (fun e=>by simp only[Ah] at e;exact .inl e.1) fun e=>rfl
   have hval:∃A cc,ud=.slice A n cc/\n<=cc:=by
    rcases r.own_val ho h h7 with⟨_,e,A,rfl⟩ | ⟨b,cur,c,_,_,_,g3,_,rfl,_⟩
    ·exact⟨A,0,by rw[h7,e];rfl,by rw[h7,e];exact Aj _⟩
    exact⟨_,c,by rw[h7],by omega⟩
   obtain⟨A,cc,rfl,hcc⟩:=hval
   simp only[he,List.append_nil,List.length_nil,Nat.add_zero]
   exact⟨_,_,_,id,_,Qs w t ty _ i (Fv h1) hi A n cc hcc A' c,rfl,q1,(Ec.own id n _ h).step q2⟩
  have hpos:0<(Gw st.o x).length:=List.length_pos_iff.2 he
  obtain⟨xb,xo,xc,news,rfl,n1,n2,n3,n4⟩:=hs.news h3 w rfl he
  obtain⟨_,_,_,_,hel,_⟩:=hs
  have helA:∀(i:Nat) (e:List T),(es++Gw st.o x)[i]? = some e->e.length=Gj P (Ed P t):=fun i e hie=>by
   by_cases hlt:i<es.length
   ·rw[Au hlt] at hie;exact helO i e hie
   rw[Ao (by omega)] at hie;exact hel _ e hie
  have n4':∀(i:Nat) (e:List T) (j:Nat) (y:T),(Gw st.o x)[i]? = some e->e[j]? = some y->∃u,news[i*Gj P (Ed P t)+j]? = some u/\Gq w.heap ((E.C β st w).S (fr&&Q4 st.o x)) y u:=fun i e j y h1 h2=>by
   obtain⟨u,p1,p2⟩:=n4 i e j y h1 h2
   exact⟨u,p1,VC.T_weak p2 fun e=>by simp only[Ah] at e;exact e.2⟩
  have hbind:∀(es2:List (List T)),es.length<es2.length->(st.o id=.gone\/∃ty' k' fr' fz' es' fr2 fz2 es3,st.o id=.row ty' k' fr' fz' es'/\(.row (Ed P t) (Gj P (Ed P t)) (fr&&Q4 st.o x) false es2:Ob)=.row ty' k' fr2 fz2 es3/\es'.length<es3.length):=fun es2 hl=>.inr ⟨_,_,_,_,_,_,_,_,ho,rfl,hl⟩
  rcases r.own_val ho h h7 with⟨_,e0,A,rfl⟩ | ⟨b,cur,c,hb,w1,w2,w3,w4,rfl,w5⟩
  ·subst e0
   have h7:n=0:=h7
   subst h7
   obtain⟨c',cur,g1,g2,g3,g4,g5⟩:=Pg w t ty _ i z _ (Fv h1) hi hz hsz hzs A 0 0 [] (by simp) (fun _=>⟨rfl,rfl⟩) (by simp) ⟨xb,xo,none⟩ _ xc news n1 n2 (by omega) hby (by omega)
   obtain⟨q1,q2⟩:=Ada r (ty:=Ed P t) (fr:=fr&&Q4 st.o x) (es:=[]++Gw st.o x) (hbind _ (by simpa using hpos)) h3 helA g2 (by simpa using g3) g4 (fun i e j y he hy=>by
    obtain⟨u,p1,p2⟩:=n4' i e j y (by simpa using he) hy
    exact⟨u,g5 _ u (by simpa using p1),p2⟩) rfl
   refine⟨_,_,_,id,_,g1,rfl,q1,?_⟩
   rw[hlen] at q2
   exact q2
  have holds:∀(i:Nat) (e:List T) (j:Nat) (y:T),es[i]? = some e->e[j]? = some y->∃u,(cur.toList.take (es.length*Gj P (Ed P t)))[i*Gj P (Ed P t)+j]? = some u/\Gq w.heap ((E.C β st w).S (fr&&Q4 st.o x)) y u:=fun i e j y hie hy=>by
   obtain⟨u,p1,p2⟩:=w5 i e j y hie hy
   have hj:j<Gj P (Ed P t):=by rw[<- helO i e hie];exact (Ab.1 hy).1
   have hi':i<es.length:=(Ab.1 hie).1
   have:i*Gj P (Ed P t)+j<es.length*Gj P (Ed P t):=by
    have:=A1 (Gj P (Ed P t)) (show i+1<=es.length by omega)
    rw[Be] at this;omega
   exact⟨u,by rw[Ag this];simpa using p1,VC.T_weak (C:=E.C β st w) (g:=fr&&Q4 st.o x) p2 fun e=>by simp only[Ah] at e;exact e.1⟩
  have hmulle:es.length*Gj P (Ed P t)<=c*Gj P (Ed P t):=A1 _ w3
  have hol:(cur.toList.take (es.length*Gj P (Ed P t))).length=es.length*Gj P (Ed P t):=by rw[A5,Array.length_toList (xs:=cur),w2];exact Nat.min_eq_left hmulle
  have hcat:=Ami hol helO holds n4'
  by_cases hroom:n+(Gw st.o x).length<=c
  ·have hfit:es.length*Gj P (Ed P t)+news.length<=cur.size:=by
    rw[n1,w2,<- Be]
    exact A1 _ (by omega)
   have hrun:=run_append_room (P:=P) w t ty (Ed P t) i (Fv h1) hi b es.length c cur w1 ⟨xb,xo,none⟩ (Gw st.o x).length xc news (by rw[hsz];exact n1) n2 n3 (by omega) (by rw[hsz];exact hfit)
   rw[hsz] at hrun
   have q1:=r.change (id:=id) (o:=.row (Ed P t) (Gj P (Ed P t)) (fr&&Q4 st.o x) false (es++Gw st.o x)) (by rw[ho];rfl) hb w1 (setRow_heap w b cur _ _ (0,0) w1) (Hb cur _ _ hfit) (by simp) (fun b' hb'=>setRow_other w b b' _ hb') rfl rfl rfl
    (fun ty' cs' e=>by rw[ho] at e;cases e) (fun ty' k' fr' fz' es' e=>by
     rw[ho] at e
     injection e with e1 e2 e3 e4 e5
     subst e1 e2 e5
     exact⟨_,_,_,rfl,by simp⟩) (fun C s hCβ hCh=>by
     refine⟨⟨h3,helA⟩,?_⟩
     rw[hCβ]
     refine⟨_,c,hCh,by rw[Hb cur _ _ hfit,w2],by omega,w4,fun i e j y hie hy=>?_⟩
     obtain⟨u,p1,p2⟩:=hcat i e j y hie hy
     refine⟨u,?_,s.T p2⟩
     have hlt:=(Ab.1 p1).1
     rw[List.getElem?_toArray,Au hlt]
     exact p1) (.inr trivial)
   refine⟨_,_,β,id,_,hrun,rfl,q1,?_⟩
   refine .own _ _ _ ⟨rfl,_,_,_,_,_,by show (st.set _ _).o _=_;rw[St.set_o,if_pos rfl],by omega,fun _=>?_⟩
   have:(E.C β (st.set id (.row (Ed P t) (Gj P (Ed P t)) (fr&&Q4 st.o x) false (es++Gw st.o x))) (w.setRow b (cur.toList.take (es.length*Gj P (Ed P t))++news++cur.toList.drop (es.length*Gj P (Ed P t)+news.length)).toArray)).β id=some b:=hb
   rw[this]
   exact⟨c,_,setRow_heap w b cur _ _ (0,0) w1,by rw[Hb cur _ _ hfit,w2],by rw[h7]⟩
  obtain⟨c',cur',g1,g2,g3,g4,g5⟩:=Pg w t ty _ i z _ (Fv h1) hi hz hsz hzs (some ⟨b,0,none⟩) es.length c (cur.toList.take (es.length*Gj P (Ed P t))) hol (by simp) (fun b' e j v hv=>by
   injection e with e
   subst e
   have hj:j<es.length*Gj P (Ed P t):=by rw[<- hol];exact (Ab.1 hv).1
   rw[Ag hj] at hv
   rw[Addr.add_lit,Bm,cell_of_row w b j cur _ (0,0) w1]
   simpa using hv) ⟨xb,xo,none⟩ _ xc news n1 n2 (by omega) hby (by omega)
  obtain⟨q1,q2⟩:=Ada r (ty:=Ed P t) (fr:=fr&&Q4 st.o x) (es:=es++Gw st.o x) (hbind _ (by omega)) h3 helA g2 (by omega) g4 (fun i e j y hie hy=>by
   obtain⟨u,p1,p2⟩:=hcat i e j y hie hy
   exact⟨u,g5 _ u p1,p2⟩) rfl
  refine⟨_,_,_,id,_,g1,rfl,q1,?_⟩
  rw[hlen,h7] at q2
  rw[h7]
  exact q2
 | _=>simp[Nx,Mp.bad] at hc
end
section
variable {P:Program}
variable {P:Program}
theorem Mh (w:World) (dT sT ty elem:TypeId) (k g o dLen dCap:Nat) (a:Addr) (sLen sCap:Nat) (cur:Array Value) (t:TypeId) (cs:List Value) (hu:P.underlying dT=some (.slice elem)) (hs:(P.info? elem).map (·.size)=some k) (hg:w.heap[g]? = some (.cells cur t (0,0))) (hn:cs.length=Nat.min sLen dLen*k) (hsrc:∀j v,cs[j]? = some v->w.cell? (a.add j)=some v) (hfit:o+cs.length<=cur.size) (h1:∀v∈cs,v.oneCell'=true) :
  (Builtin.copy_ #[dT,sT] ty #[.slice (some ⟨g,o,none⟩) dLen dCap,.slice (some a) sLen sCap]).run P w =
   .ok (goInt (Nat.min sLen dLen)) (w.setRow g (cur.toList.take o++cs++cur.toList.drop (o+cs.length)).toArray):=by
 have hl:=run_loadCells_list (P:=P) w a cs hsrc
 have hst:=run_storeCells_at P g o t cs 0 cur w hg (by simpa using hfit) h1
 cases hq:P.info? elem with
 | none=>simp[hq] at hs
 | some i =>
  have hi:i.size=k:=by simpa[hq] using hs
  simp[Builtin.copy_,run_underlying hu,Builtin.lenOf,Builtin.firstCells,sizeOf,typeInfo,hq,hi,<- hn,hl,hst]
theorem Agv (w:World) (dT sT ty elem:TypeId) (k:Nat) (d a:Option Addr) (dLen dCap sLen sCap:Nat) (hu:P.underlying dT=some (.slice elem)) (hs:(P.info? elem).map (·.size)=some k) (hn:Nat.min sLen dLen=0) :
 (Builtin.copy_ #[dT,sT] ty #[.slice d dLen dCap,.slice a sLen sCap]).run P w=.ok (goInt 0) w:=by
 cases hq:P.info? elem with
 | none=>simp[hq] at hs
 | some i =>
  have hl:∀(x:Addr),(loadCells x 0).run P w=.ok #[] w:=fun x=>by simpa using run_loadCells_list (P:=P) w x [] (by simp)
  cases d<;>cases a<;>simp[Builtin.copy_,run_underlying hu,Builtin.lenOf,Builtin.firstCells,sizeOf,typeInfo,hq,hn,storeCells,hl]
def Ps (P:Program) (t:TypeId) (id n lo m:Nat) (src:AV) (o:Nat->Ob):Mp :=
 match o id with
 | .row ty k fr fz es=>⟨.lit (.int .i64 (min (Gw o src).length m:Nat)),[(id,.row ty k (fr&&Q4 o src) false (K4 es lo ((Gw o src).take m)))],
  Hv P t=true/\tok P (Ed P t)=true/\Ae1 o (Gj P (Ed P t)) src/\k=Gj P (Ed P t)/\fz=false/\n=es.length/\lo+m<=n⟩
 | _=>.bad
def V9 (P:Program) (t:TypeId) (d src:AV) (o:Nat->Ob):Mp :=
 match d with
 | .own id n=>Ps P t id n 0 n src o
 | .sub id n lo m=>Ps P t id n lo m src o
 | _=>.bad
variable {E:Gs} {β:Nat->Option Nat} {st:St} {a:Act} {w:World} {id n lo m:Nat} {ud ux:Value}
theorem As8 (r:Eu E β st a w) {t dT sT ty:TypeId} (hT:dT=t) {x:AV} (hd:∀ty k fr fz es,st.o id=.row ty k fr fz es->n=es.length->lo+m<=n->∃A c,ud=.slice A m c/\(m=0\/∃b,β id=some b/\A=some ⟨b,lo*k,none⟩)) (hx:Ec (E.C β st w) x ux) (hc:(Ps P t id n lo m x st.o).c) :
 ∃u w' o,(Builtin.copy_ #[dT,sT] ty #[ud,ux]).run P w=.ok u w'/\(Ps P t id n lo m x st.o).up=[(id,o)]/\Eu E β (st.set id o) a w'/\Ec (E.C β (st.set id o) w') (Ps P t id n lo m x st.o).v u:=by
 subst hT
 unfold Ps at hc ⊢
 cases ho:st.o id with
 | gone=>rw[ho] at hc;exact hc.elim
 | box ty cs=>rw[ho] at hc;exact hc.elim
 | row ty' k fr fz es =>
  rw[ho] at hc
  obtain⟨h1,h2,h3,rfl,rfl,h6,h7⟩:=hc
  obtain⟨A,c,rfl,hA⟩:=hd _ _ _ _ _ ho h6 h7
  have hinfo:(P.info? (Ed P dT)).map (·.size)=some (Gj P (Ed P dT)):=by
   simp only[tok,Ah] at h2
   obtain⟨i,hi⟩:=Option.isSome_iff_exists.1 h2.2
   simp[Gj,hi]
  have hs:=Aac r hx h3
  obtain⟨hk,hel,hcell⟩:=r.row_cells ho
  by_cases h0:min (Gw st.o x).length m=0
  ·obtain⟨A',c',rfl,_⟩:=hs
   obtain⟨q1,q2⟩:=r.flag ho (fr':=fr&&Q4 st.o x) (fz':=false) (fun e=>by simp only[Ah] at e;exact .inl e.1) fun e=>rfl
   have he:(Gw st.o x).take m=[]:=List.eq_nil_of_length_eq_zero (by rw[A5];omega)
   simp only[he,K4,h0]
   exact⟨_,_,_,Agv w dT sT ty _ _ A A' m c _ c' (Fv h1) hinfo h0,rfl,q1,.lit _⟩
  have hne:Gw st.o x≠[]:=fun e=>by rw[e] at h0;simp at h0
  obtain⟨xb,xo,xc,news,rfl,n1,n2,n3,n4⟩:=hs.news hk w rfl hne
  obtain⟨_,_,_,_,helx,_⟩:=hs
  rcases hA with hm | ⟨b,hb,rfl⟩
  ·omega
  rcases hcell with⟨hb',_⟩ | ⟨b',cur,cc,hb',g1,g2,g3,g4,g5⟩
  ·rw[hb'] at hb;cases hb
  rw[hb'] at hb
  injection hb with hb
  subst hb
  have hlt:(news.take (min (Gw st.o x).length m*Gj P (Ed P dT))).length=min (Gw st.o x).length m*Gj P (Ed P dT):=by
   rw[A5,n1]
   exact Nat.min_eq_left (A1 _ (Nat.min_le_left _ _))
  have hnews:∀(j:Nat) (v:Value),(news.take (min (Gw st.o x).length m*Gj P (Ed P dT)))[j]? = some v->news[j]? = some v:=fun j v hv=>by
   have hj:j<min (Gw st.o x).length m*Gj P (Ed P dT):=by rw[<- hlt];exact (Ab.1 hv).1
   rw[Ag hj] at hv
   exact hv
  have hfit:lo*Gj P (Ed P dT)+(news.take (min (Gw st.o x).length m*Gj P (Ed P dT))).length<=cur.size:=by
   rw[hlt,g2,<- Be]
   exact A1 _ (by omega)
  have hrun:=Mh (P:=P) w dT sT ty (Ed P dT) (Gj P (Ed P dT)) b' (lo*Gj P (Ed P dT)) m c ⟨xb,xo,none⟩ (Gw st.o x).length xc cur ty' _ (Fv h1) hinfo g1 hlt (fun j v hv=>n2 j v (hnews j v hv)) hfit (fun v hv=>n3 v (Aq hv))
  refine⟨_,_,_,hrun,rfl,?_,.lit _⟩
  have htl:((Gw st.o x).take m).length=min (Gw st.o x).length m:=by rw[A5,Nat.min_comm]
  refine r.change (id:=id) (by rw[ho];rfl) hb' g1 (setRow_heap w b' cur _ _ (0,0) g1) (Hb cur _ _ hfit) (by simp) (fun b' hb'=>setRow_other w _ b' _ hb') rfl rfl rfl
   (fun ty' cs' e=>by rw[ho] at e;cases e) (fun ty' k' fr' fz' es' e=>by
    rw[ho] at e
    injection e with e1 e2 e3 e4 e5
    subst e1 e2 e5
    exact⟨_,_,_,rfl,by rw[Fr];exact Aj _⟩) (fun C s hCβ hCh=>?_) (.inr trivial)
  refine⟨⟨hk,fun i e he=>?_⟩,?_⟩
  ·rw[Jy] at he
   split at he
   ·exact helx _ e (by rw[List.getElem?_take] at he;split at he<;>first | exact he | cases he)
   exact hel _ e he
  rw[hCβ]
  refine⟨_,cc,hCh,by rw[Hb cur _ _ hfit,g2],by rw[Fr];exact g3,g4,fun i e j y he hy=>?_⟩
  rw[Pd cur _ _ hfit,hlt]
  rw[Jy,htl] at he
  have hmm:∀p q:Nat,p+1<=q->p*Gj P (Ed P dT)+Gj P (Ed P dT)<=q*Gj P (Ed P dT):=fun p q h=>by
   have:=A1 (Gj P (Ed P dT)) h
   rw[Be] at this;omega
  by_cases hin:lo<=i/\i<lo+min (Gw st.o x).length m/\i<es.length
  ·rw[if_pos hin] at he
   have he':(Gw st.o x)[i - lo]? = some e:=by
    rw[List.getElem?_take] at he
    split at he
    ·exact he
    cases he
   have hj:j<Gj P (Ed P dT):=by rw[<- helx _ e he'];exact (Ab.1 hy).1
   obtain⟨u,p1,p2⟩:=n4 _ e j y he' hy
   have a1:=hmm i (lo+min (Gw st.o x).length m) (by omega)
   have a2:lo*Gj P (Ed P dT)<=i*Gj P (Ed P dT):=A1 _ hin.1
   have a3:=hmm (i - lo) (min (Gw st.o x).length m) (by omega)
   rw[Be] at a1
   rw[if_pos ⟨by omega,by omega⟩]
   refine⟨u,?_,VC.T_weak (s.T p2) fun e=>by simp only[Ah] at e;exact e.2⟩
   rw[Ag (by rw[Nat.sub_mul] at a3;omega),<- p1,Nat.sub_mul]
   congr 1
   omega
  rw[if_neg hin] at he
  have hj:j<Gj P (Ed P dT):=by rw[<- hel _ e he];exact (Ab.1 hy).1
  have hil:i<es.length:=(Ab.1 he).1
  have hout:¬(lo*Gj P (Ed P dT)<=i*Gj P (Ed P dT)+j/\i*Gj P (Ed P dT)+j<lo*Gj P (Ed P dT)+min (Gw st.o x).length m*Gj P (Ed P dT)):=by
   rintro⟨b1,b2⟩
   rw[<- Be] at b2
   rcases Nat.lt_or_ge i lo with hlo | hlo
   ·have:=hmm i lo (by omega);omega
   have:=hmm (lo+min (Gw st.o x).length m) (i+1) (by omega)
   have:=A1 (Gj P (Ed P dT)) (show lo+min (Gw st.o x).length m<=i by omega)
   omega
  rw[if_neg hout]
  obtain⟨u,p1,p2⟩:=g5 i e j y he hy
  exact⟨u,p1,VC.T_weak (s.T p2) fun e=>by simp only[Ah] at e;exact e.1⟩
theorem A0o (r:Eu E β st a w) {t sT ty:TypeId} {d x:AV} (hd:Ec (E.C β st w) d ud) (hx:Ec (E.C β st w) x ux) (hc:(V9 P t d x st.o).c) :
 ∃u w' id o,(Builtin.copy_ #[t,sT] ty #[ud,ux]).run P w=.ok u w'/\(V9 P t d x st.o).up=[(id,o)]/\Eu E β (st.set id o) a w'/\Ec (E.C β (st.set id o) w') (V9 P t d x st.o).v u:=by
 cases hd with
 | own id n u h =>
  obtain⟨u,w',o,h1⟩:=As8 r (ty:=ty) (sT:=sT) (ud:=ud) rfl (fun ty k fr fz es ho hn hm=>by
   rcases r.own_val ho h hn with⟨_,he,A,rfl⟩ | ⟨b,cur,c,hb,_,_,_,_,rfl,_⟩
   ·subst he
    exact⟨A,0,by rw[hn];rfl,.inl hn⟩
   exact⟨_,c,by rw[hn],.inr ⟨b,hb,by rw[Nat.zero_mul]⟩⟩) hx (show (Ps P t id n 0 n x st.o).c from hc)
  exact⟨u,w',id,o,h1⟩
 | sub id n lo m u h =>
  obtain⟨u,w',o,h1⟩:=As8 r (ty:=ty) (sT:=sT) (ud:=ud) rfl (fun ty k fr fz es ho hn hm=>by
   obtain⟨_,ty',k',fr',fz',es',ho',_,h5⟩:=h
   have ho':st.o id=_:=ho'
   rw[ho] at ho'
   injection ho' with e1 e2 e3 e4 e5
   subst e1 e2 e3 e4 e5
   obtain⟨_,A,c,rfl,hmc,_,h8⟩:=h5 hn
   exact⟨A,c,rfl,h8.elim (fun e=>.inl (by omega)) .inr⟩) hx (show (Ps P t id n lo m x st.o).c from hc)
  exact⟨u,w',id,o,h1⟩
 | _=>simp[V9,Mp.bad] at hc
theorem Agn (r:Eu E β st a w) {id b lo:Nat} {ty k:Nat} {fr fr2:Bool} {es ns:List (List T)} (ho:st.o id=.row ty k fr false es) (hb:β id=some b) {cur:Array Value} (hcur:w.heap[b]? = some (.cells cur ty (0,0))) {news:List Value} (hlen:news.length=ns.length*k) (helx:∀(i:Nat) (e:List T),ns[i]? = some e->e.length=k) (hn:∀(i:Nat) (e:List T) (j:Nat) (y:T),ns[i]? = some e->e[j]? = some y->∃u,news[i*k+j]? = some u/\Gq w.heap ((E.C β st w).S fr2) y u) (hle:lo+ns.length<=es.length) :
  lo*k+news.length<=cur.size/\Eu E β (st.set id (.row ty k (fr&&fr2) false (K4 es lo ns))) a (w.setRow b (cur.toList.take (lo*k)++news++cur.toList.drop (lo*k+news.length)).toArray):=by
 obtain⟨hk,hel,hcell⟩:=r.row_cells ho
 rcases hcell with⟨hb',_⟩ | ⟨b',cur',cc,hb',g1,g2,g3,g4,g5⟩
 ·rw[hb'] at hb;cases hb
 rw[hb'] at hb
 injection hb with hb
 subst hb
 rw[g1] at hcur
 injection hcur with hcur
 injection hcur with hcur
 subst hcur
 have hfit:lo*k+news.length<=cur'.size:=by
  rw[hlen,g2,<- Be]
  exact A1 _ (by omega)
 refine⟨hfit,?_⟩
 refine r.change (id:=id) (by rw[ho];rfl) hb' g1 (setRow_heap w b' cur' _ _ (0,0) g1) (Hb cur' _ _ hfit) (by simp) (fun b' hb'=>setRow_other w _ b' _ hb') rfl rfl rfl
  (fun ty' cs' e=>by rw[ho] at e;cases e) (fun ty' k' fr' fz' es' e=>by
   rw[ho] at e
   injection e with e1 e2 e3 e4 e5
   subst e1 e2 e5
   exact⟨_,_,_,rfl,by rw[Fr];exact Aj _⟩) (fun C s hCβ hCh=>?_) (.inr trivial)
 refine⟨⟨hk,fun i e he=>?_⟩,?_⟩
 ·rw[Jy] at he
  split at he
  ·exact helx _ e he
  exact hel _ e he
 rw[hCβ]
 refine⟨_,cc,hCh,by rw[Hb cur' _ _ hfit,g2],by rw[Fr];exact g3,g4,fun i e j y he hy=>?_⟩
 rw[Pd cur' _ _ hfit,hlen]
 rw[Jy] at he
 have hmm:∀p q:Nat,p+1<=q->p*k+k<=q*k:=fun p q h=>by
  have:=A1 k h
  rw[Be] at this;omega
 by_cases hin:lo<=i/\i<lo+ns.length/\i<es.length
 ·rw[if_pos hin] at he
  have hj:j<k:=by rw[<- helx _ e he];exact (Ab.1 hy).1
  obtain⟨u,p1,p2⟩:=hn _ e j y he hy
  have a1:=hmm i (lo+ns.length) (by omega)
  have a2:lo*k<=i*k:=A1 _ hin.1
  rw[Be] at a1
  rw[if_pos ⟨by omega,by omega⟩]
  refine⟨u,?_,VC.T_weak (s.T p2) fun e=>by simp only[Ah] at e;exact e.2⟩
  rw[<- p1,Nat.sub_mul]
  congr 1
  omega
 rw[if_neg hin] at he
 have hj:j<k:=by rw[<- hel _ e he];exact (Ab.1 hy).1
 have hil:i<es.length:=(Ab.1 he).1
 have hout:¬(lo*k<=i*k+j/\i*k+j<lo*k+ns.length*k):=by
  rintro⟨b1,b2⟩
  rw[<- Be] at b2
  rcases Nat.lt_or_ge i lo with hlo | hlo
  ·have:=hmm i lo (by omega);omega
  have:=A1 k (show lo+ns.length<=i by omega)
  omega
 rw[if_neg hout]
 obtain⟨u,p1,p2⟩:=g5 i e j y he hy
 exact⟨u,p1,VC.T_weak (s.T p2) fun e=>by simp only[Ah] at e;exact e.1⟩
def Rw (P:Program) (t:TypeId) (id n lo m:Nat) (src:AV) (o:Nat->Ob):Mp :=
 match o id with
 | .row ty k fr fz es=>⟨.sub id n lo (m+(Gw o src).length),[(id,.row ty k (fr&&Q4 o src) false (K4 es (lo+m) (Gw o src)))],
  Hv P t=true/\tok P (Ed P t)=true/\Ae1 o (Gj P (Ed P t)) src/\k=Gj P (Ed P t)/\fz=false/\n=es.length/\lo+m+(Gw o src).length<=n⟩
 | _=>.bad
theorem Agw (w:World) (t ty e:TypeId) (i:TypeInfo) (ht:P.underlying t=some (.slice e)) (hi:P.info? e=some i) (b off sLen sCap:Nat) (cur:Array Value) (bt:TypeId) (hb:w.heap[b]? = some (.cells cur bt (0,0))) (a:Addr) (m c:Nat) (news:List Value) (hl:news.length=m*i.size) (hnews:∀(j:Nat) (u:Value),news[j]? = some u->w.cell? (a.add j)=some u) (h1:∀u∈news,u.oneCell'=true) (hroom:sLen+m<=sCap) (hfit:off+sLen*i.size+news.length<=cur.size) :
  (Builtin.append_ #[t,t] ty #[.slice (some ⟨b,off,none⟩) sLen sCap,.slice (some a) m c]).run P w=.ok (.slice (some ⟨b,off,none⟩) (sLen+m) sCap) (w.setRow b (cur.toList.take (off+sLen*i.size)++news++cur.toList.drop (off+sLen*i.size+news.length)).toArray):=by
 have hfc:=run_firstCells_some (P:=P) w i.size m a m c news hl hnews
 have hst:=run_storeCells_at P b (off+sLen*i.size) bt news 0 cur w hb (by simpa using hfit) h1
 simp only[Nat.add_zero] at hst
 simp[Builtin.append_,run_underlying ht,sizeOf,typeInfo,hi,Builtin.lenOf,hroom,hfc,Addr.add_lit,hst]
variable {t ty:TypeId}
theorem Arl (r:Eu E β st a w) {x:AV} (hd:Ec (E.C β st w) (.sub id n lo m) ud) (hx:Ec (E.C β st w) x ux) (hc:(Rw P t id n lo m x st.o).c) :
 ∃u w' o,(Builtin.append_ #[t,t] ty #[ud,ux]).run P w=.ok u w'/\(Rw P t id n lo m x st.o).up=[(id,o)]/\Eu E β (st.set id o) a w'/\Ec (E.C β (st.set id o) w') (Rw P t id n lo m x st.o).v u:=by
 unfold Rw at hc ⊢
 cases ho:st.o id with
 | gone=>rw[ho] at hc;exact hc.elim
 | box ty cs=>rw[ho] at hc;exact hc.elim
 | row ty' k fr fz es =>
  rw[ho] at hc
  obtain⟨h1,h2,h3,rfl,rfl,h6,h7⟩:=hc
  obtain⟨i,hi,hsz⟩:∃i,P.info? (Ed P t)=some i/\i.size=Gj P (Ed P t):=by
   simp only[tok,Ah] at h2
   obtain⟨i,hi⟩:=Option.isSome_iff_exists.1 h2.2
   exact⟨i,hi,by simp[Gj,hi]⟩
  cases hd with
  | sub id n lo m u h =>
   have h':=h
   obtain⟨q0,ty2,k',fr',fz',es',ho',q1,h5⟩:=h'
   have ho':st.o id=_:=ho'
   rw[ho] at ho'
   injection ho' with e1 e2 e3 e4 e5
   subst e1 e2 e3 e4 e5
   obtain⟨h8,A,c,rfl,hmc,hec,hA⟩:=h5 h6
   have hs:=Aac r hx h3
   obtain⟨hk,hel,hcell⟩:=r.row_cells ho
   by_cases he:Gw st.o x=[]
   ·obtain⟨A',c',rfl,_⟩:=hs
    obtain⟨q1,q2⟩:=r.flag ho (fr':=fr&&Q4 st.o x) (fz':=false) (fun e=>by simp only[Ah] at e;exact .inl e.1) fun e=>rfl
    simp only[he,K4,List.length_nil,Nat.add_zero]
    exact⟨_,_,_,Qs w t ty _ i (Fv h1) hi A m c hmc A' c',rfl,q1,(Ec.sub id n lo m _ h).step q2⟩
   have hpos:0<(Gw st.o x).length:=List.length_pos_iff.2 he
   obtain⟨xb,xo,xc,news,rfl,n1,n2,n3,n4⟩:=hs.news hk w rfl he
   obtain⟨_,_,_,_,helx,_⟩:=hs
   rcases hA with hA | ⟨b,hb,rfl⟩
   ·omega
   have hb:β id=some b:=hb
   rcases hcell with⟨hb',_⟩ | ⟨b',cur,cc,hb',g1,g2,g3,g4,g5⟩
   ·rw[hb'] at hb;cases hb
   rw[hb'] at hb
   injection hb with hb
   subst hb
   obtain⟨hfit,hrel⟩:=Agn r (lo:=lo+m) (fr2:=Q4 st.o x) (ns:=Gw st.o x) ho hb' g1 n1 helx n4 (by omega)
   have hrun:=Agw (P:=P) w t ty _ i (Fv h1) hi b' (lo*Gj P (Ed P t)) m c cur ty' g1 ⟨xb,xo,none⟩ _ xc news (by rw[hsz];exact n1) n2 n3 (by omega) (by rw[hsz,<- Be];exact hfit)
   rw[hsz,<- Be] at hrun
   refine⟨_,_,_,hrun,rfl,hrel,?_⟩
   refine .sub _ _ _ _ _ ⟨rfl,ty',_,_,false,_,by show (st.set _ _).o _=_;rw[St.set_o,if_pos rfl],by rw[Fr];omega,fun e=>⟨by rw[Fr];omega,_,_,rfl,by omega,by rw[Fr];exact hec,.inr ⟨b',hb',rfl⟩⟩⟩
def Acj (P:Program) (t:TypeId) (dst src:AV) (o:Nat->Ob) (nid:Nat):Mp :=
 match dst with
 | .sub id n lo m=>Rw P t id n lo m src o
 | v=>Nx P t v src o nid
theorem A2o (r:Eu E β st a w) {nid:Nat} {d x:AV} (hn:(∃k,d=.nil k)->st.o nid=.gone) (hd:Ec (E.C β st w) d ud) (hx:Ec (E.C β st w) x ux) (hc:(Acj P t d x st.o nid).c) :
 ∃u w' β' id o,(Builtin.append_ #[t,t] ty #[ud,ux]).run P w=.ok u w'/\(Acj P t d x st.o nid).up=[(id,o)]/\Eu E β' (st.set id o) a w'/\Ec (E.C β' (st.set id o) w') (Acj P t d x st.o nid).v u:=by
 unfold Acj at hc ⊢
 split at hc
 ·rename_i id n lo m
  obtain⟨u,w',o,h1,h2,h3,h4⟩:=Arl (ty:=ty) r hd hx hc
  exact⟨u,w',β,id,o,h1,h2,h3,h4⟩
 exact Au0 r hn hd hx hc
def Mf (P:Program) (t:TypeId) (id n lo m:Nat) (o:Nat->Ob):Mp :=
 match o id with
 | .row ty k fr fz es=>⟨.tup [],[(id,.row ty k fr false (K4 es lo (List.replicate m ((Hj P (Ed P t)).map AV.toT))))],
  Hv P t=true/\zok P (Ed P t)=true/\k=Gj P (Ed P t)/\fz=false/\n=es.length/\lo+m<=n⟩
 | _=>.bad
def Qk (P:Program) (t:TypeId) (x:AV) (o:Nat->Ob):Mp :=
 match x with
 | .own id n=>Mf P t id n 0 n o
 | .sub id n lo m=>Mf P t id n lo m o
 | _=>.bad
theorem Ap7 {t:TypeId} {i:TypeInfo} {z:Value} (hi:P.info? t=some i) (hz:i.zero=some z) {j:Nat} {q:AV} (hq:(Hj P t)[j]? = some q) (hj2:j<z.cells.size):q.fresh=true:=by
 have:q=Aas z.cells[j] ((Vz P 10 t).getD j 0):=by
  have e:Nr P t=z.cells.toList:=by simp[Nr,hi,hz]
  simp only[Hj,e,List.getElem?_zipWith] at hq
  have hu':z.cells.toList[j]? = some z.cells[j]:=by simp
  rw[hu'] at hq
  cases hk:(Vz P 10 t)[j]? with
  | none=>rw[hk] at hq;simp at hq
  | some k=>rw[hk] at hq;simp at hq;rw[Ad,hk];exact hq.symm
 rw[this]
 unfold Aas
 split<;>rfl
theorem Api (r:Eu E β st a w) {ud:Value} (hd:∀ty k fr fz es,st.o id=.row ty k fr fz es->n=es.length->lo+m<=n->∃A c,ud=.slice A m c/\(m=0\/∃b,β id=some b/\A=some ⟨b,lo*k,none⟩)) (hc:(Mf P t id n lo m st.o).c) :
 ∃u w' o,(Builtin.clear_ #[t] ty #[ud]).run P w=.ok u w'/\(Mf P t id n lo m st.o).up=[(id,o)]/\Eu E β (st.set id o) a w'/\Ec (E.C β (st.set id o) w') (Mf P t id n lo m st.o).v u:=by
 unfold Mf at hc ⊢
 cases ho:st.o id with
 | gone=>rw[ho] at hc;exact hc.elim
 | box ty cs=>rw[ho] at hc;exact hc.elim
 | row ty' k fr fz es =>
  rw[ho] at hc
  obtain⟨h1,h2,rfl,rfl,h6,h7⟩:=hc
  obtain⟨A,c,rfl,hA⟩:=hd _ _ _ _ _ ho h6 h7
  obtain⟨hk,hel,hcell⟩:=r.row_cells ho
  obtain⟨i,z,hi,hz,hsz,hzs,htl,hzc⟩:=Q2 h2
  have htup:∀C:VC,Ec C (.tup []) (.tuple #[]):=fun C=>.tup [] #[] rfl fun i c u h=>by simp at h
  rcases hA with hm | ⟨b,hb,rfl⟩
  ·subst hm
   obtain⟨q1,q2⟩:=r.flag ho (fr':=fr) (fz':=false) (fun e=>.inl e) fun e=>rfl
   simp only[List.replicate_zero,K4]
   refine⟨_,_,_,?_,rfl,q1,htup _⟩
   cases A<;>simp[Builtin.clear_,run_underlying (Fv h1)]
  by_cases hm:m=0
  ·subst hm
   obtain⟨q1,q2⟩:=r.flag ho (fr':=fr) (fz':=false) (fun e=>.inl e) fun e=>rfl
   simp only[List.replicate_zero,K4]
   refine⟨_,_,_,?_,rfl,q1,htup _⟩
   simp[Builtin.clear_,run_underlying (Fv h1)]
  rcases hcell with⟨hb',_⟩ | ⟨b',cur,cc,hb',g1,g2,g3,g4,g5⟩
  ·rw[hb'] at hb;cases hb
  rw[hb'] at hb
  injection hb with hb
  subst hb
  have hzl:(Builtin.zeroCells z.cells m).toList.length=m*Gj P (Ed P t):=by simp[Builtin.zeroCells,hzs]
  have hns:(List.replicate m ((Hj P (Ed P t)).map AV.toT)).length=m:=List.length_replicate
  obtain⟨hfit,hrel⟩:=Agn r (lo:=lo) (fr2:=true) (ns:=List.replicate m ((Hj P (Ed P t)).map AV.toT)) (news:=(Builtin.zeroCells z.cells m).toList) ho hb' g1 (by rw[hns];exact hzl)
   (fun i e he=>by rw[List.getElem?_replicate] at he;split at he<;>simp at he;rw[<- he,A2,htl]) (fun i' e j x he hx=>by
    rw[List.getElem?_replicate] at he
    split at he
    ·rename_i hlt
     simp at he
     subst he
     rw[Ap] at hx
     cases hq:(Hj P (Ed P t))[j]? with
     | none=>rw[hq] at hx;cases hx
     | some q =>
      rw[hq] at hx
      simp only[Ai,Option.some.injEq] at hx
      subst hx
      have hj:j<Gj P (Ed P t):=by rw[<- htl];exact (Ab.1 hq).1
      have hj2:j<z.cells.size:=by omega
      obtain⟨k1,k2,k3⟩:=hzc j q z.cells[j] hq (Al hj2)
      refine⟨z.cells[j],?_,(k1 (E.C β st w)).toT k3 fun _=>Ap7 hi hz hq hj2⟩
      have hlt2:i'*Gj P (Ed P t)+j<m*z.cells.size:=by
       rw[hzs]
       have:=A1 (Gj P (Ed P t)) (show i'+1<=m by omega)
       rw[Be] at this;omega
      have hmod:(i'*Gj P (Ed P t)+j) % z.cells.size=j:=by rw[hzs,Nat.mul_comm,Nat.mul_add_mod,Nat.mod_eq_of_lt hj]
      simp only[Builtin.zeroCells]
      rw[Array.getElem?_toList,Array.getElem?_map,Array.getElem?_range,if_pos hlt2]
      simp only[Ai,hmod]
      rw[getElem!_pos z.cells j hj2]
    cases he) (by rw[hns];omega)
  rw[Bool.and_true] at hrel
  have hone:∀v∈(Builtin.zeroCells z.cells m).toList,v.oneCell'=true:=fun v hv=>by
   simp only[Builtin.zeroCells,Array.toList_map,A4] at hv
   obtain⟨j,hj,rfl⟩:=hv
   have hj:j<m*z.cells.size:=by simpa using hj
   have hzp:0<z.cells.size:=by
    rcases Nat.eq_zero_or_pos z.cells.size with e | e
    ·rw[e] at hj;omega
    exact e
   have hj2:j % z.cells.size<z.cells.size:=Nat.mod_lt _ hzp
   rw[getElem!_pos z.cells _ hj2]
   have hq:=Aa (l:=Hj P (Ed P t)) (i:=j % z.cells.size) (by omega)
   exact (hzc _ _ _ hq (Al hj2)).2.1
  have hst:=run_storeCells_at P b' (lo*Gj P (Ed P t)) ty' (Builtin.zeroCells z.cells m).toList 0 cur w g1 (by simpa using hfit) hone
  simp only[Nat.add_zero] at hst
  obtain⟨m',rfl⟩:∃m',m=m'+1:=⟨m - 1,by omega⟩
  refine⟨_,_,_,?_,rfl,hrel,htup _⟩
  simp[Builtin.clear_,run_underlying (Fv h1),zeroValue,typeInfo,hi,hz,hst]
theorem Ax7 (r:Eu E β st a w) {d:AV} {ud:Value} (hd:Ec (E.C β st w) d ud) (hc:(Qk P t d st.o).c) :
 ∃u w' id o,(Builtin.clear_ #[t] ty #[ud]).run P w=.ok u w'/\(Qk P t d st.o).up=[(id,o)]/\Eu E β (st.set id o) a w'/\Ec (E.C β (st.set id o) w') (Qk P t d st.o).v u:=by
 cases hd with
 | own id n u h =>
  obtain⟨u,w',o,h1⟩:=Api (P:=P) (t:=t) (ty:=ty) r (ud:=ud) (fun ty k fr fz es ho hn hm=>by
   rcases r.own_val ho h hn with⟨_,he,A,rfl⟩ | ⟨b,cur,c,hb,_,_,_,_,rfl,_⟩
   ·subst he
    exact⟨A,0,by rw[hn];rfl,.inl hn⟩
   exact⟨_,c,by rw[hn],.inr ⟨b,hb,by rw[Nat.zero_mul]⟩⟩) (show (Mf P t id n 0 n st.o).c from hc)
  exact⟨u,w',id,o,h1⟩
 | sub id n lo m u h =>
  obtain⟨u,w',o,h1⟩:=Api (P:=P) (t:=t) (ty:=ty) r (ud:=ud) (fun ty k fr fz es ho hn hm=>by
   obtain⟨_,ty',k',fr',fz',es',ho',_,h5⟩:=h
   have ho':st.o id=_:=ho'
   rw[ho] at ho'
   injection ho' with e1 e2 e3 e4 e5
   subst e1 e2 e3 e4 e5
   obtain⟨_,A,c,rfl,hmc,_,h8⟩:=h5 hn
   exact⟨A,c,rfl,h8.elim (fun e=>.inl (by omega)) .inr⟩) (show (Mf P t id n lo m st.o).c from hc)
  exact⟨u,w',id,o,h1⟩
 | _=>simp[Qk,Mp.bad] at hc
end
end Go.Proofs.YtkkimgjinbaemaaGreat
