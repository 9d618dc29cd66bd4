/- The walk. -/
import Derived.Test.YtkkimgjinbaemaaGreatKai
noncomputable section
namespace Go.Proofs.YtkkimgjinbaemaaGreat
open Go.RowKit
set_option linter.unusedVariables false
set_option linter.unusedSimpArgs false
set_option linter.defProp false
set_option linter.unusedSectionVars false
set_option maxRecDepth 100000
set_option maxHeartbeats 4000000
def Aqz (r d:Jq):Prop:=d.num=r.num/\d.ag=r.ag
section
variable (r:Jq) (n:Int) (hb:P2 r)
include n hb
theorem Pe:Ct 147 [r.g,.li n] (fun d:Jq=>d.g) (fun d=>P2 d/\Aqz r d/\d.toks=Jm r.toks n hb.toks hb.tsec/\d.vehs=r.vehs/\d.bk=Na r.bk):=by
 refine Er Tryz.func147 ?_
 have hq:=Afl r.toks n hb.toks hb.tsec
 refine Bq ?_
 refine B8 Dy (Oc r hb) ?_
 refine B8 Dy (Aet r.toks n hb.toks hb.tsec) ?_
 refine B8 Dy (Alo r.bk) ?_
 refine Bq ?_
 exact .ret (Ep Dy ⟨r.num,r.ag,(Jm r.toks n hb.toks hb.tsec),r.vehs,(Na r.bk)⟩ ⟨⟨hb.sec,hb.lims,by dsimp only;rw[hq.1];exact hb.toks,hq.2,hb.vehs⟩,⟨rfl,rfl⟩,rfl,rfl,rfl⟩)
def G3:Jq:=(Em (Pe r n hb)).choose
theorem Adc:PP 147 [] [r.g,.li n] [] (.agg ((G3 r n hb).a false)):=(Em (Pe r n hb)).choose_spec.1
theorem Px:P2 (G3 r n hb)/\Aqz r (G3 r n hb)/\(G3 r n hb).toks=Jm r.toks n hb.toks hb.tsec/\(G3 r n hb).vehs=r.vehs/\(G3 r n hb).bk=Na r.bk:=(Em (Pe r n hb)).choose_spec.2
end
section
variable (x:Dx) (n:Int) (hb:Vh x)
include n hb
theorem T1:Ct 124 [x.g,.li n] (fun d:Dx=>d.g) (fun d=>Vh d/\d.reg=G3 x.reg n hb.reg/\d.reqs=x.reqs.filter (fun r=>decide (n<=r.unt))/\d.draws=x.draws/\d.aud=x.aud):=by
 refine Er Tryz.func124 ?_
 refine Bq ?_
 refine B8 Dy (Lv x hb) ?_
 refine B8 Dy (Adc x.reg n hb.reg) ?_
 refine B8 Dy (Aa8 x.reqs n hb.reqs hb.legs) ?_
 refine Bq ?_
 exact .ret (Ep Dy ⟨(G3 x.reg n hb.reg),(List.filter (fun r:Ew=>decide (n<=r.unt)) x.reqs),x.draws,x.aud⟩ ⟨⟨(Px x.reg n hb.reg).1,Ak (Az _ _) hb.reqs,fun r h=>hb.legs r (Bn.1 h).1,hb.draws,hb.draw,hb.aud⟩,rfl,rfl,rfl,rfl⟩)
def Fl:Dx:=(Em (T1 x n hb)).choose
theorem Ajq:PP 124 [] [x.g,.li n] [] (.agg ((Fl x n hb).a false)):=(Em (T1 x n hb)).choose_spec.1
theorem Ul:Vh (Fl x n hb)/\(Fl x n hb).reg=G3 x.reg n hb.reg/\(Fl x n hb).reqs=x.reqs.filter (fun r=>decide (n<=r.unt))/\(Fl x n hb).draws=x.draws/\(Fl x n hb).aud=x.aud:=(Em (T1 x n hb)).choose_spec.2
end
section
variable (x:Dx) (l:List Gp) (now:Int) (hr:x.reqs.length<=1000000) (hq4:x.reg.ag.rq<=3) (hl:l.length<=4) (hv:∀v∈l,v.col.length<=8/\v.cnt.length<=8)
include now hr hq4 hl hv
theorem Se:Ct 131 [x.g,.mView l,.li now] (fun d:D0=>d.g) (fun d=>d.kind=17/\d.args=[now]/\d.tok=[]/\d.data.length=vwl l+(x.reg.ag.rq*3).toNat/\By d.data):=by
 refine Er Tryz.func131 ?_
 have hlM:l.length<=1000000:=by omega
 have hv8:∀v∈l,v.col.length<=8:=fun v h=>(hv v h).1
 obtain⟨Y1,cY1,qY1⟩:=Em (Aej x.reqs x.reg.ag.rq l now hr hlM hv8 hq4)
 have hc:=qY1
 have hcM:Y1.length<=1000:=by omega
 refine Bq ?_
 refine B8 Dy cY1 ?_
 obtain⟨Y2,cY2,qY2⟩:=Em (Aat now l Y1 hl hv hcM)
 refine B8 Dy cY2 ?_
 exact .ret (Ep Dy Y2 (by have hm:=qY2;have hB:=Tc l hl hv;exact⟨hm.1,hm.2.1,hm.2.2.1,by rw[hm.2.2.2];simp only[Bo];omega,by rw[hm.2.2.2];exact (Abi l hl hv).app hc.2⟩))
def Fd:D0:=(Em (Se x l now hr hq4 hl hv)).choose
theorem Ahd:PP 131 [] [x.g,.mView l,.li now] [] (.agg ((Fd x l now hr hq4 hl hv).a false)):=(Em (Se x l now hr hq4 hl hv)).choose_spec.1
theorem Pz:(Fd x l now hr hq4 hl hv).kind=17/\(Fd x l now hr hq4 hl hv).args=[now]/\(Fd x l now hr hq4 hl hv).tok=[]/\(Fd x l now hr hq4 hl hv).data.length=vwl l+(x.reg.ag.rq*3).toNat/\By (Fd x l now hr hq4 hl hv).data:=(Em (Se x l now hr hq4 hl hv)).choose_spec.2
theorem Ahk:(Fd x l now hr hq4 hl hv).kind=17/\(Fd x l now hr hq4 hl hv).args=[now]/\(Fd x l now hr hq4 hl hv).tok=[]/\(Fd x l now hr hq4 hl hv).data.length<=60:=by have h:=Pz x l now hr hq4 hl hv;have:=Aeo hv;exact⟨h.1,h.2.1,h.2.2.1,by omega⟩
end
theorem Xl (r:Jq) (l:List Int) (slot:Int) (now:Int) (sec:List Int) (hb:P2 r) (hl:3<=l.length) (hs:sec.length<=1000):Cx 233 [.box 66 (r.a false)] [.ptr 0 0,.mI l,.li slot,.li now,.mY sec] (fun d:D0×Int×Jq=>[.box 66 (d.2.2.a false)]) (fun d=>.tup [d.1.g,.li d.2.1]) (fun d=>P2 d.2.2/\d.2.2.num=r.num/\d.2.2.ag=r.ag/\d.2.2.vehs=r.vehs/\d.2.2.bk=r.bk/\d.1.tok=[]/\d.1.args.length<=1/\d.1.data.length<=1002/\(d.2.1=0->d.1.kind=16/\(By sec->By d.1.data))):=by
 refine Tj Tryz.func233 ?_
 have hsM:sec.length<=1000000:=by omega
 refine Bq ?_
 refine Bu Dy<|.seq ?_
 refine B2 Dy 2 ?_
 obtain⟨e1,H1⟩:=gx l 0
 obtain⟨e2,H2⟩:=gx l 1
 obtain⟨e3,H3⟩:=gx l 2
 obtain⟨Y1,cY1,qY1⟩:=Em (Vo r.toks slot e1 e2 e3 (List.replicate 8 0) now hb.toks hb.tsec (by simp))
 refine Dd (Jb H1 H2 H3) cY1 ?_
 refine Bu (Jb H1 H2 H3) ?_
 refine Br ?_ ?_<;>intro h43
 ·refine Bu (Jb H1 H2 H3) ?_
  exact .ret ⟨(⟨0,[],[],[]⟩,Y1.2.2,r),rW (Jb H1 H2 H3) [0],⟨hb,rfl,rfl,rfl,rfl,rfl,by simp,by simp,fun h=>absurd h h43⟩⟩
 refine Bp<|.seq<|.H (Jb H1 H2 H3) ?_
 refine Br ?_ ?_<;>intro h48
 ·refine Bu (Jb H1 H2 H3) ?_
  exact .ret ⟨(⟨0,[],[],[]⟩,18,r),rW (Jb H1 H2 H3) [0],⟨hb,rfl,rfl,rfl,rfl,rfl,by simp,by simp,fun h=>absurd h (by simp)⟩⟩
 refine Bp ?_
 obtain⟨Y2,cY2,qY2⟩:=Em (Vo r.toks slot e1 e2 e3 sec now hb.toks hb.tsec hsM)
 have hqd:=qY2
 refine Dd (Jb H1 H2 H3) cY2<|.seq ?_
 refine Bu (Jb H1 H2 H3) ?_
 refine Br ?_ ?_<;>intro h72
 ·refine Bu (Jb H1 H2 H3) ?_
  exact .ret ⟨(⟨0,[],[],[]⟩,Y2.2.2,r),rW (Jb H1 H2 H3) [0],⟨hb,rfl,rfl,rfl,rfl,rfl,by simp,by simp,fun h=>absurd h h72⟩⟩
 refine Bp<|.H (Jb H1 H2 H3) ?_
 obtain⟨Y3,cY3,qY3⟩:=Em (Agp r.num Y2.2.1 sec hs)
 refine B8 (Jb H1 H2 H3) cY3 ?_
 refine Bu (Jb H1 H2 H3) ?_
 refine B2 Dy 3 ?_
 exact .ret ⟨(⟨16,[],[Y2.2.1],Y3⟩,0,⟨r.num,r.ag,Y2.1,r.vehs,r.bk⟩),rW (Jb H1 H2 H3) [0],⟨⟨hb.sec,hb.lims,Ak hqd.1 hb.toks,hqd.2,hb.vehs⟩,rfl,rfl,rfl,rfl,rfl,by simp,by dsimp only;rw[qY3.1];omega,fun _=>⟨rfl,qY3.2⟩⟩⟩
section
theorem Ea.lit_eq {C:VC} {v u:Value} (h:Ea C (.lit v) u):u=v:=by
 cases h
 rfl
theorem Ea.nil_eq {C:VC} {k:Nat} {u:Value} (h:Ea C (.nil k) u):∃A,u=.slice A 0 0:=by
 cases h
 exact⟨_,rfl⟩
variable {P:Program}
theorem Arn {f:FuncId} (hc:Agn P f) (args:List AV) (ty k:Nat) (hk:0<k) (hraw:∀(C:VC) (us:Array Value) (w:World),us.size=args.length->(∀t,Ea C (Ez (Hr 0 args) t) (us.getD t undef))->Calls P f us w fun e w'=>∃v,e=.returned v/\(w'.ownsRow w.heap.size ty k v 0 []\/∃A,v=.slice A 0 0)/\Below w.heap.size w w'):Ey P f [] args [.row ty k true false []] (.own 0 0):=by
 refine⟨hc,fun E β us hn ho hβ r=>?_⟩
 have hsz:us.size=args.length:=by
  have:=r.sz
  rw[hn] at this
  exact this
 refine (hraw _ us E.w0 hsz r.sl).mono ?_
 rintro e w' ⟨v,rfl,hown,hb⟩
 have hkp:Kp (fun _=>False) E.w0 w':=⟨hb.os,hb.tape,hb.output,hb.size,fun b hb' _=>hb.block b hb'⟩
 have r1:=r.grow hkp
 have hgone:∀id,(St.mk (Hr 0 args) []).o id=.gone:=fun id=>by simp[St.o]
 have ho0:∀id,E.o0 id=.gone:=fun id=>by rw[ho];simp[St.o]
 have hct:∀C:VC,Anw E.w0.heap E.o0 E.β0 C:=fun C=>⟨fun id ty cs h=>(by rw[ho0] at h;cases h),fun id ty k fr fz es h=>(by rw[ho0] at h;cases h)⟩
 have hst:∀id,(St.mk [(0,AV.own 0 0)] [Ob.row ty k true false []]).o id=if id=0 then .row ty k true false [] else .gone:=fun id=>by
  cases id with
  | zero=>rfl
  | succ n=>simp[St.o]
 have hds:=r1.df
 have Ep:∀β':Nat->Option Nat,(∀b,β' 0=some b->b<w'.heap.size/\E.w0.heap.size<=b)->Ea (({ E with n:=1 }:Gi).C β' ⟨[(0,.own 0 0)],[.row ty k true false []]⟩ w') (.own 0 0) v->J8 (({ E with n:=1 }:Gi).C β' ⟨[(0,.own 0 0)],[.row ty k true false []]⟩ w') 0 (.row ty k true false []) ->
  Eo { E with n:=1 } β' ⟨[(0,.own 0 0)],[.row ty k true false []]⟩ ⟨#[v],[]⟩ w':=fun β' h1 h2 h3=>by
  refine⟨rfl,fun t=>?_,hds,fun id=>?_,fun i j b hi hj _ _=>?_,fun i b hi hb'=>?_,r1.kp,hct _,r1.kb,r1.dk⟩
  ·cases t with
   | zero=>exact h2
   | succ t=>simp[Ez];exact .any _
  ·rw[hst]
   by_cases e:id=0
   ·subst e;exact h3
   rw[if_neg e];trivial
  ·rw[hst] at hi hj
   have e1:i=0:=by
    by_cases e:i=0
    ·exact e
    rw[if_neg e] at hi;exact absurd rfl hi
   have e2:j=0:=by
    by_cases e:j=0
    ·exact e
    rw[if_neg e] at hj;exact absurd rfl hj
   rw[e1,e2]
  rw[hst] at hi
  have e1:i=0:=by
   by_cases e:i=0
   ·exact e
   rw[if_neg e] at hi;exact absurd rfl hi
  subst e1
  have:=h1 b hb'
  exact⟨this.1,.inl this.2⟩
 have h2:(∃A,v=.slice A 0 0)\/∃g cap cur,v=.slice (some ⟨g,0,none⟩) 0 cap/\E.w0.heap.size<=g/\w'.heap[g]? = some (.cells cur ty (0,0))/\cap<=maxLen/\cur.size=cap*k:=by
  rcases hown with⟨_,⟨rfl,_⟩ | ⟨g,cap,cur,h1,h2,h3,_,h5,h6,_⟩⟩ | hA
  ·exact .inl ⟨_,rfl⟩
  ·exact .inr ⟨g,cap,cur,h1,h2,h3,h5,h6⟩
  exact .inl hA
 rcases h2 with⟨A,rfl⟩ | ⟨g,cap,cur,rfl,hg,hh,hml,hcs⟩
 ·refine⟨_,fun _=>none,rfl,Ep _ (fun b h=>by cases h) (.own _ _ _ ⟨rfl,ty,k,true,false,[],rfl,Aj _,fun _=>?_⟩) ⟨⟨hk,fun i e he=>by simp at he⟩,?_⟩⟩
  ·exact⟨A,rfl⟩
  show ([]:List (List T))=[]
  rfl
 refine⟨_,fun _=>some g,rfl,Ep _ (fun b h=>?_) (.own _ _ _ ⟨rfl,ty,k,true,false,[],rfl,Aj _,fun _=>?_⟩) ⟨⟨hk,fun i e he=>by simp at he⟩,?_⟩⟩
 ·injection h with h
  subst h
  exact⟨(Aw.1 hh).1,hg⟩
 ·exact⟨cap,cur,hh,hcs,rfl⟩
 exact⟨cur,cap,hh,hcs,Ae _,hml,fun i e j x he=>by simp at he⟩
theorem Z1 (A:Option Addr) (w:World) (t tn ty e:TypeId) (i:TypeInfo) (z:Value) (k kn:IntKind) (ht:P.underlying t=some (.slice e)) (htn:P.underlying tn=some (.int kn)) (hi:P.info? e=some i) (hz:i.zero=some z) (n:Nat) (h0:0<n) (hs:0<i.size) (h63:(n:Int)<=9223372036854775807) (h48:n*i.bytes<=281474976710656) :
  (Builtin.append_ #[t,tn] ty #[.slice A 0 0,.int k n]).run P w =
   .ok (.slice (some ⟨w.heap.size,0,none⟩) n (grownCap w n 0 e)) (w.drew.alloc (.cells (Builtin.zeroCells z.cells n++Builtin.zeroCells z.cells (grownCap w n 0 e - n)) e)):=by
 have hn:n≠0:=by omega
 have hw:IntKind.i64.wrap (n:Int)=n:=by rw[IntKind.wrap_i64];omega
 have h63':¬(9223372036854775807<(n:Int)):=by omega
 have h48':¬(281474976710656<Builtin.nextslicecap n 0*i.bytes):=by rw[nextslicecap_zero h0];omega
 have h48i:¬(281474976710656<(n:Int)*(i.bytes:Int)):=by
  rw[<- Int.natCast_mul]
  omega
 have hneg:¬((n:Int)<0):=by omega
 have hns:¬(n*i.size=0):=Nat.mul_ne_zero hn (by omega)
 have hf:∀w1:World,(Builtin.firstCells i.size 0 (.slice A 0 0)).run P w1=.ok #[] w1:=fun w1=>by
  cases A with
  | none=>exact run_firstCells_none ..
  | some a=>simp[Builtin.firstCells,loadCells,loadCellsFrom]
 simp[Builtin.append_,run_underlying ht,run_underlying htn,sizeOf,typeInfo,zeroValue,hi,hz,asInt,asIntOf,hw,hn,hneg,hns,h63',h48',h48i,Question.forced,hf,newRow,grownCap]
theorem A1z:(Tryz.prog.info? 216).map (fun i=>(i.zero,i.size,i.bytes))=some (some (.agg #[.int .i64 0,.int .i64 0]),2,16):=by kernel_rfl
theorem Ae7 (z:Array Value) (n:Nat):(Builtin.zeroCells z n).size=n*z.size:=by simp[Builtin.zeroCells]
theorem Asb (A:Option Addr) (n:Nat) (hn:n<=100000) (w:World) :
 Calls Tryz.prog 278 #[.slice A 0 0,.int .i64 (n:Int)] w fun e w'=>∃v,e=.returned v/\(w'.ownsRow w.heap.size 216 2 v 0 []\/∃A,v=.slice A 0 0)/\Below w.heap.size w w':=by
 go_enter Tryz.func278,Tryz.ntmps278
 by_cases h0:n=0
 ·subst h0
  go_wp2_with fail
  go_ret
  exact⟨_,rfl,.inr ⟨A,rfl⟩,Below.refl _ _⟩
 have h1:(0:Int)<(n:Int):=by omega
 obtain⟨i,hi,hzz⟩:=Option.map_eq_some_iff.1 A1z
 simp only[Prod.mk.injEq] at hzz
 obtain⟨hz,hs,hb⟩:=hzz
 have hrun:=Z1 A (P:=Tryz.prog) w 62 3 62 216 i (.agg #[.int .i64 0,.int .i64 0]) .i64 .i64 Tryz.underlying62 Tryz.underlying3 hi hz n (by omega) (by omega) (by omega) (by rw[hb];omega)
 have hge:=grownCap_ge w n 0 216
 have hle:=grownCap_le_maxLen w n 0 216 (by unfold maxLen;omega)
 generalize grownCap w n 0 216=cap2 at hrun hge hle
 generalize hZ:(Builtin.zeroCells (Value.agg #[.int .i64 0,.int .i64 0]).cells n++Builtin.zeroCells (Value.agg #[.int .i64 0,.int .i64 0]).cells (cap2 - n))=Z at hrun
 have hZs:Hid (Z.size=cap2*2):=Lib.hid (by
  rw[<- hZ,Array.size_append,Ae7,Ae7]
  have:(Value.agg #[.int .i64 0,.int .i64 0]).cells.size=2:=rfl
  rw[this];omega)
 have hleH:=Lib.hid hle
 have hrunH:=Lib.hid hrun
 clear hZ hle hrun
 go_wp2_with (at_builtin;refine Lib.wpList_append_run _ rfl _ _ _ _ rfl _ _ rfl rfl _ _ hrunH.out ?_)
 go_ret
 exact⟨_,rfl,.inl ⟨rfl,.inr ⟨w.heap.size,cap2,Z,rfl,Aj _,heap_alloc_new _ _,Ae _,hleH.out,hZs.out,rfl⟩⟩,Ani ((Below.refl _ _).alloc (Aj _) _) 1⟩
theorem Aez (n:Nat) (hn:n<=100000):PP 278 [] [.nil 0,.li (n:Int)] [.row 216 2 true false []] (.own 0 0):=by
 refine Arn ⟨_,Tryz.func278,rfl,rfl⟩ [.nil 0,.li (n:Int)] 216 2 (by decide) fun C us w hsz hus=>?_
 obtain⟨A,h0⟩:=Ea.nil_eq (hus 0)
 have h1:=Ea.lit_eq (hus 1)
 have e:us = #[.slice A 0 0,.int .i64 (n:Int)]:=by
  obtain⟨l⟩:=us
  match l,hsz with
  | [a,b],_ =>
   simp at h0 h1
   rw[h0,h1]
 rw[e]
 exact Asb A n hn w
end
abbrev Ah6 (l:List (List He)):List (List T):=l.map fun x=>[.sl 2 (Yw x)]
theorem Aog (n:Int) (h0:0<=n) (hn:n<=100000):PP 278 [] [.nil 0,.li n] [.row 216 2 true false []] (.own 0 0):=by
 have:=Aez n.toNat (by omega)
 rwa[Int.toNat_of_nonneg h0] at this
section
variable (ls:List (List He)) (hl:ls.length<=10) (hs:∀x∈ls,x.length<=1000)
include hl hs
theorem L6:∃d:List He,PP 261 [] [.imm false 1 (Ah6 ls)] [.row 216 2 false false (Yw d)] (.own 0 d.length)/\(d.length=(ls.map List.length).sum):=by
 refine Nk (D:=List He) (F:=fun d=>.own 0 d.length) (S:=fun d=>[.row 216 2 false false (Yw d)]) (Q:=fun d=>d.length=(ls.map List.length).sum) Tryz.func261 rfl rfl rfl (by simp[Tryz.ntmps261]) ?_
 refine Bq ?_
 refine Bq<|.seq ?_
 refine Bq<|.block ?_
 refine Bs ls.length (fun i1 (y1:Int)=>⟨[(0,.imm false 1 (Ah6 ls)),(3,.li y1),(9,.imm false 1 (Ah6 ls)),(10,.li ls.length),(11,.li i1)],[]⟩) (fun i1 y1=>0<=y1/\y1<=1000*i1) (0) (wk Dy []) (by omega) fun i1 y1 hi1 hy1=>?_
 refine Bq<|.seq ?_
 refine Br ?_ ?_<;>intro h12
 ·refine Bp<|.seq<|.block ?_
  obtain⟨e1,H1⟩:=gx ls i1
  refine Bu H1 ?_
  have hb:=hs e1 (Ac H1)
  have hw2:=Dw (y1+e1.length:Int)
  refine Bu (Fa H1 hw2) ?_
  refine Bu (Fa H1 hw2) ?_
  refine Cl ?_ ?_<;>intro h20<;>simp[go_sem] at h20
  ·exfalso;omega
  refine Bp<|.H1 (Fa H1 hw2) ?_
  refine⟨by omega,((y1+e1.length)),?_,wk (Jb (Dw ((i1:Int)+1)) H1 hw2) []⟩
  omega
 refine Bt<|.S (fun K kk=>by simp[go_sem];refine .by (Aog y1 hy1.1 (by omega)) (Qg.refl _) (by simp) ?_;simp[go_sem];exact kk)<|.seq ?_
 refine Bq<|.block ?_
 refine Bs ls.length (fun i2 (y2:(List He))=>⟨[(6,.own 0 y2.length),(25,.imm false 1 (Ah6 ls)),(26,.li ls.length),(27,.li i2)],[.row 216 2 false false (Yw y2)]⟩) (fun i2 y2=>y2.length=((ls.take i2).map List.length).sum/\y2.length<=1000*i2) ([]) (wk Dy [0]) (by simp) fun i2 y2 hi2 hy2=>?_
 refine Bq<|.seq ?_
 refine Br ?_ ?_<;>intro h28
 ·refine Bp<|.seq<|.block ?_
  obtain⟨e3,H3⟩:=gx ls i2
  refine Bu H3 ?_
  have hb:=hs e3 (Ac H3)
  refine B0 H3 ?_
  refine B0 H3 ?_
  exact⟨by omega,(y2++e3),⟨by rw[List.take_add_one,H3];simp[hy2.1],by simp;omega⟩,wk (Fa (Dw ((i2:Int)+1)) H3) [0]⟩
 refine Bt<|.R ?_
 exact .ret ⟨y2,rW Dy [0],(by dsimp only;rw[hy2.1,Bf (by omega)])⟩
def Ix:List He:=(L6 ls hl hs).choose
theorem Yt:PP 261 [] [.imm false 1 (Ah6 ls)] [.row 216 2 false false (Yw (Ix ls hl hs))] (.own 0 (Ix ls hl hs).length):=(L6 ls hl hs).choose_spec.1
theorem Abj:(Ix ls hl hs).length=(ls.map List.length).sum:=(L6 ls hl hs).choose_spec.2
end
theorem Ey.fresh {P:Program} {f:FuncId} {σa:List Ob} {args:List AV} {ty k:Nat} {fr fz:Bool} {es:List (List T)} {res:AV} (h:Ey P f σa args [.row ty k fr fz es] res) (hp:es.all (fun e=>e.all T.plain)=true):Ey P f σa args [.row ty k true fz es] res :=
 ⟨h.1,fun E β us hn ho hβ r=>(h.2 E β us hn ho hβ r).mono fun e w' ⟨v,β',he,r'⟩=>⟨v,β',he,(r'.flag (id:=0) rfl (fun _=>.inr hp) (fun h=>h)).1⟩⟩
theorem Ys (ls:List (List He)) (hl:ls.length<=10) (hs:∀x∈ls,x.length<=1000):PP 261 [] [.imm false 1 (Ah6 ls)] [] (.imm true 2 (Yw (Ix ls hl hs))):=by
 have h:=(Yt ls hl hs).fresh (by simp[T.plain,He.t])
 refine Ey.froz (es:=Yw (Ix ls hl hs)) (fz:=false) (ty:=216) ?_
 simpa using h
theorem Ate {l:List He} {p:Nat} (hl:l.length<=1000):∀x∈[l.take p,l.drop (p+1)],x.length<=1000:=by
 intro x hx
 simp only[List.mem_cons,A8,or_false] at hx
 rcases hx with rfl | rfl
 ·rw[A5];omega
 rw[Bc];omega
theorem Aas (l:List He) (id:Int) (hl:l.length<=1000):Ct 237 [.mVeh l,.li id] (fun d:List He×Int=>.tup [.mVeh d.1,.li d.2]) (fun d=>d.1.length<=l.length):=by
 refine Er Tryz.func237 ?_
 have hlM:l.length<=1000000:=by omega
 have hq:=Adu l id hlM
 have hv12:=Ac6 l id hlM
 obtain⟨p,hp⟩:∃p:Nat,Ly l id hlM=p:=⟨_,(Int.toNat_of_nonneg hq.1).symm⟩
 rw[hp] at hv12 hq
 refine Bq<|.seq ?_
 refine B3 (fun K kk=>by simp[go_sem];refine .l (Ac7 l hlM) ?_;simp[go_sem];exact kk) ?_
 refine Br ?_ ?_<;>intro h9
 ·refine Bq ?_
  refine Bz (Fk ?_);simp[go_sem]
  exact⟨([],1),by rfl,(by (dsimp only;exact Ae _))⟩
 refine Bp<|.S (fun K kk=>by simp[go_sem];refine .l (hv12) ?_;simp[go_sem];exact kk)<|.seq ?_
 by_cases hc4:p<l.length
 ·obtain⟨e1,H1⟩:=gx l ((p:Int).toNat)
  refine B3 (fun K kk=>by simp[go_sem,hc4,H1];repeat first | exact kk | refine aK ?_) ?_
  refine Br ?_ ?_<;>intro h25
  ·refine B3 (fun K kk=>by simp[go_sem,hc4,H1];exact kk) ?_
   refine Bz (Fk ?_);simp[go_sem,hc4,H1]
   exact⟨([],12),by rfl,(by (dsimp only;exact Ae _))⟩
  refine Bp ?_
  have hw2:=Dw ((p:Int)+1:Int)
  refine Cw (fun K kk=>by simp[go_sem,hc4,H1,hw2];(repeat refine aK ?_);refine .lo (Ys [l.take p,l.drop (p+1)] (by simp) (Ate hl)) (by simp[AV.low,J6,List.map_take,List.map_drop]) (by simp[AV.cln,Fb]) ?_;simp[go_sem,hc4,H1,hw2];exact kk) ?_
  refine Bz (Fk ?_);simp[go_sem,hc4,H1,hw2]
  exact⟨((Ix [l.take p,l.drop (p+1)] (by simp) (Ate hl)),0),by rfl,(by first | (dsimp only;exact Ae _) | (dsimp only;rw[Abj];simp only[List.map_cons,List.map_nil,List.sum_cons,List.sum_nil,A5,Bc];omega))⟩
 have hpe:(p:Int)=(l.length:Int):=by omega
 refine B3 (fun K kk=>by simp[go_sem,hc4,hpe];repeat first | exact kk | refine aK ?_) ?_
 refine Cl ?_ ?_<;>intro h25<;>simp[go_sem] at h25
 refine B3 (fun K kk=>by simp[go_sem,hc4,hpe];exact kk) ?_
 refine Bz (Fk ?_);simp[go_sem,hc4,hpe]
 exact⟨([],12),by rfl,(by (dsimp only;exact Ae _))⟩
theorem Ae3 {l:List F6} {s:Int} (h:Im l s=true):0<=s/\s<l.length:=by
 unfold Im at h
 simp only[Ah,decide_eq_true_eq] at h
 cases hl:l[s.toNat]? with
 | none=>rw[hl] at h;exact Bool.noConfusion h.2
 | some t=>have:=(Ab.1 hl).1;omega
theorem Aoo:P2 ⟨0,⟨[],0,0,[],0,0,0,0⟩,[],[],⟨0,0,0⟩⟩:=by constructor<;>simp
def Hy (m:D0):Prop:=m.tok.length<=2000/\m.args.length<=2000/\m.data.length<=2000
theorem Ay7 {m:D0} {h:1<=m.args.length} {h2:m.args.length<=1000000}:Hy (Gy m h h2):=by
 have:=Wl m h h2
 unfold Hy
 rw[this.2.1,this.2.2.1,this.2.2.2]
 simp
def Axs (a b:Ja) (sec:List Int) (m:D0):Prop:=b=a/\(m.kind=14\/m.kind=16)/\(By sec->By m.data)
theorem Ay8 {a:Ja} {sec:List Int} {m:D0} {h:1<=m.args.length} {h2:m.args.length<=1000000}:Axs a a sec (Gy m h h2):=by
 have:=Wl m h h2
 exact⟨rfl,.inl this.1,fun _=>by rw[this.2.2.1];exact .nil⟩
section
variable (r:Jq) (m:D0) (slot:Int) (now:Int) (sec:List Int) (hb:P2 r) (hv9:r.vehs.length<=9) (h1:m.tok.length<=2000) (h2:m.args.length<=2000) (h3:m.data.length<=2000) (a2:m.kind=2->3<=m.args.length) (a1:m.kind=3\/m.kind=4\/m.kind=5->1<=m.args.length) (a4:m.kind=4->2<=m.args.length) (hs:sec.length<=1000)
include slot now hb hv9 h1 h2 h3 a2 a1 a4 hs
theorem R9:Ct 210 [r.g,m.g,.li slot,.li now,.mY sec] (fun d:Jq×D0×Bool×Int=>.tup [d.1.g,d.2.1.g,.lb d.2.2.1,.li d.2.2.2]) (fun d=>P2 d.1/\d.1.vehs.length<=9/\(d.2.2.2=0->d.1.num=r.num/\d.1.ag=r.ag/\Axs r.bk d.1.bk sec d.2.1)/\Hy d.2.1):=by
 refine Er Tryz.func210 ?_
 have h2M:m.args.length<=1000000:=by omega
 have hv:r.vehs.length<=1000:=by omega
 refine Bq<|.seq ?_
 refine B4 (by rfl) fun K1 hK1=>?_
 simp[go_sem]
 obtain⟨Y1,cY1,qY1⟩:=Em (Aaz r hb)
 refine .l cY1 ?_
 simp[go_sem]
 refine P3 ?_
 simp[go_sem]
 obtain⟨Y2,cY2,qY2⟩:=Em (Lt m (by omega) (by omega) (by omega))
 refine .lo cY2 rfl (by simp[AV.cln,Fb]) ?_
 simp[go_sem]
 refine P3 ?_
 simp[go_sem]
 refine .lo (Adb r.toks slot) rfl (by simp[AV.cln,Fb]) ?_
 simp[go_sem]
 refine hK1 _ ?_;clear hK1
 refine Br ?_ ?_<;>intro h31
 ·refine Bq ?_
  exact .ret (Ep Dy (⟨0,⟨[],0,0,[],0,0,0,0⟩,[],[],⟨0,0,0⟩⟩,⟨0,[],[],[]⟩,false,1) ⟨Aoo,Ae _,fun h=>absurd h (by decide),by simp[Hy]⟩)
 have hu:=Ae3 (l:=r.toks) (s:=slot) (by exact h31.2)
 refine Bp<|.seq<|.R ?_
 refine Br ?_ ?_<;>intro h41
 ·refine Bq ?_
  exact .ret (Ep Dy (⟨0,⟨[],0,0,[],0,0,0,0⟩,[],[],⟨0,0,0⟩⟩,⟨0,[],[],[]⟩,false,1) ⟨Aoo,Ae _,fun h=>absurd h (by decide),by simp[Hy]⟩)
 refine Bp<|.L Dy (Oc r hb) ?_
 refine Bq ?_
 refine Bq<|.seq ?_
 refine Bq<|.block ?_
 refine Bq ?_
 refine Br ?_ ?_<;>intro h49
 ·obtain⟨Y3,cY3,qY3⟩:=Xl r m.args slot now sec hb (a2 h49) hs
  refine C6 Dy [4] cY3<|.seq ?_
  refine Bq ?_
  refine Br ?_ ?_<;>intro h104
  ·refine Bq ?_
   exact .ret (Ep Dy (⟨0,⟨[],0,0,[],0,0,0,0⟩,[],[],⟨0,0,0⟩⟩,⟨0,[],[],[]⟩,false,Y3.2.1) ⟨Aoo,Ae _,fun h=>absurd h (by exact h104),by simp[Hy]⟩)
  refine Bp<|.D ?_
  exact .ret (Ep Dy (Y3.2.2,Y3.1,((m.kind:Int) == 2),0) ⟨qY3.1,by dsimp only;rw[qY3.2.2.2.1];exact hv9,fun _=>⟨qY3.2.1,qY3.2.2.1,qY3.2.2.2.2.1,.inr (qY3.2.2.2.2.2.2.2.2 (by exact h104)).1,(qY3.2.2.2.2.2.2.2.2 (by exact h104)).2⟩,(by have hd:=qY3;refine⟨by dsimp only;rw[hd.2.2.2.2.2.1];exact Ae _,by dsimp only;omega,by dsimp only;omega⟩)⟩)
 refine Bq ?_
 refine Br ?_ ?_<;>intro h60
 ·have ha:=a1 (.inl h60)
  obtain⟨e1,H1⟩:=gx m.args 0
  obtain⟨Y4,cY4,qY4⟩:=Em (Aei r.toks e1 hb.toks hb.tsec)
  refine Dd H1 cY4 ?_
  refine Dr H1 (Qz m ha h2M)<|.seq ?_
  refine Bu H1 ?_
  refine Br ?_ ?_<;>intro h104
  ·refine Bu H1 ?_
   exact .ret (Ep H1 (⟨0,⟨[],0,0,[],0,0,0,0⟩,[],[],⟨0,0,0⟩⟩,⟨0,[],[],[]⟩,false,Y4.2) ⟨Aoo,Ae _,fun h=>absurd h (by exact h104),by simp[Hy]⟩)
  refine Bp<|.G H1 ?_
  exact .ret (Ep H1 (⟨r.num,r.ag,Y4.1,r.vehs,r.bk⟩,(Gy m ha h2M),((m.kind:Int) == 2),0) ⟨⟨hb.sec,hb.lims,Ak qY4.1 hb.toks,qY4.2,hb.vehs⟩,hv9,fun _=>⟨rfl,rfl,Ay8 (h:=ha) (h2:=h2M)⟩,Ay7 (h:=ha) (h2:=h2M)⟩)
 refine Bq ?_
 refine Br ?_ ?_<;>intro h75
 ·have ha:=a1 (.inr (.inl h75))
  obtain⟨Y5,cY5,qY5⟩:=Em (Xk r m.args slot hb (a4 h75) h2M hu.1 hu.2)
  refine B8 Dy cY5 ?_
  refine Dr Dy (Qz m ha h2M)<|.seq ?_
  refine Bq ?_
  refine Br ?_ ?_<;>intro h104
  ·refine Bq ?_
   exact .ret (Ep Dy (⟨0,⟨[],0,0,[],0,0,0,0⟩,[],[],⟨0,0,0⟩⟩,⟨0,[],[],[]⟩,false,Y5.2) ⟨Aoo,Ae _,fun h=>absurd h (by exact h104),by simp[Hy]⟩)
  refine Bp<|.D ?_
  exact .ret (Ep Dy (⟨r.num,r.ag,r.toks,Y5.1,r.bk⟩,(Gy m ha h2M),((m.kind:Int) == 2),0) ⟨⟨hb.sec,hb.lims,hb.toks,hb.tsec,by have:=qY5;dsimp only;omega⟩,qY5,fun _=>⟨rfl,rfl,Ay8 (h:=ha) (h2:=h2M)⟩,Ay7 (h:=ha) (h2:=h2M)⟩)
 refine Bq ?_
 refine Br ?_ ?_<;>intro h88
 ·have ha:=a1 (.inr (.inr h88))
  obtain⟨e2,H2⟩:=gx m.args 0
  obtain⟨Y6,cY6,qY6⟩:=Em (Aas r.vehs e2 hv)
  refine Dd H2 cY6 ?_
  refine Dr H2 (Qz m ha h2M)<|.seq ?_
  refine Bu H2 ?_
  refine Br ?_ ?_<;>intro h104
  ·refine Bu H2 ?_
   exact .ret (Ep H2 (⟨0,⟨[],0,0,[],0,0,0,0⟩,[],[],⟨0,0,0⟩⟩,⟨0,[],[],[]⟩,false,Y6.2) ⟨Aoo,Ae _,fun h=>absurd h (by exact h104),by simp[Hy]⟩)
  refine Bp<|.G H2 ?_
  exact .ret (Ep H2 (⟨r.num,r.ag,r.toks,Y6.1,r.bk⟩,(Gy m ha h2M),((m.kind:Int) == 2),0) ⟨⟨hb.sec,hb.lims,hb.toks,hb.tsec,by have:=qY6;dsimp only;omega⟩,Ak qY6 hv9,fun _=>⟨rfl,rfl,Ay8 (h:=ha) (h2:=h2M)⟩,Ay7 (h:=ha) (h2:=h2M)⟩)
 refine Bp<|.seq<|.R ?_
 refine Cl ?_ ?_<;>intro h104<;>simp[go_sem] at h104
 refine Bq ?_
 exact .ret (Ep Dy (⟨0,⟨[],0,0,[],0,0,0,0⟩,[],[],⟨0,0,0⟩⟩,⟨0,[],[],[]⟩,false,1) ⟨Aoo,Ae _,fun h=>absurd h (by first | exact h104 | decide),by simp[Hy]⟩)
def Ej:Jq×D0×Bool×Int:=(Em (R9 r m slot now sec hb hv9 h1 h2 h3 a2 a1 a4 hs)).choose
theorem Xy:PP 210 [] [r.g,m.g,.li slot,.li now,.mY sec] [] (.tup [.agg ((Ej r m slot now sec hb hv9 h1 h2 h3 a2 a1 a4 hs).1.a false),.agg ((Ej r m slot now sec hb hv9 h1 h2 h3 a2 a1 a4 hs).2.1.a false),.lit (.bool (Ej r m slot now sec hb hv9 h1 h2 h3 a2 a1 a4 hs).2.2.1),.lit (.int .i64 (Ej r m slot now sec hb hv9 h1 h2 h3 a2 a1 a4 hs).2.2.2)]):=(Em (R9 r m slot now sec hb hv9 h1 h2 h3 a2 a1 a4 hs)).choose_spec.1
theorem Ir:P2 (Ej r m slot now sec hb hv9 h1 h2 h3 a2 a1 a4 hs).1/\(Ej r m slot now sec hb hv9 h1 h2 h3 a2 a1 a4 hs).1.vehs.length<=9/\((Ej r m slot now sec hb hv9 h1 h2 h3 a2 a1 a4 hs).2.2.2=0->(Ej r m slot now sec hb hv9 h1 h2 h3 a2 a1 a4 hs).1.num=r.num/\(Ej r m slot now sec hb hv9 h1 h2 h3 a2 a1 a4 hs).1.ag=r.ag/\Axs r.bk (Ej r m slot now sec hb hv9 h1 h2 h3 a2 a1 a4 hs).1.bk sec (Ej r m slot now sec hb hv9 h1 h2 h3 a2 a1 a4 hs).2.1)/\Hy (Ej r m slot now sec hb hv9 h1 h2 h3 a2 a1 a4 hs).2.1:=(Em (R9 r m slot now sec hb hv9 h1 h2 h3 a2 a1 a4 hs)).choose_spec.2
end
theorem Hy.v {m:D0} (h:Hy m):m.tok.length<=10000/\m.args.length<=10000/\m.data.length<=10000:=⟨Ak h.1 (by decide),Ak h.2.1 (by decide),Ak h.2.2 (by decide)⟩
open Classical in
noncomputable def Ra (m:D0):Bool:=if h:Hy m then !Lz m h.v.1 h.v.2.1 h.v.2.2 else true
theorem Adf (m:D0) (h:Hy m):PP 133 [] [m.g] [] (.lb (Ra m)):=by
 have hb:Ra m = !Lz m h.v.1 h.v.2.1 h.v.2.2:=by unfold Ra;rw[dif_pos h]
 rw[hb]
 refine Ei Tryz.func133 ?_
 refine Bw ?_
 refine Di Dy (Adg m h.v.1 h.v.2.1 h.v.2.2) ?_
 exact .ret (rL Dy)
theorem Sb (l:List D0) (hl:l.length<=1000000) (hm:∀t∈l,Hy t) :
 ∃R:List (List T),PP 100 [.row 56 4 false false (Q4 l)] [.own 0 l.length] [.row 56 4 false true R] (.mMsg (l.filter fun t=>!Ra t))/\True:=by
 obtain⟨R,hR,_⟩:=V4 l 133 [] Ra hl ⟨fun _=>rfl,fun _=>rfl,fun _=>trivial,rfl,rfl⟩ fun t ht=>Adf t (hm t ht)
 refine Aec (D:=List (List T)) (F:=fun d=>.mMsg (l.filter fun t=>!Ra t)) (S:=fun d=>[.row 56 4 false true d]) (Q:=fun d=>True) Tryz.func100 rfl rfl rfl (by simp[Tryz.ntmps100]) ?_
 refine Bq ?_
 refine Da Dy [0] hR ?_
 exact .ret ⟨R,rW Dy [0],trivial⟩
section
def Am2 (φ:AV->AV):Ob->Ob
 | .box ty cs=>.box ty (cs.map φ)
 | x=>x
def Arw (φ:AV->AV):List (Nat×AV)->List (Nat×AV)
 | []=>[]
 | p::l=>(p.1,φ p.2)::Arw φ l
theorem Aip {φ:AV->AV} (h:φ .any=.any):∀(l:List (Nat×AV)) (t:Nat),Ez (Arw φ l) t=φ (Ez l t)
 | [],t=>h.symm
 | p::l,t=>by
  simp only[Arw,Ez]
  cases p.1 == t
  ·exact Aip h l t
  rfl
def Acs (φ:AV->AV):List Ob->List Ob
 | []=>[]
 | x::l=>Am2 φ x::Acs φ l
theorem Aim (φ:AV->AV):∀(l:List Ob) (i:Nat),(Acs φ l).getD i .gone=Am2 φ (l.getD i .gone)
 | [],i=>by simp[Acs,Am2]
 | x::l,0=>by simp[Acs]
 | x::l,i+1=>by have:=Aim φ l i;simp[Acs] at this ⊢;exact this
def St.remap (st:St) (φ:AV->AV) (id:Nat) (x:Ob):St:=⟨Arw φ st.sl,O7 (Acs φ st.ob) id x⟩
theorem Ry (st:St) (φ:AV->AV) (id:Nat) (x:Ob) (i:Nat):(st.remap φ id x).o i=if i=id then x else Am2 φ (st.o i):=by
 show (O7 (Acs φ st.ob) id x).getD i .gone=_
 rw[We,Aim]
 rfl
theorem Abp {φ:AV->AV} {o:Ob}:(Am2 φ o).live<->o.live:=by cases o<;>exact Iff.rfl
variable {E:Gi} {β:Nat->Option Nat} {st:St} {a:Act} {w:World} {id:Nat}
theorem Eo.remap (r:Eo E β st a w) {φ:AV->AV} (hany:φ .any=.any) {x:Ob} (hng:st.o id≠.gone) (hlv:x.live->(st.o id).live) (hE:E.o0 id=.gone) (hV:∀(c:AV) (u:Value),Ea (E.C β st w) c u->Ea (E.C β (st.remap φ id x) w) (φ c) u) (hO:J8 (E.C β (st.remap φ id x) w) id x):Eo E β (st.remap φ id x) a w:=by
 have hS:∀fr b,(E.C β st w).S fr b->(E.C β (st.remap φ id x) w).S fr b:=fun fr b ⟨h1,h2,h3⟩=>⟨h1,fun⟨i,g1,g2⟩=>h2 ⟨i,g1,by
  have g2:((st.remap φ id x).o i).live:=g2
  rw[Ry] at g2
  show (st.o i).live
  by_cases e:i=id
  ·rw[if_pos e] at g2;rw[e];exact hlv g2
  rw[if_neg e] at g2;exact Abp.1 g2⟩,h3⟩
 have hT:∀fr t u,Gh w.heap ((E.C β st w).S fr) t u->Gh w.heap ((E.C β (st.remap φ id x) w).S fr) t u:=fun fr t u h=>h.keep (fun _ _=>rfl) (hS fr)
 have hg:∀i,(st.remap φ id x).o i≠.gone->st.o i≠.gone:=fun i h e=>by
  rw[Ry] at h
  by_cases e':i=id
  ·subst e';exact hng e
  rw[if_neg e',e] at h;exact h rfl
 refine⟨r.sz,fun t=>?_,r.df,fun i=>?_,fun i j b hi hj=>r.inj i j b (hg i hi) (hg j hj),fun i b hi=>r.rng i b (hg i hi),r.kp,⟨fun i ty' cs' h=>?_,fun i ty' k fr fz es h=>?_⟩,r.kb,r.dk⟩
 ·show Ea _ (Ez (Arw φ st.sl) t) _
  rw[Aip hany]
  exact hV _ _ (r.sl t)
 ·by_cases e:i=id
  ·rw[Ry,if_pos e,e];exact hO
  rw[Ry,if_neg e]
  have:=r.ob i
  cases hq:st.o i with
  | gone=>trivial
  | row ty' k fr fz es =>
   rw[hq] at this
   obtain⟨h1,h2⟩:=this
   refine⟨h1,?_⟩
   cases hb:(E.C β (st.remap φ id x) w).β i with
   | none =>
    have hb:β i=none:=hb
    have h2:(match β i with | none=>es=[] | some b=>_):=h2
    rw[hb] at h2;exact h2
   | some b =>
    have hb:β i=some b:=hb
    have h2:(match β i with | none=>es=[] | some b=>_):=h2
    rw[hb] at h2
    obtain⟨cur,c,g1,g2,g3,g4,g5⟩:=h2
    exact⟨cur,c,g1,g2,g3,g4,fun i e j x he hx=>let ⟨u,p1,p2⟩:=g5 i e j x he hx;⟨u,p1,hT _ _ _ p2⟩⟩
  | box ty' cs' =>
   rw[hq] at this
   obtain⟨b,cur,g1,g2,g3,g4⟩:=this
   refine⟨b,cur,g1,g2,by rw[A2];exact g3,fun j c u hc hu=>?_⟩
   rw[Ap] at hc
   cases hx:cs'[j]? with
   | none=>rw[hx] at hc;cases hc
   | some x =>
    rw[hx] at hc
    simp only[Ai,Option.some.injEq] at hc
    subst hc
    exact⟨hV _ _ (g4 j x u hx hu).1,(g4 j x u hx hu).2⟩
 ·obtain⟨⟨cs2,h1⟩,h2⟩:=r.ct.box i ty' cs' h
  have e:i≠id:=fun e=>by subst e;rw[hE] at h;cases h
  have h1:st.o i=_:=h1
  exact⟨⟨_,by show (st.remap φ id x).o i=_;rw[Ry,if_neg e,h1];rfl⟩,h2⟩
 obtain⟨fr',fz',es',h1,h2⟩:=r.ct.row i ty' k fr fz es h
 have e:i≠id:=fun e=>by subst e;rw[hE] at h;cases h
 have h1:st.o i=_:=h1
 exact⟨fr',fz',es',by show (st.remap φ id x).o i=_;rw[Ry,if_neg e,h1];rfl,h2⟩
def Pb (fr:Bool):List (List T)->List AV
 | []=>[]
 | e::es=>e.map (T.av fr)++Pb fr es
theorem Aah {fr:Bool} {k:Nat}:∀{es:List (List T)},(∀(i:Nat) (e:List T),es[i]? = some e->e.length=k)->(Pb fr es).length=es.length*k
 | [],_=>by simp[Pb]
 | e::es,h=>by
  have h0:=h 0 e rfl
  have:=Aah (fr:=fr) (es:=es) fun i e' he=>h (i+1) e' he
  simp[Pb,h0,this,Be];omega
theorem Aiu {fr:Bool} {k:Nat}:∀{es:List (List T)},(∀(i:Nat) (e:List T),es[i]? = some e->e.length=k)->∀{p:Nat} {c:AV},(Pb fr es)[p]? = some c->∃(i:Nat) (e:List T) (j:Nat) (x:T),es[i]? = some e/\e[j]? = some x/\p=i*k+j/\c=T.av fr x
 | [],_,p,c,h=>by simp[Pb] at h
 | e::es,h0,p,c,h=>by
  have hl:(e.map (T.av fr)).length=k:=by rw[A2];exact h0 0 e rfl
  by_cases hp:p<k
  ·simp only[Pb] at h
   rw[Au (by omega),Ap] at h
   cases hx:e[p]? with
   | none=>rw[hx] at h;cases h
   | some x =>
    rw[hx] at h
    simp only[Ai,Option.some.injEq] at h
    exact⟨0,e,p,x,rfl,hx,by omega,h.symm⟩
  simp only[Pb] at h
  rw[Ao (by omega),hl] at h
  obtain⟨i,e',j,x,h1,h2,h3,h4⟩:=Aiu (es:=es) (fun i e' he=>h0 (i+1) e' he) h
  exact⟨i+1,e',j,x,h1,h2,by rw[Be];omega,h4⟩
mutual
def AV.tb (id n0:Nat):AV->AV
 | .own i n=>bif i == id then (bif n == n0 then .bsl i n else .any) else .own i n
 | .sub i n lo m=>bif i == id then .any else .sub i n lo m
 | .rptr i n j off=>bif i == id then .any else .rptr i n j off
 | .agg cs=>.agg (tbL id n0 cs)
 | .tup cs=>.tup (tbL id n0 cs)
 | .fn f cs=>.fn f (tbL id n0 cs)
 | .gd t v=>.gd t (v.tb id n0)
 | .any=>.any
 | .lit v=>.lit v
 | .nil k=>.nil k
 | .imm fr k es=>.imm fr k es
 | .ptr i off=>.ptr i off
 | .bsl i n=>.bsl i n
 | .iptr fr cs off=>.iptr fr cs off
def tbL (id n0:Nat):List AV->List AV
 | []=>[]
 | c::cs=>c.tb id n0::tbL id n0 cs
end
theorem Ajv (id n0:Nat):∀(cs:List AV),tbL id n0 cs=cs.map (AV.tb id n0)
 | []=>rfl
 | c::cs=>by simp[tbL,Ajv id n0 cs]
def St.toBox (st:St) (id:Nat):St:=st.remap (AV.tb id (K5 (st.o id)).length) id (.box (Z2 (st.o id)) (Pb (Arj (st.o id)) (K5 (st.o id))))
theorem Qk {α β:Type} {φ:α->β} {l:List α} {i:Nat} {c:β} (h:(l.map φ)[i]? = some c):∃x,l[i]? = some x/\c=φ x:=by
 rw[Ap] at h
 cases hx:l[i]? with
 | none=>rw[hx] at h;cases h
 | some x =>
  rw[hx] at h
  simp only[Ai,Option.some.injEq] at h
  exact⟨x,rfl,h.symm⟩
variable {fr:Bool} {es:List (List T)}
theorem Eo.toBox (r:Eo E β st a w) {ty k:Nat} (ho:st.o id=.row ty k fr false es) (hne:es≠[]) (hE:E.o0 id=.gone):Eo E β (st.toBox id) a w:=by
 have hdef:st.toBox id=st.remap (AV.tb id es.length) id (.box ty (Pb fr es)):=by unfold St.toBox;rw[ho];rfl
 rw[hdef]
 generalize hst':st.remap (AV.tb id es.length) id (.box ty (Pb fr es))=st'
 have hob:∀i,st'.o i=if i=id then .box ty (Pb fr es) else Am2 (AV.tb id es.length) (st.o i):=fun i=>by rw[<- hst',Ry]
 have hS:∀f b,(E.C β st w).S f b->(E.C β st' w).S f b:=fun f b ⟨h1,h2,h3⟩=>⟨h1,fun⟨i,g1,g2⟩=>h2 ⟨i,g1,by
  have g2:(st'.o i).live:=g2
  rw[hob] at g2
  show (st.o i).live
  by_cases e:i=id
  ·rw[e,ho];rfl
  rw[if_neg e] at g2;exact Abp.1 g2⟩,h3⟩
 have hT:∀f t u,Gh w.heap ((E.C β st w).S f) t u->Gh w.heap ((E.C β st' w).S f) t u:=fun f t u h=>h.keep (fun _ _=>rfl) (hS f)
 obtain⟨hk,hel,hcell⟩:=r.row_cells ho
 obtain⟨b,cur,c0,q1,q2,q3,q4,q5,q6⟩:∃b cur c,β id=some b/\w.heap[b]? = some (.cells cur ty (0,0))/\cur.size=c*k/\es.length<=c/\c<=maxLen/\∀(i:Nat) (e:List T) (j:Nat) (x:T),es[i]? = some e->e[j]? = some x->∃u,cur[i*k+j]? = some u/\Gh w.heap ((E.C β st w).S fr) x u:=by
  rcases hcell with⟨_,h⟩ | ⟨b,cur,c,h⟩
  ·exact absurd h hne
  exact⟨b,cur,c,h⟩
 have hrow:∀i ty' k fr fz es',i≠id->st.o i=.row ty' k fr fz es'->st'.o i=.row ty' k fr fz es':=fun i ty' k fr fz es' e h=>by
  rw[hob,if_neg e,h];rfl
 have hbox:∀i ty' cs,st.o i=.box ty' cs->st'.o i=.box ty' (cs.map (AV.tb id es.length)):=fun i ty' cs h=>by
  rw[hob,if_neg (fun e=>by subst e;rw[ho] at h;cases h),h];rfl
 have hL:∀(cs:List AV) (us:Array Value),(∀(i:Nat) (c:AV) (u:Value),cs[i]? = some c->us[i]? = some u->Ea (E.C β st' w) (c.tb id es.length) u)->∀(i:Nat) (c:AV) (u:Value),(tbL id es.length cs)[i]? = some c->us[i]? = some u->Ea (E.C β st' w) c u:=fun cs us ih i c u hc hu=>by
  rw[Ajv] at hc
  obtain⟨x,hx,rfl⟩:=Qk hc
  exact ih i x u hx hu
 have hLl:∀cs:List AV,(tbL id es.length cs).length=cs.length:=fun cs=>by rw[Ajv,A2]
 have hV:∀(c:AV) (u:Value),Ea (E.C β st w) c u->Ea (E.C β st' w) (c.tb id es.length) u:=by
  intro c u h
  induction h with
  | any u=>exact .any u
  | lit v=>exact .lit v
  | nil k A=>exact .nil k A
  | imm fr k es u h=>exact .imm _ _ _ _ (hT fr _ _ h)
  | own i n u h =>
   by_cases e:i=id
   ·subst e
    by_cases en:n=es.length
    ·simp only[AV.tb,beq_self_eq_true,cond_true,show (n == es.length)=true by simpa using en]
     rcases r.own_val ho h en with⟨_,he,_⟩ | ⟨b',cur',c,hb,_,_,g3,_,rfl,_⟩
     ·exact absurd he hne
     exact .bsl _ _ _ ⟨ty,_,b',c,by show st'.o i=_;rw[hob,if_pos rfl],hb,by rw[en],by omega⟩
    simp only[AV.tb,beq_self_eq_true,cond_true,show (n == es.length)=false by simpa using en,cond_false]
    exact .any _
   simp only[AV.tb,show (i == id)=false by simpa using e,cond_false]
   obtain⟨h1,ty',k,fr,fz,es,h2,h3⟩:=h
   exact .own i n u ⟨h1,ty',k,fr,fz,es,hrow _ _ _ _ _ _ e h2,h3⟩
  | sub i n lo m u h =>
   by_cases e:i=id
   ·simp only[AV.tb,show (i == id)=true by simpa using e,cond_true];exact .any _
   simp only[AV.tb,show (i == id)=false by simpa using e,cond_false]
   obtain⟨h1,ty',k,fr,fz,es,h2,h3⟩:=h
   exact .sub i n lo m u ⟨h1,ty',k,fr,fz,es,hrow _ _ _ _ _ _ e h2,h3⟩
  | rptr i n j off u h =>
   by_cases e:i=id
   ·simp only[AV.tb,show (i == id)=true by simpa using e,cond_true];exact .any _
   simp only[AV.tb,show (i == id)=false by simpa using e,cond_false]
   obtain⟨h1,ty',k,fr,fz,es,h2,h3⟩:=h
   exact .rptr i n j off u ⟨h1,ty',k,fr,fz,es,hrow _ _ _ _ _ _ e h2,h3⟩
  | ptr i off u h =>
   obtain⟨ty',cs',b',h1,h2,h3⟩:=h
   exact .ptr i off _ ⟨ty',_,b',hbox _ _ _ h1,h2,h3⟩
  | bsl i n u h =>
   obtain⟨ty',cs',b',c',h1,h2,h3⟩:=h
   exact .bsl i n _ ⟨ty',_,b',c',hbox _ _ _ h1,h2,h3⟩
  | iptr fr cs off b o cur ty fz us h1 h2 h3=>exact .iptr fr cs off b o cur ty fz us h1 (hS fr b h2) fun j x hx=>⟨(h3 j x hx).1,hT fr _ _ (h3 j x hx).2⟩
  | agg cs us h1 h2 ih=>exact .agg _ _ (by rw[hLl];exact h1) (hL cs us ih)
  | tup cs us h1 h2 ih=>exact .tup _ _ (by rw[hLl];exact h1) (hL cs us ih)
  | fn f cs us h1 h2 ih=>exact .fn f _ _ (by rw[hLl];exact h1) (hL cs us ih)
  | gd t v u h1 h2 ih=>exact .gd t _ u (fun e=>ih e) h2
 have hO:J8 (E.C β st' w) id (.box ty (Pb fr es)):=by
  refine⟨b,cur,q1,q2,?_,fun p c u hc hu=>?_⟩
  ·rw[Aah hel,q3];exact A1 k q4
  obtain⟨i,e,j,x,h1,h2,rfl,rfl⟩:=Aiu hel hc
  obtain⟨u',h3,h4⟩:=q6 i e j x h1 h2
  rw[hu] at h3
  injection h3 with h3
  subst h3
  exact⟨T.rel (hT _ _ _ h4),h4.one⟩
 subst hst'
 exact r.remap rfl (by rw[ho];simp) (fun _=>by rw[ho];rfl) hE hV hO
section
variable {P:Program} {n m:Nat} {st:St} {K:Exit->St->Prop} {c:Code}
theorem VW.toBox (id:Nat) {ty k:Nat} (ho:st.o id=.row ty k fr false es) (hne:es≠[]) (hm:m<=id) (hv:VW P n m c (st.toBox id) K):VW P n m c st K:=fun E F hE hF β a w r =>
 hv E F hE hF β a w (r.toBox ho hne (hE.2 id hm))
theorem VX.toBox (id:Nat) {ty k:Nat} (ho:st.o id=.row ty k fr false es) (hne:es≠[]) (hm:m<=id) (hv:VX P n m c (st.toBox id) K):VX P n m c st K:=by
 obtain⟨e,s,h1,h2⟩:=hv
 exact⟨e,s,.toBox id ho hne hm h1,h2⟩
end
mutual
def AV.sb' (id k:Nat) (es:List (List T)):AV->AV
 | .bsl i n=>bif i == id then (bif n == es.length then .imm false k es else .any) else .bsl i n
 | .ptr i off=>bif i == id then .any else .ptr i off
 | .agg cs=>.agg (sbL id k es cs)
 | .tup cs=>.tup (sbL id k es cs)
 | .fn f cs=>.fn f (sbL id k es cs)
 | .gd t v=>.gd t (v.sb' id k es)
 | .any=>.any
 | .lit v=>.lit v
 | .nil k=>.nil k
 | .imm fr k es=>.imm fr k es
 | .own i n=>.own i n
 | .sub i n lo m=>.sub i n lo m
 | .rptr i n j off=>.rptr i n j off
 | .iptr fr cs off=>.iptr fr cs off
def sbL (id k:Nat) (es:List (List T)):List AV->List AV
 | []=>[]
 | c::cs=>c.sb' id k es::sbL id k es cs
end
theorem Ajy (id k:Nat) (es:List (List T)):∀(cs:List AV),sbL id k es cs=cs.map (AV.sb' id k es)
 | []=>rfl
 | c::cs=>by simp[sbL,Ajy id k es cs]
def St.sealB (st:St) (id k:Nat) (es:List (List T)):St:=st.remap (AV.sb' id k es) id .gone
theorem Wu {k:Nat}:∀{es:List (List T)},(∀e∈es,e.length=k)->∀{i j:Nat} {e:List T} {x:T},es[i]? = some e->e[j]? = some x->es.flatten[i*k+j]? = some x
 | [],_,i,j,e,x,h,_=>by simp at h
 | e0::es,h0,0,j,e,x,h,hx=>by
  simp at h
  subst h
  have hj:=(Ab.1 hx).1
  rw[List.flatten_cons,Nat.zero_mul,Bm,Au hj,hx]
 | e0::es,h0,i+1,j,e,x,h,hx=>by
  have hl:e0.length=k:=h0 e0 (by simp)
  have h:es[i]? = some e:=by simpa using h
  have:=Wu (es:=es) (fun e' he=>h0 e' (by simp[he])) h hx
  rw[List.flatten_cons,Ao (by rw[hl,Be];omega),hl,show (i+1)*k+j - k=i*k+j by rw[Be];omega]
  exact this
variable {ty:TypeId} {cs:List AV}
theorem Eo.sealB (r:Eo E β st a w) {k:Nat} (ho:st.o id=.box ty cs) (ht:ttL cs=some es.flatten) (hk:∀e∈es,e.length=k) (hE:E.o0 id=.gone):Eo E β (st.sealB id k es) a w:=by
 unfold St.sealB
 generalize hst':st.remap (AV.sb' id k es) id .gone=st'
 have hob:∀i,st'.o i=if i=id then .gone else Am2 (AV.sb' id k es) (st.o i):=fun i=>by rw[<- hst',Ry]
 have hS:∀f b,(E.C β st w).S f b->(E.C β st' w).S f b:=fun f b ⟨h1,h2,h3⟩=>⟨h1,fun⟨i,g1,g2⟩=>h2 ⟨i,g1,by
  have g2:(st'.o i).live:=g2
  rw[hob] at g2
  show (st.o i).live
  by_cases e:i=id
  ·rw[if_pos e] at g2;exact g2.elim
  rw[if_neg e] at g2;exact Abp.1 g2⟩,h3⟩
 have hT:∀f t u,Gh w.heap ((E.C β st w).S f) t u->Gh w.heap ((E.C β st' w).S f) t u:=fun f t u h=>h.keep (fun _ _=>rfl) (hS f)
 obtain⟨b,cur,q1,q2,q3,q4⟩:J8 (E.C β st w) id (.box ty cs):=by have:=r.ob id;rwa[ho] at this
 have q1:β id=some b:=q1
 have hSb:(E.C β st' w).S false b:=by
  obtain⟨g1,g2⟩:=r.rng id b (by rw[ho];simp) q1
  refine⟨g1,?_,g2.elim .inl fun h=>.inr (.inl h)⟩
  rintro⟨i,h1,h2⟩
  have h1:β i=some b:=h1
  have h2:(st'.o i).live:=h2
  rw[hob] at h2
  by_cases e:i=id
  ·rw[if_pos e] at h2;exact h2
  rw[if_neg e] at h2
  refine e (r.inj i id b (fun hg=>?_) (by rw[ho];simp) h1 q1)
  rw[hg] at h2
  exact h2
 have hrow:∀i ty' k' fr fz es',st.o i=.row ty' k' fr fz es'->st'.o i=.row ty' k' fr fz es':=fun i ty' k' fr fz es' h=>by
  rw[hob,if_neg (fun e=>by subst e;rw[ho] at h;cases h),h];rfl
 have hcell:∀(j:Nat) (x:T),es.flatten[j]? = some x->cur[j]? = some ((cur[j]?).getD undef)/\Gh w.heap ((E.C β st' w).S false) x ((cur[j]?).getD undef):=fun j x hx=>by
  obtain⟨c,g1,g2⟩:=Ad4 ht j x hx
  have hj:j<cur.size:=Nat.lt_of_lt_of_le (Ab.1 g1).1 q3
  have g3:cur[j]? = some cur[j]:=Al hj
  obtain⟨g4,g5⟩:=q4 j c _ g1 g3
  rw[g3]
  refine⟨rfl,?_⟩
  simp only[Bh]
  generalize cur[j]=u at g4 g5
  cases g4 with
  | lit v=>simp only[Yu,Option.some.injEq] at g2;subst g2;exact .lit _ g5
  | nil k A=>simp only[Yu,Option.some.injEq] at g2;subst g2;exact .nil _ _ _
  | imm fr k es u h=>simp only[Yu,Option.some.injEq] at g2;subst g2;exact VC.T_weak (C:=E.C β st' w) (g:=false) (hT fr _ _ h) fun e=>by cases e
  | fn f cs us k1 k2 =>
   obtain⟨fr,ts',off',rfl,rfl⟩:=Aju g2
   exact VC.T_weak (C:=E.C β st' w) (g:=false) (hT fr _ _ (Ea.fn1 (.fn f _ us k1 k2))) fun e=>by cases e
  | _=>cases g2
 have hL:∀(cs:List AV) (us:Array Value),(∀(i:Nat) (c:AV) (u:Value),cs[i]? = some c->us[i]? = some u->Ea (E.C β st' w) (c.sb' id k es) u)->∀(i:Nat) (c:AV) (u:Value),(sbL id k es cs)[i]? = some c->us[i]? = some u->Ea (E.C β st' w) c u:=fun cs us ih i c u hc hu=>by
  rw[Ajy] at hc
  obtain⟨x,hx,rfl⟩:=Qk hc
  exact ih i x u hx hu
 have hLl:∀cs:List AV,(sbL id k es cs).length=cs.length:=fun cs=>by rw[Ajy,A2]
 have hV:∀(c:AV) (u:Value),Ea (E.C β st w) c u->Ea (E.C β st' w) (c.sb' id k es) u:=by
  intro c u h
  induction h with
  | any u=>exact .any u
  | lit v=>exact .lit v
  | nil k A=>exact .nil k A
  | imm fr k es u h=>exact .imm _ _ _ _ (hT fr _ _ h)
  | own i n u h =>
   obtain⟨h1,ty',k,fr,fz,es,h2,h3⟩:=h
   exact .own i n u ⟨h1,ty',k,fr,fz,es,hrow _ _ _ _ _ _ h2,h3⟩
  | sub i n lo m u h =>
   obtain⟨h1,ty',k,fr,fz,es,h2,h3⟩:=h
   exact .sub i n lo m u ⟨h1,ty',k,fr,fz,es,hrow _ _ _ _ _ _ h2,h3⟩
  | rptr i n j off u h =>
   obtain⟨h1,ty',k,fr,fz,es,h2,h3⟩:=h
   exact .rptr i n j off u ⟨h1,ty',k,fr,fz,es,hrow _ _ _ _ _ _ h2,h3⟩
  | ptr i off u h =>
   by_cases e:i=id
   ·simp only[AV.sb',show (i == id)=true by simpa using e,cond_true];exact .any _
   simp only[AV.sb',show (i == id)=false by simpa using e,cond_false]
   obtain⟨ty',cs',b',h1,h2,h3⟩:=h
   have h1:st.o i=_:=h1
   exact .ptr i off _ ⟨ty',_,b',by show st'.o i=_;rw[hob,if_neg e,h1];rfl,h2,h3⟩
  | bsl i n u h =>
   obtain⟨ty',cs',b',c',h1,h2,h3,h4⟩:=h
   have h1:st.o i=_:=h1
   have h2:β i=some b':=h2
   by_cases e:i=id
   ·subst e
    simp only[AV.sb',beq_self_eq_true,cond_true]
    rw[q1] at h2
    injection h2 with h2
    subst h2
    subst h3
    by_cases en:n=es.length
    ·subst en
     simp only[beq_self_eq_true,cond_true]
     refine .imm _ _ _ _ (.sl k es b 0 c' cur ty (0,0) (fun i j=>(cur[i*k+j]?).getD undef) q2 hSb h4 (fun i e he=>hk e (Ac he)) (fun i e j x he hx=>?_) fun i e j x he hx=>?_)
     ·rw[Bm];exact (hcell _ x (Wu hk he hx)).1
     exact (hcell _ x (Wu hk he hx)).2
    simp only[show (n == es.length)=false by simpa using en,cond_false]
    exact .any _
   simp only[AV.sb',show (i == id)=false by simpa using e,cond_false]
   exact .bsl i n _ ⟨ty',_,b',c',by show st'.o i=_;rw[hob,if_neg e,h1];rfl,h2,h3,h4⟩
  | iptr fr cs off b o cur ty fz us h1 h2 h3=>exact .iptr fr cs off b o cur ty fz us h1 (hS fr b h2) fun j x hx=>⟨(h3 j x hx).1,hT fr _ _ (h3 j x hx).2⟩
  | agg cs us h1 h2 ih=>exact .agg _ _ (by rw[hLl];exact h1) (hL cs us ih)
  | tup cs us h1 h2 ih=>exact .tup _ _ (by rw[hLl];exact h1) (hL cs us ih)
  | fn f cs us h1 h2 ih=>exact .fn f _ _ (by rw[hLl];exact h1) (hL cs us ih)
  | gd t v u h1 h2 ih=>exact .gd t _ u (fun e=>ih e) h2
 subst hst'
 exact r.remap rfl (by rw[ho];simp) (fun h=>h.elim) hE hV trivial
section
variable {P:Program} {n m:Nat} {st:St} {K:Exit->St->Prop} {c:Code}
theorem VW.sealB (id:Nat) (k:Nat) (es:List (List T)) (ho:st.o id=.box ty cs) (ht:ttL cs=some es.flatten) (hk:∀e∈es,e.length=k) (hm:m<=id) (hv:VW P n m c (st.sealB id k es) K):VW P n m c st K:=fun E F hE hF β a w r =>
 hv E F hE hF β a w (r.sealB ho ht hk (hE.2 id hm))
theorem VX.sealB (id:Nat) (k:Nat) (es:List (List T)) (ho:st.o id=.box ty cs) (ht:ttL cs=some es.flatten) (hk:∀e∈es,e.length=k) (hm:m<=id) (hv:VX P n m c (st.sealB id k es) K):VX P n m c st K:=by
 obtain⟨e,s,h1,h2⟩:=hv
 exact⟨e,s,.sealB id k es ho ht hk hm h1,h2⟩
abbrev C7:=@VX.sealB
end
attribute [go_sem] St.toBox St.sealB St.remap Arw Acs Am2 AV.tb tbL AV.sb' sbL
end
section
variable {P:Program}
def Gi.base (E:Gi) (β:Nat->Option Nat) (st:St) (w:World):Gi:={ E with w0:=w,o0:=st.o,β0:=β,im:=(E.C β st w).S false,fr:=(E.C β st w).S true }
variable {E:Gi} {a:Act}
theorem Eo.base_in {β:Nat->Option Nat} {st:St} {w:World} (r:Eo E β st a w) (hds:E.ds=[]):Eo (E.base β st w) β st a w:=by
 have hS:∀fr b,(E.C β st w).S fr b->((E.base β st w).C β st w).S fr b:=fun fr b h=>⟨h.1,h.2.1,.inr (.inr ⟨VC.S_weak h,fun e=>by rw[e] at h;exact h⟩)⟩
 refine⟨r.sz,fun t=>Ea.same (C:=E.C β st w) (C':=(E.base β st w).C β st w) rfl rfl rfl hS (r.sl t),r.df,fun id=>J8.same (C:=E.C β st w) (C':=(E.base β st w).C β st w) rfl rfl rfl hS (r.ob id),r.inj,fun i b hi hb=>⟨(r.rng i b hi hb).1,.inr ⟨i,hi,hb⟩⟩,Kp.refl _ _,⟨fun id ty cs h=>⟨⟨cs,h⟩,rfl⟩,fun id ty k fr fz es h=>⟨fr,fz,es,h,Aj _,fun _=>⟨rfl,fun b cur _ hc=>⟨cur,hc,rfl⟩⟩⟩⟩,r.kb,?_⟩
 show E.ds.Nodup/\∀D∈E.ds,_
 rw[hds]
 exact⟨List.nodup_nil,fun D h=>by cases h⟩
variable {β β':Nat->Option Nat} {st s:St} {w w':World}
theorem Eo.base_out {a a':Act} (r:Eo E β st a w) (hds:E.ds=[]) (r1:Eo (E.base β st w) β' s a' w'):Eo E β' s a' w':=by
 have hM:∀b,(E.base β st w).M b->E.w0.heap.size<=b\/E.M b:=fun b ⟨id,h1,h2⟩=>(r.rng id b h1 h2).2
 have hS:∀fr b,((E.base β st w).C β' s w').S fr b->(E.C β' s w').S fr b:=fun fr b ⟨h1,h2,h3⟩=>⟨h1,h2,by
  rcases h3 with h3 | h3 | ⟨h3,h4⟩
  ·exact .inl (Ak r.kp.size h3)
  ·exact (hM b h3).elim .inl fun h=>.inr (.inl h)
  cases fr with
  | true =>
   have h5:(E.C β st w).S true b:=h4 rfl
   exact h5.2.2
  | false =>
   have h5:(E.C β st w).S false b:=h3
   rcases h5.2.2 with h | h | ⟨h,_⟩
   ·exact .inl h
   ·exact .inr (.inl h)
   exact .inr (.inr ⟨h,fun e=>by cases e⟩)⟩
 refine⟨r1.sz,fun t=>Ea.same (C:=(E.base β st w).C β' s w') (C':=E.C β' s w') rfl rfl rfl hS (r1.sl t),r1.df,fun id=>J8.same (C:=(E.base β st w).C β' s w') (C':=E.C β' s w') rfl rfl rfl hS (r1.ob id),r1.inj,fun i b hi hb=>⟨(r1.rng i b hi hb).1,(r1.rng i b hi hb).2.elim (fun h=>.inl (Ak r.kp.size h)) (hM b)⟩,?_,?_,r1.kb,?_⟩
 ·refine⟨r1.kp.os.trans r.kp.os,r1.kp.tape.trans r.kp.tape,r1.kp.output.trans r.kp.output,Ak r.kp.size r1.kp.size,fun b hb hm=>?_⟩
  have hbw:b<w.heap.size:=Nat.lt_of_lt_of_le hb r.kp.size
  refine (r1.kp.block b hbw fun h=>?_).trans (r.kp.block b hb hm)
  rcases hM b h with h | h
  ·omega
  exact hm h
 ·have c1:=r1.ct
  have c0:=r.ct
  refine⟨fun id ty cs h=>?_,fun id ty k fr fz es h=>?_⟩
  ·obtain⟨⟨cs',h1⟩,h2⟩:=c0.box id ty cs h
   obtain⟨h3,h4⟩:=c1.box id ty cs' h1
   exact⟨h3,h4.trans h2⟩
  obtain⟨fr',fz',es',h1,h2,h3⟩:=c0.row id ty k fr fz es h
  obtain⟨fr2,fz2,es2,h4,h5,h6⟩:=c1.row id ty k fr' fz' es' h1
  refine⟨fr2,fz2,es2,h4,by omega,fun e=>?_⟩
  obtain⟨h7,h8⟩:=h3 (by omega)
  obtain⟨h9,h10⟩:=h6 (by omega)
  refine⟨h9.trans h7,fun b cur hb hc=>?_⟩
  obtain⟨cur',q1,q2⟩:=h8 b cur hb hc
  obtain⟨cur2,q3,q4⟩:=h10 b cur' (h7.trans hb) q1
  exact⟨cur2,q3,q4.trans q2⟩
 show E.ds.Nodup/\∀D∈E.ds,_
 rw[hds]
 exact⟨List.nodup_nil,fun D h=>by cases h⟩
def Ayc (C C':VC):Prop:=∀id ty k fr fz es fr' fz' es' n u,C.ob id=.row ty k fr fz es->C'.ob id=.row ty k fr' fz' es'->es'.length=es.length->Agl C id n u->Agl C' id n u
theorem Axb {a':Act} (r1:Eo (E.base β st w) β' s a' w'):Ayc (E.C β st w) (E.C β' s w'):=by
 intro id ty k fr fz es fr' fz' es' n u h1 h2 h3 ⟨h4,ty',k',fr0,fz0,es0,h5,h6,h7⟩
 rw[h1] at h5
 injection h5 with e1 e2 e3 e4 e5
 subst e1 e2 e3 e4 e5
 have h1:(E.base β st w).o0 id=.row ty k fr fz es:=h1
 obtain⟨fr2,fz2,es2,g1,g2,g3⟩:=r1.ct.row id ty k fr fz es h1
 have h2':s.o id=.row ty k fr' fz' es':=h2
 have g1':s.o id=.row ty k fr2 fz2 es2:=g1
 rw[h2'] at g1'
 injection g1' with e1 e2 e3 e4 e5
 subst e5
 obtain⟨g4,g5⟩:=g3 h3.symm
 refine⟨h4,ty,k,fr',fz',es',h2,by omega,fun e=>?_⟩
 have h7:=h7 (by omega)
 have g4:β' id=β id:=g4
 show match β' id with | none=>_ | some b=>_
 have hb0:(E.C β st w).β id=β id:=rfl
 rw[hb0] at h7
 rw[g4]
 cases hb:β id with
 | none=>rw[hb] at h7;exact h7
 | some b =>
  rw[hb] at h7
  obtain⟨c,cur,q1,q2,q3⟩:=h7
  obtain⟨cur',p1,p2⟩:=g5 b cur hb q1
  exact⟨c,cur',p1,by rw[p2,q2],q3⟩
def Own (β:Nat->Option Nat) (st:St) (b:Nat):Prop:=∃id,st.o id≠.gone/\β id=some b
structure Frm (E:Gi) (β:Nat->Option Nat) (st:St) (w:World) (β':Nat->Option Nat) (s:St) (w':World):Prop where
  keep:Ayc (E.C β st w) (E.C β' s w')
  kp:Kp (Own β st) w w'
  rng:∀b,Own β' s b->w.heap.size<=b\/Own β st b
  box:∀id ty cs,st.o id=.box ty cs->β' id=β id
  row:∀id ty k fr fz es fr' fz' es',st.o id=.row ty k fr fz es->s.o id=.row ty k fr' fz' es'->es'.length=es.length->β' id=β id
theorem Ayy {a':Act} (r1:Eo (E.base β st w) β' s a' w'):Frm E β st w β' s w':=by
 refine⟨Axb r1,r1.kp,fun b ⟨i,h1,h2⟩=>(r1.rng i b h1 h2).2,fun id ty cs h=>(r1.ct.box id ty cs h).2,fun id ty k fr fz es fr' fz' es' h1 h2 h3=>?_⟩
 obtain⟨fr2,fz2,es2,g1,g2,g3⟩:=r1.ct.row id ty k fr fz es h1
 have g1':s.o id=.row ty k fr2 fz2 es2:=g1
 rw[h2] at g1'
 injection g1' with e1 e2 e3 e4 e5
 subst e5
 exact (g3 h3.symm).1
structure Ahx (β:Nat->Option Nat) (st:St) (w:World) (β':Nat->Option Nat) (s:St) (w':World):Prop where
  kp:Kp (Own β st) w w'
  rng:∀b,Own β' s b->w.heap.size<=b\/Own β st b
theorem Frm.grew (f:Frm E β st w β' s w'):Ahx β st w β' s w':=⟨f.kp,f.rng⟩
theorem Ahx.trans {β β1 β2:Nat->Option Nat} {st s1 s2:St} {w w1 w2:World} (g:Ahx β st w β1 s1 w1) (g':Ahx β1 s1 w1 β2 s2 w2):Ahx β st w β2 s2 w2:=by
 refine⟨⟨g'.kp.os.trans g.kp.os,g'.kp.tape.trans g.kp.tape,g'.kp.output.trans g.kp.output,Ak g.kp.size g'.kp.size,fun b hb hn=>?_⟩,fun b hb=>?_⟩
 ·refine (g'.kp.block b (Nat.lt_of_lt_of_le hb g.kp.size) fun h=>?_).trans (g.kp.block b hb hn)
  rcases g.rng b h with h | h
  ·omega
  exact hn h
 rcases g'.rng b hb with h | h
 ·exact .inl (Ak g.kp.size h)
 exact g.rng b h
theorem Ahx.trans2 {β β1 β2:Nat->Option Nat} {st s1 s1' s2:St} {w w1 w2:World} (g:Ahx β st w β1 s1 w1) (g':Ahx β1 s1' w1 β2 s2 w2) (h:s1'.ob=s1.ob):Ahx β st w β2 s2 w2:=by
 have e:s1'.o=s1.o:=by unfold St.o;rw[h]
 have e2:Own β1 s1'=Own β1 s1:=by unfold Own;rw[e]
 exact g.trans ⟨by rw[<- e2];exact g'.kp,by rw[<- e2];exact g'.rng⟩
theorem Afc {F:Fence} (hF:FOk E F) (hds:E.ds=[]) {ops:Array Oper} {K:St->Prop} {Q:Exit->Act->World->Prop} (l2 l:List Oper) (hd:∀o∈l,∀x,o.dst=some x->x<E.n) {st:St} {β:Nat->Option Nat} {w:World} (h:runs P (l.map fun o=>⟨o.dst,o.op,o.type,Nl ops o⟩) st K) (r:Eo E β st a w) (hQ:∀s β' a' w',K s->Eo E β' s a' w'->Frm E β st w β' s w'->wpListIn F 0 P ops Q l2 a' w'):wpListIn F 0 P ops Q (l++l2) a w :=
 Wh (E:=E.base β st w) (F:=F) hF l2 (fun s β' a' w' hk r1=>hQ s β' a' w' hk (r.base_out hds r1) (Ayy r1)) l hd st β a w h (r.base_in hds)
section
variable {E:Gi} {F:Fence} {id:Nat} {l:List Oper} {st:St} {Q:Exit->Act->World->Prop} {β:Nat->Option Nat} {a:Act} {w:World}
theorem Alf (hF:FOk E F) (hds:E.ds=[]) (j:Nat) (hd:Ft E.n l=true) (r:Eo E β st a w)
 (h:∀K1:St->Prop,(∀s,(∀β' a' w',Eo E β' s a' w'->Frm E β st w β' s w'->wpListIn F 0 P l.toArray Q (l.drop j) a' w')->K1 s)->runs P ((Gc l).take j) st K1):(Code.region id l.toArray false).wpIn F 0 P Q a w:=by
 refine wpIn_region_lit ?_
 have key:=Afc (P:=P) (Q:=Q) hF hds (ops:=l.toArray) (l.drop j) (l.take j) (fun o ho=>Oo hd o (Aq ho)) (K:=fun s=>∀β' a' w',Eo E β' s a' w'->Frm E β st w β' s w'->wpListIn F 0 P l.toArray Q (l.drop j) a' w') (by
  have:=h _ fun s hs=>hs
  simp only[Gc,<- List.map_take] at this
  exact this) r (fun s β' a' w' hk r' f=>hk β' a' w' r' f)
 rwa[List.take_append_drop] at key
theorem Ab7 (hF:FOk E F) (hds:E.ds=[]) {j:Nat} (hd:Ft E.n l=true) (r:Eo E β st a w)
 (h:∀K1:St->Prop,(∀s,(∀β' a' w',Eo E β' s a' w'->Frm E β st w β' s w'->Q .normal a' w')->K1 s)->runs P ((Gc l).drop j) st K1):wpListIn F 0 P l.toArray Q (l.drop j) a w:=by
 have key:=Afc (P:=P) (Q:=Q) hF hds (ops:=l.toArray) [] (l.drop j) (fun o ho=>Oo hd o (Ay ho)) (K:=fun s=>∀β' a' w',Eo E β' s a' w'->Frm E β st w β' s w'->Q .normal a' w') (by
  have:=h _ fun s hs=>hs
  simp only[Gc,<- List.map_drop] at this
  exact this) r (fun s β' a' w' hk r' f=>hk β' a' w' r' f)
 rwa[List.append_nil] at key
theorem As5 (hF:FOk E F) (hds:E.ds=[]) (hd:Ft E.n l=true) (r:Eo E β st a w)
 (h:∀K1:St->Prop,(∀s,(∀β' a' w',Eo E β' s a' w'->Frm E β st w β' s w'->Q .normal a' w')->K1 s)->runs P (Gc l) st K1):(Code.region id l.toArray false).wpIn F 0 P Q a w:=by
 refine wpIn_region_lit ?_
 have:=Ab7 (P:=P) (Q:=Q) (j:=0) hF hds hd r h
 exact this
theorem L7 {y:Code} (hF:FOk E F) (hds:E.ds=[]) (hd:Ft E.n l=true) (r:Eo E β st a w)
 (h:∀K1:St->Prop,(∀s,(∀β' a' w',Eo E β' s a' w'->Frm E β st w β' s w'->y.wpIn F 0 P Q a' w')->K1 s)->runs P (Gc l) st K1):(Code.seq (.region id l.toArray false) y).wpIn F 0 P Q a w :=
 wpIn_seq (As5 hF hds hd r h)
end
theorem Eo.say {β:Nat->Option Nat} {st:St} {w:World} (r:Eo E β st a w) {sl:List (Nat×AV)} (h:∀t,Ea (E.C β st w) (Ez st.sl t) (a.tmps.getD t undef)->Ea (E.C β st w) (Ez sl t) (a.tmps.getD t undef)):Eo E β ⟨sl,st.ob⟩ a w :=
 ⟨r.sz,fun t=>h t (r.sl t),r.df,r.ob,r.inj,r.rng,r.kp,r.ct,r.kb,r.dk⟩
theorem Eo.own0 {β:Nat->Option Nat} {st:St} {w:World} (r:Eo E β st a w) (t:Nat) (ty k:Nat) (hk:0<k) {k':Nat} (ht:Ez st.sl t=.nil k'):Eo E (fun i=>if i=st.ob.length then none else β i) ((st.put (some t) (.own st.ob.length 0)).set st.ob.length (.row ty k true false [])) a w:=by
 obtain⟨r1,h1⟩:=r.empty (Ha st st.ob.length (Aj _)) ty hk true
 rw[St.put_set]
 have hr:=r.sl t
 rw[ht] at hr
 refine⟨r1.sz,fun x=>?_,r1.df,?_,?_,?_,r1.kp,?_,r1.kb,r1.dk⟩
 ·rw[Ac1]
  show Ea _ (bif t == x then _ else Ez _ x) _
  cases hb:t == x with
  | true =>
   have:t=x:=by simpa using hb
   subst this
   generalize a.tmps.getD t undef=u at hr
   cases hr with
   | nil k A=>exact h1 A
  | false=>exact r1.sl x
 ·rw[Ac1,St.put_o];exact r1.ob
 ·rw[St.put_o];exact r1.inj
 ·rw[St.put_o];exact r1.rng
 rw[Ac1];exact r1.ct
def VW0 (P:Program) (n m:Nat) (c:Code) (st:St) (K:Exit->St->Prop):Prop :=
 ∀(E:Gi) (F:Fence),(E.n=n/\∀id,m<=id->E.o0 id=.gone)->FOk E F->E.ds=[]->∀β a w,Eo E β st a w->c.wpIn F 0 P (Agk E K) a w
theorem Aug {f:FuncId} {fn:Func} {c:Code} {args:List AV} {σa σr:List Ob} {res:AV} (hf:P.funcs[f]? = some fn) (hb:fn.body=some c) (hn:(fn.name == "runtime.NumGoroutine")=false) {rs:List ResultVar} (hrs:fn.results=rs.toArray) (hk:args.length<=fn.ntmps)
 (h:VW0 P fn.ntmps σa.length c ⟨Hr 0 args,σa⟩ (Re P σa.length rs σr res)):Ey P f σa args σr res:=by
 refine⟨⟨fn,hf,by rw[hb];rfl,hn⟩,fun E β us hen ho hβ r=>?_⟩
 have hsz:us.size=args.length:=r.sz.trans hen
 have hds:E.ds=[]:=by
  have:=r.df
  cases hq:E.ds with
  | nil=>rfl
  | cons x xs=>rw[hq] at this;cases this
 refine (callsIn_wide (n:=0)).1 (callsIn_of_wp_marks hf hb trivial ?_)
 have r':Eo { E with n:=fn.ntmps } β ⟨Hr 0 args,σa⟩ ⟨us++Array.replicate (fn.ntmps - us.size) undef,[]⟩ E.w0:=by
  refine⟨by simp[hsz];omega,fun t=>?_,r.df,r.ob,r.inj,r.rng,r.kp,r.ct,r.kb,r.dk⟩
  have hr:=r.sl t
  by_cases ht:t<us.size
  ·show Ea _ _ ((us++Array.replicate (fn.ntmps - us.size) undef).getD t undef)
   rw[Av,Bk ht,<- Av]
   exact hr
  have:Ez (Hr 0 args) t=.any:=by
   rw[K8,Nat.sub_zero,if_pos (Ae _),Ad,Ar (by omega)];rfl
  show Ea _ (Ez (Hr 0 args) t) _
  rw[this]
  exact .any _
 have hE:∀id,σa.length<=id->E.o0 id=.gone:=fun id hid=>by
  rw[ho]
  exact Ha ⟨[],σa⟩ id hid
 have h0:∀b o,E.kb b=some o->b<E.w0.heap.size:=fun b o h=>(Aw.1 (r.kb b o h).1).1
 refine wpIn_mono (h { E with n:=fn.ntmps } Fence.wide ⟨rfl,hE⟩ (.inl rfl) hds β _ _ r') fun e a w ⟨E',s,β1,hle,h1,h2⟩=>?_
 obtain⟨he,hc,hw⟩:=h1
 have key:LeavesInM Fence.wide 0 P fn a.tmps (fun e w'=>∃v β',e=.returned v/\Eo { E with n:=1 } β' ⟨[(0,res)],σr⟩ ⟨#[v],[]⟩ w') a.defers .returning w:=by
  rw[h2.df]
  exact Abq (E0:=E) hrs hE h0 hds (fun v β' w' h=>⟨v,β',rfl,h⟩) E'.ds E' β1 s a w hle rfl h2 hc hw
 rcases he with rfl | rfl<;>exact key
end
def Apy (lo:Nat) (w:World) (es:List (List T)) (u:Value) (ob:Option Nat):Prop :=
 u.oneCell'=true/\match ob with
 | none=>es=[]/\∃A,u=.slice A 0 0
 | some b=>lo<=b/\b<w.heap.size/\∃c cur,u=.slice (some ⟨b,0,none⟩) es.length c/\w.heap[b]? = some (.cells cur 166 (0,0))/\cur.size=c*5/\es.length<=c/\c<=maxLen/\∀(i:Nat) (e:List T) (j:Nat) (x:T),es[i]? = some e->e[j]? = some x->∃v,x=.lit v/\v.oneCell'=true/\cur[i*5+j]? = some v
theorem Apy.kept {lo:Nat} {w w':World} {es:List (List T)} {u:Value} {ob:Option Nat} (h:Apy lo w es u ob) (hs:w.heap.size<=w'.heap.size) (hb:∀b,ob=some b->w'.heap[b]? = w.heap[b]?):Apy lo w' es u ob:=by
 obtain⟨h0,h⟩:=h
 refine⟨h0,?_⟩
 cases ob with
 | none=>exact h
 | some b =>
  obtain⟨h1,h2,c,cur,h3,h4,h5⟩:=h
  exact⟨h1,by omega,c,cur,h3,by rw[hb b rfl];exact h4,h5⟩
def Afj (r:Ew) (u:Value):List T:=[.li r.id,.li r.veh,.li r.cls,.li r.unt,.lit u]
def Gx:List Ew->List Value->List (List T)
 | r::l,u::us=>Afj r u::Gx l us
 | _,_=>[]
theorem Amk:∀(l:List Ew) (us:List Value) (r:Ew) (u:Value),us.length=l.length->Gx (l++[r]) (us++[u])=Gx l us++[Afj r u]
 | [],[],r,u,_=>rfl
 | x::l,v::us,r,u,h=>by simp only[List.cons_append,Gx];rw[Amk l us r u (by simpa using h)]
 | [],_::_,r,u,h=>by simp at h
 | _::_,[],r,u,h=>by simp at h
theorem Wi:∀(l:List Ew) (us:List Value),us.length=l.length->(Gx l us).length=l.length
 | [],[],_=>rfl
 | x::l,v::us,h=>by simp only[Gx,A6];rw[Wi l us (by simpa using h)]
 | [],_::_,h=>by simp at h
 | _::_,[],h=>by simp at h
theorem Amj:∀{l:List Ew} {us:List Value},us.length=l.length->∀{i:Nat} {r:Ew},l[i]? = some r->∃u,us[i]? = some u/\(Gx l us)[i]? = some (Afj r u)
 | x::l,v::us,h,0,r,hr=>by simp at hr;subst hr;exact⟨v,rfl,rfl⟩
 | x::l,v::us,h,i+1,r,hr=>by
  obtain⟨u,h1,h2⟩:=Amj (l:=l) (us:=us) (by simpa using h) (i:=i) (by simpa using hr)
  exact⟨u,by simpa using h1,by simpa[Gx] using h2⟩
 | [],_,h,i,r,hr=>by simp at hr
 | _::_,[],h,i,r,hr=>by simp at h
theorem Atj {legs:List G0} {i j:Nat} {e:List T} {x:T} (he:(Hs legs)[i]? = some e) (hx:e[j]? = some x):∃v,x=.lit v/\v.oneCell'=true:=by
 obtain⟨g,hg,rfl⟩:=Qk he
 match j,hx with
 | 0,hx=>simp[G0.t] at hx;subst hx;exact⟨_,rfl,rfl⟩
 | 1,hx=>simp[G0.t] at hx;subst hx;exact⟨_,rfl,rfl⟩
 | 2,hx=>simp[G0.t] at hx;subst hx;exact⟨_,rfl,rfl⟩
 | 3,hx=>simp[G0.t] at hx;subst hx;exact⟨_,rfl,rfl⟩
 | 4,hx=>simp[G0.t] at hx;subst hx;exact⟨_,rfl,rfl⟩
 | j+5,hx=>simp[G0.t] at hx
structure Av9 (lo:Nat) (w:World) (l:List Ew) (us:List Value) (bs:List (Option Nat)):Prop where
  len:bs.length=us.length
  leg:∀(j:Nat) (r:Ew) (u:Value) (b:Option Nat),l[j]? = some r->us[j]? = some u->bs[j]? = some b->Apy lo w (Hs r.legs) u b
  apart:∀(i j b:Nat),i<j->bs[i]? = some (some b)->bs[j]? ≠ some (some b)
theorem Zn (r:Ew) (h:r.legs.length<=1000000):PP 186 [] [r.g] [.row 166 5 true false (Hs r.legs)] (.agg [.li r.id,.li r.veh,.li r.cls,.li r.unt,.own 0 r.legs.length]):=by
 refine Ei Tryz.func186 ?_
 refine Bw ?_
 refine Cc (fun K kk=>by simp[go_sem];refine .lo (Mc _ (by simpa using h) (by simp[T.plain,G0.t])) rfl (by simp) ?_;simp[go_sem];exact kk) ?_
 refine Bw ?_
 exact .ret (rW Dy [2])
def F9:Nat->List Ew->List AV
 | _,[]=>[]
 | k,r::l=>.li r.id::.li r.veh::.li r.cls::.li r.unt::.own k r.legs.length::F9 (k+1) l
theorem Ya:∀(k:Nat) (l:List Ew),(F9 k l).length=l.length*5
 | _,[]=>rfl
 | k,r::l=>by simp[F9,Ya (k+1) l];omega
theorem Af7:∀{k:Nat} {l:List Ew} {p:Nat} {c:AV},(F9 k l)[p]? = some c->∃i r,l[i]? = some r/\((∃j,j<4/\p=i*5+j/\∀u,∃v,c=.lit v/\(Afj r u)[j]? = some (.lit v))\/(p=i*5+4/\c=.own (k+i) r.legs.length))
 | _,[],p,c,h=>by simp[F9] at h
 | k,r::l,0,c,h=>by simp[F9] at h;exact⟨0,r,rfl,.inl ⟨0,by omega,by omega,fun u=>⟨_,h.symm,rfl⟩⟩⟩
 | k,r::l,1,c,h=>by simp[F9] at h;exact⟨0,r,rfl,.inl ⟨1,by omega,by omega,fun u=>⟨_,h.symm,rfl⟩⟩⟩
 | k,r::l,2,c,h=>by simp[F9] at h;exact⟨0,r,rfl,.inl ⟨2,by omega,by omega,fun u=>⟨_,h.symm,rfl⟩⟩⟩
 | k,r::l,3,c,h=>by simp[F9] at h;exact⟨0,r,rfl,.inl ⟨3,by omega,by omega,fun u=>⟨_,h.symm,rfl⟩⟩⟩
 | k,r::l,4,c,h=>by simp[F9] at h;exact⟨0,r,rfl,.inr ⟨by omega,by rw[<- h];rfl⟩⟩
 | k,r::l,p+5,c,h=>by
  simp only[F9,Bb] at h
  obtain⟨i,r',h1,h2⟩:=Af7 h
  refine⟨i+1,r',by simpa using h1,?_⟩
  rcases h2 with⟨j,h3,h4,h5⟩ | ⟨h3,h4⟩
  ·exact .inl ⟨j,h3,by omega,h5⟩
  exact .inr ⟨by omega,by rw[h4];congr 1;omega⟩
def I7 (l:List Ew):List Ob:=l.map fun r=>.row 166 5 true false (Hs r.legs)
def Hm (l:List Ew):List Ob:=.box 164 (F9 1 l)::I7 l
theorem Eo.deep {E:Gi} {β:Nat->Option Nat} {a:Act} {w:World} {l:List Ew} {us:List Value} {bs:List (Option Nat)} {fr:Bool} {t:Nat} (r:Eo E β ⟨[(t,.own 0 l.length)],[.row 164 5 fr false (Gx l us)]⟩ a w) (hE:∀id,E.o0 id=.gone) (hne:l≠[]) (hus:us.length=l.length)
 (hf:Av9 E.w0.heap.size w l us bs) (hb0:∀b j:Nat,β 0=some b->bs[j]? ≠ some (some b)):∃β',Eo E β' ⟨[(t,.bsl 0 l.length)],Hm l⟩ a w:=by
 have ho:(St.mk [(t,.own 0 l.length)] [.row 164 5 fr false (Gx l us)]).o 0=.row 164 5 fr false (Gx l us):=rfl
 have hlen:l.length=(Gx l us).length:=(Wi l us hus).symm
 have hv:=r.sl t
 simp only[Ez,beq_self_eq_true,cond_true] at hv
 obtain⟨u0,hu0⟩:∃u0,u0=a.tmps.getD t undef:=⟨_,rfl⟩
 rw[<- hu0] at hv
 cases hv with
 | own id n u hown =>
 rcases r.own_val ho hown hlen with⟨_,he,_⟩ | ⟨b0,cur,c,hb,g1,g2,g3,g4,hu,g5⟩
 ·rw[he] at hlen
  cases l with
  | nil=>exact absurd rfl hne
  | cons=>simp at hlen
 obtain⟨βF,hβF⟩:∃βF:Nat->Option Nat,βF=fun i=>if i=0 then some b0 else (bs[i - 1]?).join:=⟨_,rfl⟩
 have hβ0:βF 0=some b0:=by rw[hβF];rfl
 have hβ1:∀i,βF (i+1)=(bs[i]?).join:=fun i=>by rw[hβF];rfl
 have hob:∀i,(St.mk [(t,.bsl 0 l.length)] (Hm l)).o (i+1)=match l[i]? with | some r=>.row 166 5 true false (Hs r.legs) | none=>.gone:=fun i=>by
  show (Hm l).getD (i+1) .gone=_
  simp only[Hm,I7,Ad,Bb,Ap]
  cases l[i]? <;> rfl
 have hob0:(St.mk [(t,.bsl 0 l.length)] (Hm l)).o 0=.box 164 (F9 1 l):=rfl
 have hleg:∀(i:Nat) (r:Ew),l[i]? = some r->∃u b,us[i]? = some u/\bs[i]? = some b/\Apy E.w0.heap.size w (Hs r.legs) u b:=fun i r hi=>by
  have h1:=(Ab.1 hi).1
  have h2:us[i]? = some us[i]:=Aa (by omega)
  have h4:i<bs.length:=by rw[hf.len];omega
  have h3:bs[i]? = some bs[i]:=Aa h4
  exact⟨_,_,h2,h3,hf.leg i r _ _ hi h2 h3⟩
 have hlt0:b0<w.heap.size:=(r.rng 0 b0 (by rw[ho];simp) hb).1
 have hin:∀(i b:Nat),βF (i+1)=some b->∃r u,l[i]? = some r/\Apy E.w0.heap.size w (Hs r.legs) u (some b)/\bs[i]? = some (some b):=fun i b h=>by
  rw[hβ1] at h
  cases hq:bs[i]? with
  | none=>rw[hq] at h;cases h
  | some ob =>
   rw[hq] at h
   have h:ob=some b:=h
   subst h
   have h1:=(Ab.1 hq).1
   have h1':i<l.length:=by rw[hf.len] at h1;omega
   have h2:l[i]? = some l[i]:=Aa h1'
   obtain⟨u,b',q1,q2,q3⟩:=hleg i _ h2
   rw[hq] at q2
   injection q2 with q2
   subst q2
   exact⟨_,u,h2,q3,rfl⟩
 have hV:∀(i:Nat) (r:Ew) (u:Value),l[i]? = some r->us[i]? = some u->Agl (E.C βF ⟨[(t,.bsl 0 l.length)],Hm l⟩ w) (1+i) r.legs.length u:=fun i r u hi hu=>by
  obtain⟨u',b,h1,h2,h3⟩:=hleg i r hi
  rw[hu] at h1
  injection h1 with h1
  subst h1
  refine⟨h3.1,166,5,true,false,Hs r.legs,by show (St.mk _ (Hm l)).o (1+i)=_;rw[Ba,hob,hi],by simp,fun _=>?_⟩
  have:(E.C βF ⟨[(t,.bsl 0 l.length)],Hm l⟩ w).β (1+i)=b:=by show βF (1+i)=b;rw[Ba,hβ1,h2];rfl
  rw[this]
  cases b with
  | none=>exact h3.2.2
  | some b =>
   obtain⟨_,_,_,c,cur,k1,k2,k3,k4,k5,k6⟩:=h3
   exact⟨c,cur,k2,k3,by rw[k1];simp⟩
 refine⟨βF,r.sz,fun x=>?_,r.df,fun i=>?_,fun i j b hi hj h1 h2=>?_,fun i b hi h=>?_,r.kp,⟨fun id ty cs h=>?_,fun id ty k fr fz es h=>?_⟩,r.kb,r.dk⟩
 ·simp only[Ez]
  cases hx:t == x with
  | true =>
   have:t=x:=by simpa using hx
   subst this
   rw[<- hu0,hu,<- hlen]
   exact .bsl _ _ _ ⟨164,_,b0,c,hob0,hβ0,rfl,by omega⟩
  | false=>exact .any _
 ·cases i with
  | zero =>
   rw[hob0]
   refine⟨b0,cur,hβ0,g1,?_,fun p cc u hc hu'=>?_⟩
   ·rw[Ya,g2,hlen];exact A1 5 g3
   obtain⟨i,r',h1,h2⟩:=Af7 hc
   obtain⟨ui,h3,h4⟩:=Amj hus h1
   rcases h2 with⟨j,hj,rfl,h5⟩ | ⟨rfl,rfl⟩
   ·obtain⟨v,rfl,h6⟩:=h5 ui
    obtain⟨u',k1,k2⟩:=g5 i _ j _ h4 h6
    rw[hu'] at k1
    injection k1 with k1
    subst k1
    cases k2 with
    | lit v h=>exact⟨.lit _,h⟩
   obtain⟨u',k1,k2⟩:=g5 i _ 4 _ h4 rfl
   rw[hu'] at k1
   injection k1 with k1
   subst k1
   cases k2 with
   | lit v h=>exact⟨.own _ _ _ (hV i r' _ h1 h3),h⟩
  | succ i =>
   rw[hob]
   cases hi:l[i]? with
   | none=>trivial
   | some r' =>
    obtain⟨u,b,h1,h2,h3⟩:=hleg i r' hi
    refine⟨⟨by omega,fun i e he=>?_⟩,?_⟩
    ·obtain⟨g,_,rfl⟩:=Qk he
     rfl
    have:(E.C βF ⟨[(t,.bsl 0 l.length)],Hm l⟩ w).β (i+1)=b:=by show βF (i+1)=b;rw[hβ1,h2];rfl
    rw[this]
    cases b with
    | none=>exact h3.2.1
    | some b =>
     obtain⟨_,_,_,c,cur,k1,k2,k3,k4,k5,k6⟩:=h3
     refine⟨cur,c,k2,k3,k4,k5,fun i e j x he hx=>?_⟩
     obtain⟨v,rfl,hv1,hv2⟩:=k6 i e j x he hx
     exact⟨v,hv2,.lit v hv1⟩
 ·cases i with
  | zero =>
   cases j with
   | zero=>rfl
   | succ j =>
    rw[hβ0] at h1
    injection h1 with h1
    subst h1
    obtain⟨_,_,_,_,q⟩:=hin j _ h2
    exact absurd q (hb0 _ j hb)
  | succ i =>
   cases j with
   | zero =>
    rw[hβ0] at h2
    injection h2 with h2
    subst h2
    obtain⟨_,_,_,_,q⟩:=hin i _ h1
    exact absurd q (hb0 _ i hb)
   | succ j =>
    obtain⟨_,_,_,_,q1⟩:=hin i _ h1
    obtain⟨_,_,_,_,q2⟩:=hin j _ h2
    rcases Nat.lt_trichotomy i j with h | h | h
    ·exact absurd q2 (hf.apart i j b h q1)
    ·rw[h]
    exact absurd q1 (hf.apart j i b h q2)
 ·cases i with
  | zero =>
   rw[hβ0] at h
   injection h with h
   subst h
   exact r.rng 0 _ (by rw[ho];simp) hb
  | succ i =>
   obtain⟨_,_,_,q,_⟩:=hin i _ h
   exact⟨q.2.2.1,.inl q.2.1⟩
 ·rw[hE] at h;cases h
 rw[hE] at h;cases h
section
variable {P:Program} {E:Gi} {F:Fence} {st:St} {Q:Exit->Act->World->Prop} {β:Nat->Option Nat} {a:Act} {w:World}
theorem Ap1 (r:Eo E β st a w) {c:Operand} {x y:Code} (hb:Hw (st.raw c).sv=true) (hs:(st.raw c).sb=true) (ht:Fe (st.raw c).sv=true->x.wpIn F 0 P Q a w) (hf:Fe (st.raw c).sv=false->y.wpIn F 0 P Q a w):(Code.cond c x y).wpIn F 0 P Q a w:=by
 obtain⟨_,e2⟩:=L9 hb ((L8 r c).sv.1 hs)
 exact wpIn_cond_split e2 ht hf
theorem Eo.say1 (r:Eo E β st a w) (t:Nat) {v:AV} (h:Ea (E.C β st w) v (a.tmps.getD t undef)):Eo E β ⟨(t,v)::st.sl,st.ob⟩ a w :=
 r.say fun x hx=>by
  simp only[Ez]
  cases hb:t == x with
  | true =>
   have:t=x:=by simpa using hb
   subst this
   exact h
  | false=>exact hx
theorem Axp {C:VC} {cs:List AV} {c:AV} {v:Value} (h:Ea C (.agg (cs++[c])) v):∃u,Ea C c u/\Ea C (.agg (cs++[.lit u])) v:=by
 cases h with
 | agg cs' us h1 h2 =>
  have hl:us.size=cs.length+1:=by rw[<- h1];simp
  refine⟨us[cs.length],h2 cs.length c _ (by simp) (Al (by omega)),.agg _ _ (by simpa using hl.symm) fun i x u hx hu=>?_⟩
  by_cases hi:i<cs.length
  ·refine h2 i x u ?_ hu
   rw[Au hi] at hx ⊢
   exact hx
  rw[Ao (by omega)] at hx
  have hi':i=cs.length:=by
   have:=(Ab.1 hx).1
   simp at this;omega
  subst hi'
  simp at hx
  subst hx
  rw[Al (by omega)] at hu
  injection hu with hu
  subst hu
  exact .lit _
theorem Ag0 {c:Code} (I:Nat->Act->World->Prop) (z:Nat) (h0:I z a w) (round:∀z a w,I z a w->c.wpIn F 0 P (Exit.then (fun a' w'=>∃z',z'<z/\I z' a' w') Q) a w):(Code.loop c).wpIn F 0 P Q a w:=by
 have hleast:∀a w,(∃n,I n a w)->∃n,I n a w/\∀n',I n' a w->n<=n':=by
  rintro a w ⟨n,h⟩
  induction n using Nat.strongRecOn with
  | _ n ih =>
   by_cases hm:∃n',n'<n/\I n' a w
   ·obtain⟨n',hlt,h'⟩:=hm
    exact ih n' hlt h'
   exact⟨n,h,fun n' h'=>Nat.le_of_not_lt fun hlt=>hm ⟨n',hlt,h'⟩⟩
 refine wpIn_loop (fun a w=>∃n,I n a w) (fun a w=>Classical.epsilon fun n=>I n a w/\∀n',I n' a w->n<=n') ⟨z,h0⟩ ?_
 intro a w hI
 obtain⟨h1,hmin⟩:=Classical.epsilon_spec (hleast a w hI)
 refine wpIn_mono (round _ a w h1) fun e a' w' hq=>?_
 cases e with
 | normal =>
  obtain⟨n',hlt,hI'⟩:=hq
  refine⟨⟨n',hI'⟩,?_⟩
  have:=Classical.epsilon_spec (hleast a' w' ⟨n',hI'⟩)
  exact Nat.lt_of_le_of_lt (this.2 n' hI') hlt
 | _=>exact hq
end
def Afy (l:List Ew) (i:Nat) (us:List Value):St:=⟨[(1,.fn 193 []),(5,.own 0 i),(8,.mReq l),(9,.li l.length),(10,.li i)],[.row 164 5 true false (Gx (l.take i) us)]⟩
theorem Axa {lo:Nat} {E:Gi} {β:Nat->Option Nat} {st:St} {a:Act} {w:World} (r:Eo E β st a w) {id:Nat} {fr fz:Bool} {q:Ew} (ho:st.o id=.row 166 5 fr fz (Hs q.legs)) {u:Value} (hu:Agl (E.C β st w) id q.legs.length u) (hlo:∀b,β id=some b->lo<=b):Apy lo w (Hs q.legs) u (β id):=by
 refine⟨hu.1,?_⟩
 rcases r.own_val ho hu (by simp) with⟨h1,h2,h3⟩ | ⟨b,cur,c,h1,h2,h3,h4,h5,h6,h7⟩
 ·rw[h1];exact⟨h2,h3⟩
 rw[h1]
 refine⟨hlo b h1,(r.rng id b (by rw[ho];simp) h1).1,c,cur,h6,h2,h3,h4,h5,fun i e j x he hx=>?_⟩
 obtain⟨v,rfl,hv⟩:=Atj he hx
 obtain⟨u',k1,k2⟩:=h7 i e j _ he hx
 cases k2 with
 | lit v h=>exact⟨v,rfl,h,k1⟩
section
variable (l:List Ew) (hne:l≠[]) (hl:l.length<=3) (hg:∀r∈l,r.legs.length<=1000000)
include hne hl hg
theorem Als:PP 168 [] [.mReq l,.fn 193 []] (Hm l) (.bsl 0 l.length):=by
 refine Aug Tryz.func168 rfl rfl rfl (by simp[Tryz.ntmps168]) ?_
 rintro E F ⟨hn,hE0⟩ hF hds β a w r
 have hE:∀id,E.o0 id=.gone:=fun id=>hE0 id (Ae _)
 have hn:E.n=24:=hn
 refine L7 hF hds (by rw[hn];rfl) r fun K1 hK1=>?_
 simp[go_sem]
 refine hK1 _ ?_;clear hK1
 intro β1 a1 w1 r1 f1
 refine L7 hF hds (by rw[hn];rfl) r1 fun K1 hK1=>?_
 simp[go_sem]
 refine hK1 _ ?_;clear hK1
 intro β2 a2 w2 r2 f2
 refine wpIn_seq ?_
 refine L7 hF hds (by rw[hn];rfl) r2 fun K1 hK1=>?_
 simp[go_sem]
 refine hK1 _ ?_;clear hK1
 intro β3 a3 w3 r3 f3
 refine wpIn_block ?_
 have r4:=(r3.own0 5 164 5 (by decide) (k':=5) (by simp[go_sem])).weakE (sel:=[0]) (st':=Afy l 0 []) (by
  refine El (by decide) ?_ ?_
  ·repeat' (first | exact .nil | refine .cons (by simp[go_sem]) ?_)
  repeat' (first | exact .nil | refine .cons (by simp[go_sem,Gx]) ?_)) (fun id h=>absurd (hE id) h)
 clear r r1 r2 r3 f1 f2 f3
 refine Ag0 (fun z a w=>∃i us bs β,i<=l.length/\z=l.length - i/\us.length=i/\Eo E β (Afy l i us) a w/\Av9 E.w0.heap.size w (l.take i) us bs/\∀b j:Nat,β 0=some b->bs[j]? ≠ some (some b)) l.length ⟨0,[],[],_,Ae _,rfl,rfl,r4,⟨rfl,fun j r u b h=>by simp at h,fun i j b _ h=>by simp at h⟩,fun b j _ h=>by simp at h⟩ ?_
 clear r4
 rintro z a w ⟨i,us,bs,β,hi,hz,hus,r,hf,hb0⟩
 refine L7 hF hds (by rw[hn];rfl) r fun K1 hK1=>?_
 simp[go_sem,Afy]
 refine hK1 _ ?_;clear hK1
 intro β1 a1 w1 r1 f1
 refine wpIn_seq ?_
 refine Ap1 r1 (by simp[go_sem]) (by simp[go_sem]) (fun h11=>?_) (fun h11=>?_)<;>simp[go_sem] at h11
 ·
  refine wpIn_skip ?_
  have hx:l[i]? = some l[i]:=Aa (by omega)
  generalize l[i]=e at hx
  have ht:List.take (i+1) l=List.take i l++[e]:=by rw[List.take_add_one,hx];rfl
  have hi4:i<4:=by omega
  have hlr:(Gx (l.take i) us).length=i:=by rw[Wi _ _ (by simp;omega)];simp;omega
  refine wpIn_seq ?_
  refine wpIn_block ?_
  refine L7 hF hds (by rw[hn];rfl) r1 fun K1 hK1=>?_
  simp[go_sem,hx]
  repeat' with_reducible refine Ax ?_ ?_
  all_goals try (intros;(repeat' refine Ax ?_ ?_)<;>omega)
  refine hK1 _ ?_;clear hK1
  intro β2 a2 w2 r2 f2
  refine L7 hF hds (by rw[hn];rfl) r2 fun K1 hK1=>?_
  simp[go_sem]
  refine .lo (Km e) (by simp[go_sem]) (by simp[AV.cln,Fb]) ?_
  simp[go_sem]
  refine hK1 _ ?_;clear hK1
  intro β3 a3 w3 r3 f3
  refine Ap1 r3 (by simp[go_sem]) (by simp[go_sem]) (fun h16=>?_) (fun h16=>?_)<;>simp[go_sem] at h16
  refine Alf hF hds 3 (by rw[hn];rfl) r3 fun K1 hK1=>?_
  simp[go_sem]
  refine .l (Zn e (hg e (Ac hx))) ?_
  simp[go_sem]
  refine hK1 _ ?_;clear hK1
  intro β4 a4 w4 r4 f4
  have hv:=r4.sl 19
  simp only[Ez] at hv
  obtain⟨u,hu1,hu2⟩:=Axp (cs:=[_,_,_,_]) hv
  have r4':=r4.say1 19 hu2
  cases hu1 with
  | own _ _ _ hu1 =>
  have h1u:=hu1.1
  refine Ab7 hF hds (by rw[hn];rfl) r4' fun K1 hK1=>?_
  simp[go_sem,h1u,hlr]
  repeat' with_reducible refine Ax ?_ ?_
  all_goals try exact h1u
  all_goals try (intros;(repeat' refine Ax ?_ ?_)<;>omega)
  refine hK1 _ ?_;clear hK1
  intro β5 a5 w5 r5 f5
  refine As5 hF hds (by rw[hn];rfl) r5 fun K1 hK1=>?_
  simp[go_sem]
  refine hK1 _ ?_;clear hK1
  intro β6 a6 w6 r6 f6
  have g12:=f1.grew.trans f2.grew
  have g13:=g12.trans f3.grew
  have g14:=g13.trans f4.grew
  have g15:=g14.trans2 f5.grew rfl
  have g:=g15.trans f6.grew
  have hown:∀(b:Nat),Own β (Afy l i us) b->β 0=some b:=fun b ⟨id,h1,h2⟩=>by
   cases id with
   | zero=>exact h2
   | succ id=>exact absurd rfl h1
  have ho6:β6 2=β4 2:=(f6.row 2 166 5 _ _ (Hs e.legs) _ _ (Hs e.legs) rfl rfl rfl).trans (f5.row 2 166 5 _ _ (Hs e.legs) _ _ (Hs e.legs) rfl rfl rfl)
  have hv5:=f5.keep 2 166 5 _ _ (Hs e.legs) _ _ (Hs e.legs) _ _ rfl rfl rfl hu1
  have hv6:=f6.keep 2 166 5 _ _ (Hs e.legs) _ _ (Hs e.legs) _ _ rfl rfl rfl hv5
  have hnew:∀b,β4 2=some b->w.heap.size<=b:=fun b hb=>by
   rcases f4.rng b ⟨2,by simp[St.o],hb⟩ with h | ⟨id,h1,h2⟩
   ·exact Ak g13.kp.size h
   exfalso
   match id,h1,h2 with
   | 0,h1,h2 =>
    have:=f4.row 0 164 5 _ _ (Gx (l.take i) us) _ _ (Gx (l.take i) us) rfl rfl rfl
    have:=r4.inj 0 2 b (by simp[St.o]) (by simp[St.o]) (by rw[this];exact h2) hb
    omega
   | 1,h1,h2 =>
    have:=f4.box 1 164 _ rfl
    have:=r4.inj 1 2 b (by simp[St.o]) (by simp[St.o]) (by rw[this];exact h2) hb
    omega
   | id+2,h1,h2=>exact h1 rfl
  have hleg:=Axa (lo:=E.w0.heap.size) r6 (id:=2) (q:=e) rfl hv6 (fun b hb=>by
   rw[ho6] at hb
   exact Ak r.kp.size (hnew b hb))
  have hold:∀(j b:Nat),bs[j]? = some (some b)->b<w.heap.size/\w6.heap[b]? = w.heap[b]?:=fun j b hj=>by
   have h1:=(Ab.1 hj).1
   rw[hf.len] at h1
   have h2:us[j]? = some us[j]:=Aa h1
   have h3':j<(l.take i).length:=by simp;omega
   have h3:(l.take i)[j]? = some (l.take i)[j]:=Aa h3'
   have h4:=hf.leg j _ _ _ h3 h2 hj
   refine⟨h4.2.2.1,g.kp.block b h4.2.2.1 fun h=>?_⟩
   exact hb0 b j (hown b h) hj
  refine⟨z - 1,by omega,i+1,us++[u],bs++[β6 2],_,by omega,by omega,by simp[hus],r6.weakE (sel:=[0]) (st':=Afy l (i+1) (us++[u])) (El (by decide) ?_ ?_) (fun id h=>absurd (hE id) h),⟨by simp[hf.len],?_,?_⟩,?_⟩
  ·repeat' (first | exact .nil | refine .cons (by simp[go_sem,Dw ((i:Int)+1)]) ?_)
  ·refine .cons ?_ .nil
   rw[ht,Amk _ _ _ _ (by simp;omega)]
   simp[go_sem,Afj]
  ·intro j r' u' b h1 h2 h3
   by_cases hj:j<i
   ·have hj2:j<us.length:=by omega
    have hj3:j<bs.length:=by rw[hf.len];omega
    rw[Au hj2] at h2
    rw[Au hj3] at h3
    rw[ht,Au (by simp;omega)] at h1
    exact (hf.leg j r' u' b h1 h2 h3).kept g.kp.size fun b' hb'=>by
     subst hb'
     exact (hold j b' h3).2
   have hj2:j=i:=by
    have:=(Ab.1 h2).1
    simp at this;omega
   subst hj2
   rw[Ao (by omega),show j - us.length=0 by omega] at h2
   rw[Ao (by rw[hf.len];omega),show j - bs.length=0 by rw[hf.len];omega] at h3
   rw[ht,Ao (by simp;omega),show j - (l.take j).length=0 by simp;omega] at h1
   simp at h1 h2 h3
   subst h1 h2 h3
   exact hleg
  ·intro i' j b hij h1 h2
   have hj2:=(Ab.1 h2).1
   have hbl:=hf.len
   simp at hj2
   rw[Au (by omega)] at h1
   by_cases hj:j<bs.length
   ·rw[Au hj] at h2
    exact hf.apart i' j b hij h1 h2
   rw[Ao (by omega),show j - bs.length=0 by omega] at h2
   simp at h2
   rw[ho6] at h2
   have:=hnew b h2
   have:=(hold i' b h1).1
   omega
  intro b j h1 h2
  have h1:β6 0=some b:=h1
  have hj2:=(Ab.1 h2).1
  have hbl:=hf.len
  simp at hj2
  by_cases hj:j<bs.length
  ·rw[Au hj] at h2
   rcases g.rng b ⟨0,by simp[St.o],h1⟩ with h | h
   ·have:=(hold j b h2).1
    omega
   exact hb0 b j (hown b h) h2
  rw[Ao (by omega),show j - bs.length=0 by omega] at h2
  simp at h2
  have:=r6.inj 0 2 b (by simp[St.o]) (by simp[St.o]) h1 h2
  omega
 -- the end
 have hi:i=l.length:=by omega
 subst hi
 refine wpIn_exit ?_
 refine L7 (y:=.ret) hF hds (by rw[hn];rfl) r1 fun K1 hK1=>?_
 simp[go_sem]
 refine hK1 _ ?_;clear hK1
 intro β2 a2 w2 r2 f2
 rw[List.take_length] at hf
 have g:Ahx β (Afy l l.length us) w β2 _ w2:=f1.grew.trans f2.grew
 have hβ2:β2 0=β 0:=(f2.row 0 164 5 _ _ (Gx (l.take l.length) us) _ _ (Gx l us) rfl rfl (by rw[List.take_length])).trans (f1.row 0 164 5 _ _ (Gx (l.take l.length) us) _ _ (Gx (l.take l.length) us) rfl rfl rfl)
 have hown:∀(b:Nat),Own β (Afy l l.length us) b->β 0=some b:=fun b ⟨id,h1,h2⟩=>by
  cases id with
  | zero=>exact h2
  | succ id=>exact absurd rfl h1
 have hf2:Av9 E.w0.heap.size w2 l us bs:=⟨hf.len,fun j r' u b h1 h2 h3=>(hf.leg j r' u b h1 h2 h3).kept g.kp.size fun b' hb'=>by
  subst hb'
  exact g.kp.block b' (hf.leg j r' u _ h1 h2 h3).2.2.1 fun h=>hb0 b' j (hown b' h) h3,hf.apart⟩
 have r3:=r2.weakE (sel:=[0]) (st':=⟨[(4,.own 0 l.length)],[.row 164 5 true false (Gx l us)]⟩) (El (by decide) (by
  repeat' (first | exact .nil | refine .cons (by simp[go_sem]) ?_)) (by
  repeat' (first | exact .nil | refine .cons (by simp[go_sem]) ?_))) (fun id h=>absurd (hE id) h)
 obtain⟨β4,r4⟩:=r3.deep hE hne hus hf2 fun b j h=>hb0 b j (by rw[<- hβ2];exact h)
 refine wpIn_ret ⟨E,_,β4,Hj.refl E,?_,r4⟩
 clear r4 r3 r2 r1 r f1 f2 hf2 hf g hown hβ2 hb0 hus hz hg h11
 match l,hl,hne with
 | [],_,hne=>exact absurd rfl hne
 | [q0],_,_ =>
  refine Tb [0,1] (by simp[go_sem]) (by decide) (by simp) (by simp[go_sem]) ?_
  simp only[Hm,F9,I7,List.map]
  repeat' (first | exact .nil | refine .cons (by simp[go_sem]) ?_)
 | [q0,q1],_,_ =>
  refine Tb [0,1,2] (by simp[go_sem]) (by decide) (by simp) (by simp[go_sem]) ?_
  simp only[Hm,F9,I7,List.map]
  repeat' (first | exact .nil | refine .cons (by simp[go_sem]) ?_)
 | [q0,q1,q2],_,_ =>
  refine Tb [0,1,2,3] (by simp[go_sem]) (by decide) (by simp) (by simp[go_sem]) ?_
  simp only[Hm,F9,I7,List.map]
  repeat' (first | exact .nil | refine .cons (by simp[go_sem]) ?_)
 | _::_::_::_::l,h,_=>simp at h
theorem Lw:PP 171 [] [.mReq l] (Hm l) (.bsl 0 l.length):=by
 refine Ei Tryz.func171 ?_
 refine Bw ?_
 refine Bx (by rfl) fun K1 hK1=>?_
 simp[go_sem]
 have hk:=Als l hne hl hg
 match l,hl,hne,hk with
 | [],_,hne,_=>exact absurd rfl hne
 | [q0],_,_,hk =>
  refine .by hk (Qg.refl _) (by simp) ?_
  simp[go_sem,Hm,F9,I7]
  refine hK1 _ ?_;clear hK1
  refine VW.ret (Tb [0,1] (by simp[go_sem]) (by decide) (by simp) (by simp[go_sem]) ?_)
  simp only[Hm,F9,I7,List.map]
  repeat' (first | exact .nil | refine .cons (by simp[go_sem]) ?_)
 | [q0,q1],_,_,hk =>
  refine .by hk (Qg.refl _) (by simp) ?_
  simp[go_sem,Hm,F9,I7]
  refine hK1 _ ?_;clear hK1
  refine VW.ret (Tb [0,1,2] (by simp[go_sem]) (by decide) (by simp) (by simp[go_sem]) ?_)
  simp only[Hm,F9,I7,List.map]
  repeat' (first | exact .nil | refine .cons (by simp[go_sem]) ?_)
 | [q0,q1,q2],_,_,hk =>
  refine .by hk (Qg.refl _) (by simp) ?_
  simp[go_sem,Hm,F9,I7]
  refine hK1 _ ?_;clear hK1
  refine VW.ret (Tb [0,1,2,3] (by simp[go_sem]) (by decide) (by simp) (by simp[go_sem]) ?_)
  simp only[Hm,F9,I7,List.map]
  repeat' (first | exact .nil | refine .cons (by simp[go_sem]) ?_)
 | _::_::_::_::l,h,_,_=>simp at h
end
theorem Aaw (q0:Ew) (now:Int) (hg:∀r∈[q0],r.legs.length<=1000000):Ct 150 [.imm false 5 (G6 [q0]),.li now] (fun d:List Ew=>.mReq d) (fun d=>d.length=1/\∀r∈d,r.legs.length<=1000000):=by
 refine Er Tryz.func150 ?_
 have hk:=Lw [q0] (by simp) (by simp) hg
 have hg0:q0.legs.length<=1000000:=hg q0 (by simp)
 refine Bq ?_
 refine B3 (fun K kk=>by simp[go_sem,Hm,F9,I7];refine .by hk (Qg.refl _) (by simp) ?_;simp[go_sem,Hm,F9,I7];exact kk)<|.seq ?_
 refine Bq<|.block ?_
 refine Bs 1 (fun i1 (y1:List G0)=>⟨[(1,.li now),(5,.bsl 0 1),(11,.bsl 0 1),(12,.li 1),(13,.li i1)],[.box 164 [.li q0.id,.li q0.veh,.li q0.cls,.li q0.unt,.own 1 q0.legs.length],.row 166 5 false false (Hs y1)]⟩) (fun i1 y1=>y1.length=q0.legs.length) q0.legs (wk Dy [0,1]) (rfl) fun i1 y1 hi1 hy1=>?_
 refine Bq<|.seq ?_
 refine Br ?_ ?_<;>intro h14
 ·
  refine Bp ?_
  have hi:i1=0:=by omega
  subst hi
  -- element 0
  refine Ca<|.block<|.H hy1 ?_
  refine Bu hy1<|.block ?_
  refine Bs q0.legs.length (fun i2 (y2:List G0)=>⟨[(1,.li now),(5,.bsl 0 1),(7,.ptr 2 0),(11,.bsl 0 1),(12,.li 1),(13,.li 0),(19,.li q0.legs.length),(20,.li i2)],[.box 164 [.li q0.id,.li q0.veh,.li q0.cls,.li q0.unt,.own 1 q0.legs.length],.row 166 5 false false (Hs y2),.box 164 [.li q0.id,.li q0.veh,.li q0.cls,.li q0.unt,.own 1 q0.legs.length]]⟩) (fun i2 y2=>y2.length=q0.legs.length) y1 (wk hy1 [0,1,2]) hy1 fun i2 y2 hi2 hy2=>?_
  refine Bq<|.seq ?_
  refine Br ?_ ?_<;>intro h21
  ·refine Bp<|.seq<|.block<|.R ?_
   obtain⟨e,hx⟩:∃e,y2[i2]? = some e:=⟨_,Aa (by omega)⟩
   refine Cp (Fa hx hy2) (Ka e now) ?_
   refine Ci ?_
   refine⟨by omega,y2.set i2 (Li e now),?_,wQ [0,1,2] ?_ ?_⟩
   ·simpa using hy2
   ·simp[go_sem,Dw ((i2:Int)+1)]
   simp[go_sem,hy1,hy2,List.map_set]
  refine Bt<|.R1 ?_
  refine⟨by omega,y2,?_,wQ [0,1] ?_ ?_⟩
  ·exact hy2
  ·simp[go_sem,Dw (1:Int)]
  simp[go_sem]
 -- the end
 refine Bt<|.R ?_
 refine B2 hy1 1 ?_
 refine C7 0 5 (G6 [{ q0 with legs:=y1 }]) rfl rfl (by simp[Ew.t]) (by simp) ?_
 simp[go_sem]
 refine Bz (Fk ?_);simp[go_sem]
 exact⟨[{ q0 with legs:=y1 }],rfl,⟨rfl,by simp only[List.mem_cons,A8,or_false,forall_eq_or_imp,forall_eq];(repeat' refine Ax ?_ ?_)<;>omega⟩⟩
theorem Aav (q0 q1:Ew) (now:Int) (hg:∀r∈[q0,q1],r.legs.length<=1000000):Ct 150 [.imm false 5 (G6 [q0,q1]),.li now] (fun d:List Ew=>.mReq d) (fun d=>d.length=2/\∀r∈d,r.legs.length<=1000000):=by
 refine Er Tryz.func150 ?_
 have hk:=Lw [q0,q1] (by simp) (by simp) hg
 have hg0:q0.legs.length<=1000000:=hg q0 (by simp)
 have hg1:q1.legs.length<=1000000:=hg q1 (by simp)
 refine Bq ?_
 refine B3 (fun K kk=>by simp[go_sem,Hm,F9,I7];refine .by hk (Qg.refl _) (by simp) ?_;simp[go_sem,Hm,F9,I7];exact kk)<|.seq ?_
 refine Bq<|.block ?_
 refine Bs 2 (fun i1 (y1:List G0×List G0)=>⟨[(1,.li now),(5,.bsl 0 2),(11,.bsl 0 2),(12,.li 2),(13,.li i1)],[.box 164 [.li q0.id,.li q0.veh,.li q0.cls,.li q0.unt,.own 1 q0.legs.length,.li q1.id,.li q1.veh,.li q1.cls,.li q1.unt,.own 2 q1.legs.length],.row 166 5 false false (Hs y1.1),.row 166 5 false false (Hs y1.2)]⟩) (fun i1 y1=>y1.1.length=q0.legs.length/\y1.2.length=q1.legs.length) (q0.legs,q1.legs) (wk Dy [0,1,2]) (⟨rfl,rfl⟩) fun i1 y1 hi1 hy1=>?_
 refine Bq<|.seq ?_
 refine Br ?_ ?_<;>intro h14
 ·
  refine Bp ?_
  have hi:i1=0\/i1=1:=by omega
  rcases hi with rfl | rfl
  ·
   refine Ca<|.block<|.H hy1 ?_
   refine Bu hy1<|.block ?_
   refine Bs q0.legs.length (fun i2 (y2:List G0)=>⟨[(1,.li now),(5,.bsl 0 2),(7,.ptr 3 0),(11,.bsl 0 2),(12,.li 2),(13,.li 0),(19,.li q0.legs.length),(20,.li i2)],[.box 164 [.li q0.id,.li q0.veh,.li q0.cls,.li q0.unt,.own 1 q0.legs.length,.li q1.id,.li q1.veh,.li q1.cls,.li q1.unt,.own 2 q1.legs.length],.row 166 5 false false (Hs y2),.row 166 5 false false (Hs y1.2),.box 164 [.li q0.id,.li q0.veh,.li q0.cls,.li q0.unt,.own 1 q0.legs.length]]⟩) (fun i2 y2=>y2.length=q0.legs.length) y1.1 (wk hy1 [0,1,2,3]) hy1.1 fun i2 y2 hi2 hy2=>?_
   refine Bq<|.seq ?_
   refine Br ?_ ?_<;>intro h21
   ·refine Bp<|.seq<|.block<|.R ?_
    obtain⟨e,hx⟩:∃e,y2[i2]? = some e:=⟨_,Aa (by omega)⟩
    refine Cp (Fa hx hy2) (Ka e now) ?_
    refine Ci ?_
    refine⟨by omega,y2.set i2 (Li e now),?_,wQ [0,1,2,3] ?_ ?_⟩
    ·simpa using hy2
    ·simp[go_sem,Dw ((i2:Int)+1)]
    simp[go_sem,hy1,hy2,List.map_set]
   refine Bt<|.R1 ?_
   refine⟨by omega,(y2,y1.2),?_,wQ [0,1,2] ?_ ?_⟩
   ·exact⟨hy2,hy1.2⟩
   ·simp[go_sem,Dw (1:Int)]
   simp[go_sem]
  -- element 1
  refine Ca<|.block<|.H hy1 ?_
  refine Bu hy1<|.block ?_
  refine Bs q1.legs.length (fun i2 (y2:List G0)=>⟨[(1,.li now),(5,.bsl 0 2),(7,.ptr 3 0),(11,.bsl 0 2),(12,.li 2),(13,.li 1),(19,.li q1.legs.length),(20,.li i2)],[.box 164 [.li q0.id,.li q0.veh,.li q0.cls,.li q0.unt,.own 1 q0.legs.length,.li q1.id,.li q1.veh,.li q1.cls,.li q1.unt,.own 2 q1.legs.length],.row 166 5 false false (Hs y1.1),.row 166 5 false false (Hs y2),.box 164 [.li q1.id,.li q1.veh,.li q1.cls,.li q1.unt,.own 2 q1.legs.length]]⟩) (fun i2 y2=>y2.length=q1.legs.length) y1.2 (wk hy1 [0,1,2,3]) hy1.2 fun i2 y2 hi2 hy2=>?_
  refine Bq<|.seq ?_
  refine Br ?_ ?_<;>intro h21
  ·refine Bp<|.seq<|.block<|.R ?_
   obtain⟨e,hx⟩:∃e,y2[i2]? = some e:=⟨_,Aa (by omega)⟩
   refine Cp (Fa hx hy2) (Ka e now) ?_
   refine Ci ?_
   refine⟨by omega,y2.set i2 (Li e now),?_,wQ [0,1,2,3] ?_ ?_⟩
   ·simpa using hy2
   ·simp[go_sem,Dw ((i2:Int)+1)]
   simp[go_sem,hy1,hy2,List.map_set]
  refine Bt<|.R1 ?_
  refine⟨by omega,(y1.1,y2),?_,wQ [0,1,2] ?_ ?_⟩
  ·exact⟨hy1.1,hy2⟩
  ·simp[go_sem,Dw (2:Int)]
  simp[go_sem]
 -- the end
 refine Bt<|.R ?_
 refine B2 hy1 1 ?_
 refine B2 hy1 2 ?_
 refine C7 0 5 (G6 [{ q0 with legs:=y1.1 },{ q1 with legs:=y1.2 }]) rfl rfl (by simp[Ew.t]) (by simp) ?_
 simp[go_sem]
 refine Bz (Fk ?_);simp[go_sem]
 exact⟨[{ q0 with legs:=y1.1 },{ q1 with legs:=y1.2 }],rfl,⟨rfl,by simp only[List.mem_cons,A8,or_false,forall_eq_or_imp,forall_eq];(repeat' refine Ax ?_ ?_)<;>omega⟩⟩
theorem Aau (q0 q1 q2:Ew) (now:Int) (hg:∀r∈[q0,q1,q2],r.legs.length<=1000000):Ct 150 [.imm false 5 (G6 [q0,q1,q2]),.li now] (fun d:List Ew=>.mReq d) (fun d=>d.length=3/\∀r∈d,r.legs.length<=1000000):=by
 refine Er Tryz.func150 ?_
 have hk:=Lw [q0,q1,q2] (by simp) (by simp) hg
 have hg0:q0.legs.length<=1000000:=hg q0 (by simp)
 have hg1:q1.legs.length<=1000000:=hg q1 (by simp)
 have hg2:q2.legs.length<=1000000:=hg q2 (by simp)
 refine Bq ?_
 refine B3 (fun K kk=>by simp[go_sem,Hm,F9,I7];refine .by hk (Qg.refl _) (by simp) ?_;simp[go_sem,Hm,F9,I7];exact kk)<|.seq ?_
 refine Bq<|.block ?_
 refine Bs 3 (fun i1 (y1:List G0×List G0×List G0)=>⟨[(1,.li now),(5,.bsl 0 3),(11,.bsl 0 3),(12,.li 3),(13,.li i1)],[.box 164 [.li q0.id,.li q0.veh,.li q0.cls,.li q0.unt,.own 1 q0.legs.length,.li q1.id,.li q1.veh,.li q1.cls,.li q1.unt,.own 2 q1.legs.length,.li q2.id,.li q2.veh,.li q2.cls,.li q2.unt,.own 3 q2.legs.length],.row 166 5 false false (Hs y1.1),.row 166 5 false false (Hs y1.2.1),.row 166 5 false false (Hs y1.2.2)]⟩) (fun i1 y1=>y1.1.length=q0.legs.length/\y1.2.1.length=q1.legs.length/\y1.2.2.length=q2.legs.length) (q0.legs,q1.legs,q2.legs) (wk Dy [0,1,2,3]) (⟨rfl,rfl,rfl⟩) fun i1 y1 hi1 hy1=>?_
 refine Bq<|.seq ?_
 refine Br ?_ ?_<;>intro h14
 ·
  refine Bp ?_
  have hi:i1=0\/i1=1\/i1=2:=by omega
  rcases hi with rfl | rfl | rfl
  ·
   refine Ca<|.block<|.H hy1 ?_
   refine Bu hy1<|.block ?_
   refine Bs q0.legs.length (fun i2 (y2:List G0)=>⟨[(1,.li now),(5,.bsl 0 3),(7,.ptr 4 0),(11,.bsl 0 3),(12,.li 3),(13,.li 0),(19,.li q0.legs.length),(20,.li i2)],[.box 164 [.li q0.id,.li q0.veh,.li q0.cls,.li q0.unt,.own 1 q0.legs.length,.li q1.id,.li q1.veh,.li q1.cls,.li q1.unt,.own 2 q1.legs.length,.li q2.id,.li q2.veh,.li q2.cls,.li q2.unt,.own 3 q2.legs.length],.row 166 5 false false (Hs y2),.row 166 5 false false (Hs y1.2.1),.row 166 5 false false (Hs y1.2.2),.box 164 [.li q0.id,.li q0.veh,.li q0.cls,.li q0.unt,.own 1 q0.legs.length]]⟩) (fun i2 y2=>y2.length=q0.legs.length) y1.1 (wk hy1 [0,1,2,3,4]) hy1.1 fun i2 y2 hi2 hy2=>?_
   refine Bq<|.seq ?_
   refine Br ?_ ?_<;>intro h21
   ·refine Bp<|.seq<|.block<|.R ?_
    obtain⟨e,hx⟩:∃e,y2[i2]? = some e:=⟨_,Aa (by omega)⟩
    refine Cp (Fa hx hy2) (Ka e now) ?_
    refine Ci ?_
    refine⟨by omega,y2.set i2 (Li e now),?_,wQ [0,1,2,3,4] ?_ ?_⟩
    ·simpa using hy2
    ·simp[go_sem,Dw ((i2:Int)+1)]
    simp[go_sem,hy1,hy2,List.map_set]
   refine Bt<|.R1 ?_
   refine⟨by omega,(y2,y1.2.1,y1.2.2),?_,wQ [0,1,2,3] ?_ ?_⟩
   ·exact⟨hy2,hy1.2.1,hy1.2.2⟩
   ·simp[go_sem,Dw (1:Int)]
   simp[go_sem]
  ·
   refine Ca<|.block<|.H hy1 ?_
   refine Bu hy1<|.block ?_
   refine Bs q1.legs.length (fun i2 (y2:List G0)=>⟨[(1,.li now),(5,.bsl 0 3),(7,.ptr 4 0),(11,.bsl 0 3),(12,.li 3),(13,.li 1),(19,.li q1.legs.length),(20,.li i2)],[.box 164 [.li q0.id,.li q0.veh,.li q0.cls,.li q0.unt,.own 1 q0.legs.length,.li q1.id,.li q1.veh,.li q1.cls,.li q1.unt,.own 2 q1.legs.length,.li q2.id,.li q2.veh,.li q2.cls,.li q2.unt,.own 3 q2.legs.length],.row 166 5 false false (Hs y1.1),.row 166 5 false false (Hs y2),.row 166 5 false false (Hs y1.2.2),.box 164 [.li q1.id,.li q1.veh,.li q1.cls,.li q1.unt,.own 2 q1.legs.length]]⟩) (fun i2 y2=>y2.length=q1.legs.length) y1.2.1 (wk hy1 [0,1,2,3,4]) hy1.2.1 fun i2 y2 hi2 hy2=>?_
   refine Bq<|.seq ?_
   refine Br ?_ ?_<;>intro h21
   ·refine Bp<|.seq<|.block<|.R ?_
    obtain⟨e,hx⟩:∃e,y2[i2]? = some e:=⟨_,Aa (by omega)⟩
    refine Cp (Fa hx hy2) (Ka e now) ?_
    refine Ci ?_
    refine⟨by omega,y2.set i2 (Li e now),?_,wQ [0,1,2,3,4] ?_ ?_⟩
    ·simpa using hy2
    ·simp[go_sem,Dw ((i2:Int)+1)]
    simp[go_sem,hy1,hy2,List.map_set]
   refine Bt<|.R1 ?_
   refine⟨by omega,(y1.1,y2,y1.2.2),?_,wQ [0,1,2,3] ?_ ?_⟩
   ·exact⟨hy1.1,hy2,hy1.2.2⟩
   ·simp[go_sem,Dw (2:Int)]
   simp[go_sem]
  -- element 2
  refine Ca<|.block<|.H hy1 ?_
  refine Bu hy1<|.block ?_
  refine Bs q2.legs.length (fun i2 (y2:List G0)=>⟨[(1,.li now),(5,.bsl 0 3),(7,.ptr 4 0),(11,.bsl 0 3),(12,.li 3),(13,.li 2),(19,.li q2.legs.length),(20,.li i2)],[.box 164 [.li q0.id,.li q0.veh,.li q0.cls,.li q0.unt,.own 1 q0.legs.length,.li q1.id,.li q1.veh,.li q1.cls,.li q1.unt,.own 2 q1.legs.length,.li q2.id,.li q2.veh,.li q2.cls,.li q2.unt,.own 3 q2.legs.length],.row 166 5 false false (Hs y1.1),.row 166 5 false false (Hs y1.2.1),.row 166 5 false false (Hs y2),.box 164 [.li q2.id,.li q2.veh,.li q2.cls,.li q2.unt,.own 3 q2.legs.length]]⟩) (fun i2 y2=>y2.length=q2.legs.length) y1.2.2 (wk hy1 [0,1,2,3,4]) hy1.2.2 fun i2 y2 hi2 hy2=>?_
  refine Bq<|.seq ?_
  refine Br ?_ ?_<;>intro h21
  ·refine Bp<|.seq<|.block<|.R ?_
   obtain⟨e,hx⟩:∃e,y2[i2]? = some e:=⟨_,Aa (by omega)⟩
   refine Cp (Fa hx hy2) (Ka e now) ?_
   refine Ci ?_
   refine⟨by omega,y2.set i2 (Li e now),?_,wQ [0,1,2,3,4] ?_ ?_⟩
   ·simpa using hy2
   ·simp[go_sem,Dw ((i2:Int)+1)]
   simp[go_sem,hy1,hy2,List.map_set]
  refine Bt<|.R1 ?_
  refine⟨by omega,(y1.1,y1.2.1,y2),?_,wQ [0,1,2,3] ?_ ?_⟩
  ·exact⟨hy1.1,hy1.2.1,hy2⟩
  ·simp[go_sem,Dw (3:Int)]
  simp[go_sem]
 -- the end
 refine Bt<|.R ?_
 refine B2 hy1 1 ?_
 refine B2 hy1 2 ?_
 refine B2 hy1 3 ?_
 refine C7 0 5 (G6 [{ q0 with legs:=y1.1 },{ q1 with legs:=y1.2.1 },{ q2 with legs:=y1.2.2 }]) rfl rfl (by simp[Ew.t]) (by simp) ?_
 simp[go_sem]
 refine Bz (Fk ?_);simp[go_sem]
 exact⟨[{ q0 with legs:=y1.1 },{ q1 with legs:=y1.2.1 },{ q2 with legs:=y1.2.2 }],rfl,⟨rfl,by simp only[List.mem_cons,A8,or_false,forall_eq_or_imp,forall_eq];(repeat' refine Ax ?_ ?_)<;>omega⟩⟩
theorem A20 {P:Program} {n m:Nat} {x y:Code} {st:St} {K:Exit->St->Prop} (I:St->Prop) (h1:∀s,I s->VX P n m y s K) (h2:(∀s,I s->VX P n m y s K)->VX P n m (.seq x y) st K):VX P n m (.seq x y) st K:=h2 h1
theorem Am8 {α:Type} (p:α->Bool) (l:List α):Hx p l = -1\/∃(k:Nat) (t:α),Hx p l=(k:Nat)/\l[k]? = some t:=by
 unfold Hx
 suffices h:∀(l:List α) (i:Nat),Gs p l i = -1\/∃(k:Nat) (t:α),Gs p l i=((i+k:Nat):Int)/\l[k]? = some t by
  rcases h l 0 with h | ⟨k,t,h1,h2⟩
  ·exact .inl h
  exact .inr ⟨k,t,by simpa using h1,h2⟩
 intro l
 induction l with
 | nil=>intro i;exact .inl rfl
 | cons a l ih =>
  intro i
  by_cases ha:p a=true
  ·exact .inr ⟨0,a,by simp[Gs,ha],rfl⟩
  rcases ih (i+1) with h | ⟨k,t,h1,h2⟩
  ·exact .inl (by simp[Gs,ha,h])
  exact .inr ⟨k+1,t,by simp[Gs,ha,h1];omega,h2⟩
theorem N5 (l:List Ew) (id:Int) (ws:List (Int×Int)) (now:Int) (hl:l.length<=3) (hg:∀r∈l,r.legs.length<=1000000) (hw:ws.length<=1000000):Ct 213 [.mReq l,.li id,.imm false 2 (Ach ws),.li now] (fun d:List Ew×Int=>.tup [.mReq d.1,.li d.2]) (fun d=>d.1.length<=3/\∀r∈d.1,r.legs.length<=1000000):=by
 refine Er Tryz.func213 ?_
 have hl6:l.length<=1000000:=by omega
 refine Bq<|.seq ?_
 refine B4 (by rfl) fun K1 hK1=>?_
 simp[go_sem]
 obtain⟨Y1,cY1,qY1⟩:=Em (Pd l 4 hl6 hg)
 refine .l cY1 ?_
 simp[go_sem]
 refine P3 ?_
 simp[go_sem]
 refine .lo (V0 now) rfl (by simp[AV.cln,Fb]) ?_
 simp[go_sem]
 refine hK1 _ ?_;clear hK1
 refine Br ?_ ?_<;>intro h24
 ·refine Bq ?_
  refine Bz (Fk ?_);simp[go_sem]
  exact⟨([],1),rfl,Ae _,fun r h=>by cases h⟩
 refine Bp<|.L Dy (Pq l id hl6)<|.seq ?_
 refine Bq ?_
 rcases Am8 (fun r:Ew=>r.id == id) l with hk | ⟨k,q,hk,hq⟩
 ·simp only[hk]
  refine Cl ?_ ?_<;>intro h29<;>simp[go_sem] at h29
  refine Bq ?_
  refine Bz (Fk ?_);simp[go_sem]
  exact⟨([],12),rfl,Ae _,fun r h=>by cases h⟩
 simp only[hk]
 refine Cl ?_ ?_<;>intro h29<;>simp[go_sem] at h29
 ·exact absurd h29 (by omega)
 refine Bp ?_
 have hkl:=(Ab.1 hq).1
 have hqg:q.legs.length<=1000000:=hg q (Ac hq)
 have hne:l≠[]:=fun e=>by rw[e] at hkl;simp at hkl
 have hk5:k*5+4<l.length*5:=by omega
 refine A20 (fun s=>∃cs:List AV,s=⟨[(2,.imm false 2 (Ach ws)),(3,.li now),(8,.nil 5),(9,.li 0),(10,.li (k:Int)),(11,.bsl 0 l.length)],[.box 164 cs,.row 166 5 false false (Hs q.legs)]⟩/\cs.length=l.length*5/\cs[k*5+4]? = some (.own 1 q.legs.length)/\(∀r:Nat->Option Nat,r 1=some 1->Nr r cs=cs)/\(∀o,R2 o cs=cs.set (k*5+4) ((AV.own 1 q.legs.length).melt o))/\∀g:List G0,ttL (cs.set (k*5+4) (.mLeg g))=some (G6 (l.set k { q with legs:=g })).flatten) ?_ (fun tail=>?_)
 ·
  rintro s ⟨cs,rfl,hcl,hck,hr,hm,hcf⟩
  have hck2:∀h,cs[k*5+4]'h=.own 1 q.legs.length:=fun h=>by have:=hck;rw[Aa h] at this;injection this
  refine Bu (Zd hck hcl hk5 hkl hck2)<|.seq ?_
  refine Bq ?_
  refine Br ?_ ?_<;>intro h41
  ·refine Bq ?_
   refine Bz (Fk ?_);simp[go_sem]
   exact⟨([],8),rfl,Ae _,fun r h=>by cases h⟩
  refine Bp ?_
  have hwl:ws.length=q.legs.length:=by omega
  refine Ca<|.R<|.block ?_
  refine Bs ws.length (fun i1 (y1:List G0)=>⟨[(3,.li now),(11,.bsl 0 l.length),(12,.own 1 q.legs.length),(42,.imm false 2 (Ach ws)),(43,.li ws.length),(44,.li i1)],[.box 164 cs,.row 166 5 false false (Hs y1)]⟩) (fun i1 y1=>y1.length=q.legs.length) q.legs (wQ [0,1] ?_ ?_) rfl fun i1 y1 hi1 hy1=>?_
  ·simp[go_sem]
  ·simp[go_sem,hr]
  refine Bq<|.seq ?_
  refine Br ?_ ?_<;>intro h45
  ·refine Bp<|.seq<|.block ?_
   obtain⟨e1,H1⟩:∃e,ws[i1]? = some e:=⟨_,Aa (by omega)⟩
   obtain⟨e2,H2⟩:∃e,y1[i1]? = some e:=⟨_,Aa (by omega)⟩
   refine Bu (Jb H1 H2 hy1) ?_
   refine Dd (Jb H1 H2 hy1) (Xv e2.j e2.p e1.1 e1.2 now)<|.seq ?_
   refine Bq ?_
   refine Br ?_ ?_<;>intro h69
   ·refine Bq ?_
    refine Bz (Fk ?_);simp[go_sem]
    exact⟨([],8),rfl,Ae _,fun r h=>by cases h⟩
   refine Bp<|.G1 (Jb H1 H2 hy1) ?_
   refine Ci ?_
   have hs:∀v,((Hs y1).set i1 v)[i1]? = some v:=fun v=>Bg (by simp;omega)
   refine⟨by omega,y1.set i1 ⟨e2.j,e2.p,(Mx e2.j e2.p e1.1 e1.2 now).1.fr,(Mx e2.j e2.p e1.1 e1.2 now).1.to,e2.si⟩,?_,wQ [0,1] ?_ ?_⟩
   ·simpa using hy1
   ·simp[go_sem,Dw ((i1:Int)+1)]
   simp[go_sem,H1,H2,hy1,hr,hs,List.map_set]
  refine Bt<|.R ?_
  refine B2 (Fa hy1 hm) 1 ?_
  refine C7 0 5 (G6 (l.set k { q with legs:=y1 })) rfl (hcf y1) (fun e he=>by obtain⟨r,_,rfl⟩:=A4.1 he;rfl) (by simp) ?_
  simp[go_sem]
  refine Bz (Fk ?_);simp[go_sem]
  refine⟨(l.set k { q with legs:=y1 },0),by simp[go_sem],by simpa using hl,fun r hr=>?_⟩
  rcases Bi hr with h | h
  ·exact hg r h
  rw[h];show y1.length<=_;omega
 have hk0:=Lw l hne hl hg
 refine Cz (s':=⟨[(0,.mReq l),(2,.imm false 2 (Ach ws)),(3,.li now),(8,.nil 5),(9,.li 0),(10,.li (k:Int))],[]⟩) (wQ [] ?_ ?_) ?_
 ·simp[go_sem]
 ·simp[go_sem]
 clear h24 h29 hg hw hl6 hk5
 match l,k,hl,hne,hq,hkl,hk0,tail with
 | [],k,_,h,_,_,_,_=>exact absurd rfl h
 | _::_::_::_::_,k,h,_,_,_,_,_=>simp at h
 | [p0],0,_,_,hq,_,hk0,tail =>
  simp at hq;subst hq
  refine B3 (fun K kk=>by simp[go_sem,Hm,F9,I7];refine .by hk0 (Qg.refl _) (by simp) ?_;simp[go_sem,Hm,F9,I7];exact kk) ?_
  refine Cz (wQ [0,1] ?_ ?_) (tail _ ⟨[.li p0.id,.li p0.veh,.li p0.cls,.li p0.unt,.own 1 p0.legs.length],rfl,rfl,rfl,fun r h=>by simp[Nr,AV.ren,h],fun o=>rfl,fun g=>rfl⟩)
  all_goals simp[go_sem]
 | [p0],k+1,_,_,_,h,_,_=>exact absurd h (by simp only[A6,List.length_nil];omega)
 | [p0,p1],0,_,_,hq,_,hk0,tail =>
  simp at hq;subst hq
  refine B3 (fun K kk=>by simp[go_sem,Hm,F9,I7];refine .by hk0 (Qg.refl _) (by simp) ?_;simp[go_sem,Hm,F9,I7];exact kk) ?_
  refine B2 Dy 2 ?_
  refine Cz (wQ [0,1] ?_ ?_) (tail _ ⟨[.li p0.id,.li p0.veh,.li p0.cls,.li p0.unt,.own 1 p0.legs.length,.li p1.id,.li p1.veh,.li p1.cls,.li p1.unt,.imm true 5 (Hs p1.legs)],rfl,rfl,rfl,fun r h=>by simp[Nr,AV.ren,h],fun o=>rfl,fun g=>rfl⟩)
  all_goals simp[go_sem]
 | [p0,p1],1,_,_,hq,_,hk0,tail =>
  simp at hq;subst hq
  refine B3 (fun K kk=>by simp[go_sem,Hm,F9,I7];refine .by hk0 (Qg.refl _) (by simp) ?_;simp[go_sem,Hm,F9,I7];exact kk) ?_
  refine B2 Dy 1 ?_
  refine Cz (wQ [0,2] ?_ ?_) (tail _ ⟨[.li p0.id,.li p0.veh,.li p0.cls,.li p0.unt,.imm true 5 (Hs p0.legs),.li p1.id,.li p1.veh,.li p1.cls,.li p1.unt,.own 1 p1.legs.length],rfl,rfl,rfl,fun r h=>by simp[Nr,AV.ren,h],fun o=>rfl,fun g=>rfl⟩)
  all_goals simp[go_sem]
 | [p0,p1],k+2,_,_,_,h,_,_=>exact absurd h (by simp only[A6,List.length_nil];omega)
 | [p0,p1,p2],0,_,_,hq,_,hk0,tail =>
  simp at hq;subst hq
  refine B3 (fun K kk=>by simp[go_sem,Hm,F9,I7];refine .by hk0 (Qg.refl _) (by simp) ?_;simp[go_sem,Hm,F9,I7];exact kk) ?_
  refine B2 Dy 2 ?_
  refine B2 Dy 3 ?_
  refine Cz (wQ [0,1] ?_ ?_) (tail _ ⟨[.li p0.id,.li p0.veh,.li p0.cls,.li p0.unt,.own 1 p0.legs.length,.li p1.id,.li p1.veh,.li p1.cls,.li p1.unt,.imm true 5 (Hs p1.legs),.li p2.id,.li p2.veh,.li p2.cls,.li p2.unt,.imm true 5 (Hs p2.legs)],rfl,rfl,rfl,fun r h=>by simp[Nr,AV.ren,h],fun o=>rfl,fun g=>rfl⟩)
  all_goals simp[go_sem]
 | [p0,p1,p2],1,_,_,hq,_,hk0,tail =>
  simp at hq;subst hq
  refine B3 (fun K kk=>by simp[go_sem,Hm,F9,I7];refine .by hk0 (Qg.refl _) (by simp) ?_;simp[go_sem,Hm,F9,I7];exact kk) ?_
  refine B2 Dy 1 ?_
  refine B2 Dy 3 ?_
  refine Cz (wQ [0,2] ?_ ?_) (tail _ ⟨[.li p0.id,.li p0.veh,.li p0.cls,.li p0.unt,.imm true 5 (Hs p0.legs),.li p1.id,.li p1.veh,.li p1.cls,.li p1.unt,.own 1 p1.legs.length,.li p2.id,.li p2.veh,.li p2.cls,.li p2.unt,.imm true 5 (Hs p2.legs)],rfl,rfl,rfl,fun r h=>by simp[Nr,AV.ren,h],fun o=>rfl,fun g=>rfl⟩)
  all_goals simp[go_sem]
 | [p0,p1,p2],2,_,_,hq,_,hk0,tail =>
  simp at hq;subst hq
  refine B3 (fun K kk=>by simp[go_sem,Hm,F9,I7];refine .by hk0 (Qg.refl _) (by simp) ?_;simp[go_sem,Hm,F9,I7];exact kk) ?_
  refine B2 Dy 1 ?_
  refine B2 Dy 2 ?_
  refine Cz (wQ [0,3] ?_ ?_) (tail _ ⟨[.li p0.id,.li p0.veh,.li p0.cls,.li p0.unt,.imm true 5 (Hs p0.legs),.li p1.id,.li p1.veh,.li p1.cls,.li p1.unt,.imm true 5 (Hs p1.legs),.li p2.id,.li p2.veh,.li p2.cls,.li p2.unt,.own 1 p2.legs.length],rfl,rfl,rfl,fun r h=>by simp[Nr,AV.ren,h],fun o=>rfl,fun g=>rfl⟩)
  all_goals simp[go_sem]
 | [p0,p1,p2],k+3,_,_,_,h,_,_=>exact absurd h (by simp only[A6,List.length_nil];omega)
theorem Aax (now:Int):Ct 150 [.imm false 5 (G6 []),.li now] (fun d:List Ew=>.mReq d) (fun d=>d.length=0/\∀r∈d,r.legs.length<=1000000):=by
 refine Er Tryz.func150 ?_
 refine Bq ?_
 refine B8 Dy (Yn [] (by simp) (by simp))<|.seq ?_
 refine Bq<|.block ?_
 refine Bs 0 (fun i1 (y1:Unit)=>⟨[(1,.li now),(5,.imm false 5 []),(11,.imm false 5 []),(12,.li 0),(13,.li i1)],[]⟩) (fun i1 y1=>True) () (wk Dy []) trivial fun i1 y1 hi1 hy1=>?_
 refine Bq<|.seq ?_
 refine Cl ?_ ?_<;>intro h14<;>simp[go_sem] at h14
 ·exact absurd h14 (by omega)
 refine Bt<|.R ?_
 refine Bz (Fk ?_);simp[go_sem]
 exact⟨[],rfl,rfl,fun r hr=>by simp at hr⟩
section
variable (l:List Ew) (now:Int) (hl:l.length<=3) (hg:∀r∈l,r.legs.length<=1000000)
include now hl hg
theorem Qr:Ct 150 [.mReq l,.li now] (fun d:List Ew=>.mReq d) (fun d=>d.length=l.length/\∀r∈d,r.legs.length<=1000000):=by
 match l,hl,hg with
 | [],_,_=>exact Aax now
 | [q0],_,hg=>exact Aaw q0 now hg
 | [q0,q1],_,hg=>exact Aav q0 q1 now hg
 | [q0,q1,q2],_,hg=>exact Aau q0 q1 q2 now hg
 | _::_::_::_::l,h,_=>simp at h
def Jn:List Ew:=(Em (Qr l now hl hg)).choose
theorem V1:PP 150 [] [.mReq l,.li now] [] (.mReq (Jn l now hl hg)):=(Em (Qr l now hl hg)).choose_spec.1
theorem Wk:(Jn l now hl hg).length=l.length/\∀r∈(Jn l now hl hg),r.legs.length<=1000000:=(Em (Qr l now hl hg)).choose_spec.2
end
section
variable (l:List Ew) (id:Int) (ws:List (Int×Int)) (now:Int) (hl:l.length<=3) (hg:∀r∈l,r.legs.length<=1000000) (hw:ws.length<=1000000)
include id now hl hg hw
def Iv:List Ew×Int:=(Em (N5 l id ws now hl hg hw)).choose
theorem Aa6:PP 213 [] [.mReq l,.li id,.imm false 2 (Ach ws),.li now] [] (.tup [.imm false 5 (G6 (Iv l id ws now hl hg hw).1),.lit (.int .i64 (Iv l id ws now hl hg hw).2)]):=(Em (N5 l id ws now hl hg hw)).choose_spec.1
theorem Abf:(Iv l id ws now hl hg hw).1.length<=3/\∀r∈(Iv l id ws now hl hg hw).1,r.legs.length<=1000000:=(Em (N5 l id ws now hl hg hw)).choose_spec.2
end
end Go.Proofs.YtkkimgjinbaemaaGreat
