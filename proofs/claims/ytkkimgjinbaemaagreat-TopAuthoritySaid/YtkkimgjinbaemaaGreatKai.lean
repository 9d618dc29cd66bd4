/- The walk. -/
import Derived.Test.YtkkimgjinbaemaaGreatKah
noncomputable section
namespace Go.Proofs.YtkkimgjinbaemaaGreat
open Go.RowKit
set_option linter.unusedVariables false
set_option linter.unusedSimpArgs false
set_option linter.defProp false
set_option linter.unusedSectionVars false
set_option maxRecDepth 100000
set_option maxHeartbeats 4000000
section
def Jz (r:Int):List F6->Nat->List Int
 | [],_=>[]
 | p::l,i=>if p.ring=r then (i:Int)::Jz r l (i+1) else Jz r l (i+1)
def Ajy (l:List F6) (r:Int):List Int:=Jz r l 0
theorem Agz (r:Int):∀(l1 l2:List F6) (i:Nat),Jz r (l1++l2) i=Jz r l1 i++Jz r l2 (i+l1.length)
 | [],l2,i=>by simp[Jz]
 | p::l1,l2,i=>by
  simp only[List.cons_append,Jz,A6,Agz r l1 l2 (i+1)]
  rw[show i+1+l1.length=i+(l1.length+1) by omega]
  split<;>rfl
theorem Aag (r:Int):∀(l:List F6) (i:Nat) (x:Int),x∈Jz r l i->(i:Int)<=x/\x<i+l.length
 | [],i,x,h=>by simp[Jz] at h
 | p::l,i,x,h=>by
  unfold Jz at h
  split at h
  ·rcases List.mem_cons.1 h with rfl | h
   ·simp only[A6];omega
   have:=Aag r l (i+1) x h;simp only[A6];omega
  have:=Aag r l (i+1) x h;simp only[A6];omega
variable {l:List F6}
theorem Acu {r x:Int} (h:x∈Ajy l r):0<=x/\x<l.length:=by
 have:=Aag r l 0 x h
 omega
def rgN (l:List F6) (r:Int) (k:Nat):Nat:=(Jz r (l.take k) 0).length
variable {r:Int} {k:Nat} {p:F6}
theorem Asp (h:l[k]? = some p):Jz r l 0=Jz r (l.take k) 0++((if p.ring=r then [(k:Int)] else [])++Jz r (l.drop (k+1)) (k+1)):=by
 have hk:=(Ab.1 h).1
 have e:l=l.take k++p::l.drop (k+1):=by
  have h1:=List.take_append_drop k l
  rw[List.drop_eq_getElem_cons hk,(Ab.1 h).2] at h1
  exact h1.symm
 have e2:Jz r l 0=Jz r (l.take k++p::l.drop (k+1)) 0:=congrArg (fun l=>Jz r l 0) e
 rw[e2,Agz,Jz]
 have hl:(l.take k).length=k:=by rw[A5];omega
 rw[hl,Bm]
 congr 1
 split<;>rfl
theorem Aok (h:l[k]? = some p):rgN l r (k+1)=rgN l r k+if p.ring=r then 1 else 0:=by
 have hk:=(Ab.1 h).1
 unfold rgN
 have h2:(l.take (k+1))[k]? = some p:=by rw[Ag (by omega)];exact h
 rw[Asp h2,List.take_take,Nat.min_eq_left (by omega)]
 have h3:(l.take (k+1)).drop (k+1)=[]:=List.drop_of_length_le (by rw[A5];omega)
 rw[h3]
 simp only[Jz,List.append_nil,Bo]
 split<;>rfl
theorem A11 (h:l[k]? = some p) (hp:p.ring=r):(Ajy l r)[rgN l r k]? = some (k:Int):=by
 unfold Ajy rgN
 rw[Asp h,if_pos hp,Ao (Aj _),Nat.sub_self]
 rfl
theorem Azu (l:List F6) (r:Int) (h:l.length<=k):rgN l r k=(Ajy l r).length:=by
 unfold rgN Ajy
 rw[Bf h]
theorem Xb (j:F9) (r:Int) (h:j.phs.length<=1000000):Zu Tryz.prog 182 [.iptr false [.sl 8 (R2 j.phs),.sl 1 (tI j.con),.li j.start] 0,.iptr false [.li r] 0] ((Ajy j.phs r).map fun a=>[.li a]):=by
 refine Afr Tryz.func182 rfl rfl rfl (by simp[Tryz.ntmps182]) rfl fun yl=>?_
 refine B9 (by rfl) fun K1 hK1=>?_
 simp[go_sem]
 refine hK1 _ ?_;clear hK1
 refine Cz ?_
 refine Dq j.phs.length (fun k=>⟨[(0,.lit (.func (.yield yl) #[] #[])),(2,.iptr false [.li r] 0),(7,.mPhase j.phs),(8,.li j.phs.length),(9,.li k)],[]⟩) (fun k=>rgN j.phs r k)
  (fun k=>True) (wQ [] ?_ ?_) ⟨rfl,rfl,trivial⟩ fun k hk _=>?_
 ·simp[go_sem]
 ·simp[go_sem]
 refine B9 (by rfl) fun K1 hK1=>?_
 simp[go_sem]
 refine hK1 _ ?_;clear hK1
 refine C4 ?_
 refine VI.Q ?_ ?_<;>intro h10
 ·refine Dd ?_
  refine C4 ?_
  refine Cz ?_
  obtain⟨e1,hx⟩:∃e,j.phs[k]? = some e:=⟨_,Aa (by omega)⟩
  refine B9 (by rfl) fun K1 hK1=>?_
  simp[go_sem,hx]
  repeat' with_reducible refine Ax ?_ ?_
  all_goals try (intros;(repeat' refine Ax ?_ ?_)<;>omega)
  refine hK1 _ ?_;clear hK1
  refine C4 (Du ?_)
  refine V1.first 7 (by rfl) fun K1 hK1=>?_
  by_cases hr:e1.ring=r
  ·have hit:=A11 hx hr
   have hnx:=Aok (r:=r) hx
   rw[if_pos hr] at hnx
   simp[go_sem,hr]
   refine hK1 _ ?_;clear hK1
   refine V1.yield (vs:=[.li k]) (by simp[go_sem]) (by simp[go_sem]) (by decide) (by simp[go_sem]) (by simp[go_sem]) (by simp[go_sem]) (by simp[hit]) (by simp[go_sem]) rfl fun b=>?_
   refine V1.rest (by rfl) fun K1 hK1=>?_
   cases b with
   | true =>
    simp[go_sem]
    refine hK1 _ ?_;clear hK1
    refine C7 (by simp[go_sem]) (by simp[go_sem]) (fun h17=>?_) (fun h17=>?_)<;>simp[go_sem] at h17
    exact VI.ret ⟨.inr rfl,fun h=>by cases h⟩
   | false =>
    simp[go_sem]
    refine hK1 _ ?_;clear hK1
    refine C7 (by simp[go_sem]) (by simp[go_sem]) (fun h17=>?_) (fun h17=>?_)<;>simp[go_sem] at h17
    refine Dd ?_
    refine Cu (by rfl) fun K1 hK1=>?_
    simp[go_sem]
    refine hK1 _ ?_;clear hK1
    refine⟨by omega,hnx.symm,rfl,trivial,wQ [] ?_ ?_⟩
    ·simp[go_sem,Dx ((k:Int)+1)]
    simp[go_sem]
  have hnx:=Aok (r:=r) hx
  rw[if_neg hr,Nat.add_zero] at hnx
  have hrb:(e1.ring == r)=false:=by simpa using hr
  simp[go_sem,hrb]
  refine hK1 _ ?_;clear hK1
  refine V1.noyield (d:=21) rfl (by simp[go_sem]) (by simp[go_sem]) (by decide) ?_
  refine V1.rest (by rfl) fun K1 hK1=>?_
  simp[go_sem,hrb]
  refine hK1 _ ?_;clear hK1
  refine C7 (by simp[go_sem]) (by simp[go_sem]) (fun h17=>?_) (fun h17=>?_)<;>simp[go_sem] at h17
  refine Dd ?_
  refine Cu (by rfl) fun K1 hK1=>?_
  simp[go_sem]
  refine hK1 _ ?_;clear hK1
  refine⟨by omega,hnx.symm,rfl,trivial,wQ [] ?_ ?_⟩
  ·simp[go_sem,Dx ((k:Int)+1)]
  simp[go_sem]
 refine VI.exit ?_
 exact⟨.inl rfl,fun _=>by rw[Azu _ _ (by omega)];simp⟩
theorem Tz (j:F9) (r:Int):PP 164 [] [.agg (F9.a false j),.li r] [] (.fn 182 [.iptr false [.sl 8 (R2 j.phs),.sl 1 (tI j.con),.li j.start] 0,.iptr false [.li r] 0]):=by
 refine E7.boxes (σr:=[.box 88 (j.a false),.box 3 [.li r]]) (res:=.fn 182 [.ptr 0 0,.ptr 1 0]) ?_ (by simp[go_sem,St.o])
 refine Em Tryz.func164 ?_
 iterate 2 refine Bw ?_
 exact .ret (rW Dz [0,1])
end
theorem Ads {l:List Fq}:∀(n:Nat) (s x:Int),x∈Rz l n s->Iy l x=true
 | 0,s,x,h=>by simp[Rz] at h
 | n+1,s,x,h=>by
  unfold Rz at h
  split at h
  ·rename_i hu
   rcases List.mem_cons.1 h with rfl | h
   ·exact hu
   exact Ads n _ x h
  cases h
theorem Aql {l:List Fq} {s x:Int} (h:x∈Wi l s):Iy l x=true:=Ads 8 s x h
theorem O3 (j:F9) (r:Int) (g:Int) (f:Int) (h:j.phs.length<=1000000):Ct 144 [j.g,.li r,.li g,.li f] (fun d:Int=>.li d) (fun d=>d = -1\/(0<=d/\d<j.phs.length)):=by
 refine Ex Tryz.func144 ?_
 refine Bq<|.seq ?_
 refine B8 Dz (Tz j r)<|.block ?_
 refine C6 (s':=⟨[(4,.ptr 0 0),(6,.ptr 1 0),(7,.ptr 2 0),(8,.ptr 3 0),(12,.fn 182 [.iptr false [.sl 8 (R2 j.phs),.sl 1 (tI j.con),.li j.start] 0,.iptr false [.li r] 0])],(fun (y1:Int)=>[.box 88 (j.a false),.box 3 [.li g],.box 3 [.li f],.box 3 [.li y1]]) (0)⟩) (wQ [0,1,2,3] ?_ ?_) ?_
 ·simp[go_sem]
 ·simp[go_sem]
 refine Dm (Xb j r h) (fun (y1:Int)=>[.box 88 (j.a false),.box 3 [.li g],.box 3 [.li f],.box 3 [.li y1]]) 4 (fun _=>rfl) (by rfl) (fun _=>Tc rfl) (by decide) (by rfl) ?_ (fun j1 y1=>True) (0) (trivial) (fun j1 vs y1 hj1 hy1=>?_) (fun y1 hy1=>?_)
 ·intro vs hvs
  obtain⟨a,_,rfl⟩:=A4.1 hvs
  simp[go_sem]
 ·
  obtain⟨a1,ha1,rfl⟩:=Ei hj1
  have hm:=Acu (Ac ha1)
  refine Df ?_
  obtain⟨e1,H1⟩:=gx j.phs a1.toNat
  refine C3 H1 ?_
  refine Br ?_ ?_<;>intro h26
  ·refine Bt H1 ?_
   refine Bz ⟨[.box 88 (j.a false),.box 3 [.li g],.box 3 [.li f],.box 3 [.li a1]],⟨[0,1,2,3],Es (by decide) ?_ ?_,F7 rfl⟩,?_⟩
   ·simp[go_sem]
   ·simp[go_sem,H1]
   refine (Awu (by simp[go_sem]) ?_)
   simp[go_sem,H1]
   exact⟨a1,by rfl,(by first | exact .inl rfl | exact .inr hm)⟩
  refine Bp ?_
  refine⟨(y1),?_,⟨[0,1,2,3],Es (by decide) ?_ ?_,F7 rfl⟩⟩
  ·trivial
  ·simp[go_sem]
  simp[go_sem,H1]
 -- done
 refine Bq ?_
 exact .ret (fin Dz (-1) (by exact .inl rfl))
theorem Py (j:F9) (c:Ok) (r:Int) (h:j.phs.length<=1000000) (hl:c.lights.length=j.phs.length):Ct 226 [j.g,c.g,.li r] (fun d:Bool=>.lb d) (fun d=>True):=by
 refine Ex Tryz.func226 ?_
 refine Bq<|.seq ?_
 refine B8 Dz (Tz j r)<|.block ?_
 refine C6 (s':=⟨[(4,.ptr 0 0),(6,.ptr 1 0),(10,.fn 182 [.iptr false [.sl 8 (R2 j.phs),.sl 1 (tI j.con),.li j.start] 0,.iptr false [.li r] 0])],(fun (y1:Bool)=>[.box 133 (c.a false),.box 4 [.lb y1]]) (false)⟩) (wQ [1,2] ?_ ?_) ?_
 ·simp[go_sem]
 ·simp[go_sem]
 refine Dm (Xb j r h) (fun (y1:Bool)=>[.box 133 (c.a false),.box 4 [.lb y1]]) 2 (fun _=>rfl) (by rfl) (fun _=>Tc rfl) (by decide) (by rfl) ?_ (fun j1 y1=>True) (false) (trivial) (fun j1 vs y1 hj1 hy1=>?_) (fun y1 hy1=>?_)
 ·intro vs hvs
  obtain⟨a,_,rfl⟩:=A4.1 hvs
  simp[go_sem]
 ·
  obtain⟨a1,ha1,rfl⟩:=Ei hj1
  have hm:=Acu (Ac ha1)
  refine Df ?_
  obtain⟨e1,H1⟩:=gx c.lights a1.toNat
  refine Bt H1 ?_
  refine Br ?_ ?_<;>intro h18
  ·refine Bt H1 ?_
   refine Bz ⟨[.box 133 (c.a false),.box 4 [.lb false]],⟨[0,1],Es (by decide) ?_ ?_,F7 rfl⟩,?_⟩
   ·simp[go_sem]
   ·simp[go_sem,H1]
   refine (Awu (by simp[go_sem]) ?_)
   simp[go_sem,H1]
   exact⟨false,by rfl,trivial⟩
  refine Bp ?_
  refine⟨(y1),?_,⟨[0,1],Es (by decide) ?_ ?_,F7 rfl⟩⟩
  ·trivial
  ·simp[go_sem]
  simp[go_sem,H1]
 -- done
 refine Bq ?_
 exact .ret (fin Dz true trivial)
theorem Uj (j:F9) (c:Ok) (r:Int) (t:Int) (h:j.phs.length<=1000000) (hn:c.nxt.length=2) (hr:0<=r/\r<2) (hc:j.con.length<=1000000):Ct 227 [j.g,c.g,.li r,.li t] (fun d:Int=>.li d) (fun d=>d = -1\/(0<=d/\d<j.phs.length)):=by
 refine Ex Tryz.func227 ?_
 refine Bq ?_
 refine Bq<|.seq ?_
 refine B8 Dz (Tz j r)<|.block ?_
 refine C6 (s':=⟨[(4,.ptr 0 0),(5,.ptr 1 0),(6,.ptr 2 0),(7,.ptr 3 0),(8,.ptr 4 0),(9,.ptr 5 0),(13,.fn 182 [.iptr false [.sl 8 (R2 j.phs),.sl 1 (tI j.con),.li j.start] 0,.iptr false [.li r] 0])],(fun (y1:Int×Int)=>[.box 88 (j.a false),.box 133 (c.a false),.box 3 [.li r],.box 3 [.li t],.box 3 [.li y1.1],.box 3 [.li y1.2]]) (0,(-1))⟩) (wQ [0,1,2,3,4,5] ?_ ?_) ?_
 ·simp[go_sem]
 ·simp[go_sem]
 refine Dm (Xb j r h) (fun (y1:Int×Int)=>[.box 88 (j.a false),.box 133 (c.a false),.box 3 [.li r],.box 3 [.li t],.box 3 [.li y1.1],.box 3 [.li y1.2]]) 6 (fun _=>rfl) (by rfl) (fun _=>Tc rfl) (by decide) (by rfl) ?_ (fun j1 y1=>y1.2 = -1\/(0<=y1.2/\y1.2<j.phs.length)) (0,(-1)) (.inl rfl) (fun j1 vs y1 hj1 hy1=>?_) (fun y1 hy1=>?_)
 ·intro vs hvs
  obtain⟨a,_,rfl⟩:=A4.1 hvs
  simp[go_sem]
 ·
  obtain⟨a1,ha1,rfl⟩:=Ei hj1
  have hm:=Acu (Ac ha1)
  refine Df<|.seq<|.L Dz (Io j.con a1 t (by assumption)) ?_
  refine Br ?_ ?_<;>intro h19
  ·refine Bu ?_
   refine⟨(y1.1,y1.2),?_,⟨[0,1,2,3,4,5],Es (by decide) ?_ ?_,F7 rfl⟩⟩
   ·exact hy1
   all_goals simp[go_sem]
  refine Bp<|.seq ?_
  obtain⟨e1,H1⟩:=gx c.nxt r.toNat
  refine Bt H1 ?_
  refine Br ?_ ?_<;>intro h34
  ·refine Bt H1 ?_
   refine Bz ⟨[.box 88 (j.a false),.box 133 (c.a false),.box 3 [.li r],.box 3 [.li t],.box 3 [.li a1],.box 3 [.li y1.2]],⟨[0,1,2,3,4,5],Es (by decide) ?_ ?_,F7 rfl⟩,?_⟩
   ·simp[go_sem]
   ·simp[go_sem,H1]
   refine (Awu (by simp[go_sem]) ?_)
   simp[go_sem,H1]
   exact⟨a1,by rfl,(by first | exact .inl rfl | exact .inr hm)⟩
  refine Bp<|.H H1 ?_
  refine Br ?_ ?_<;>intro h37
  ·refine B0 H1 ?_
   refine⟨(y1.1,a1),?_,⟨[0,1,2,3,4,5],Es (by decide) ?_ ?_,F7 rfl⟩⟩
   ·first | exact hy1 | exact .inr hm
   ·simp[go_sem]
   simp[go_sem,H1]
  refine Bp ?_
  refine⟨(y1.1,y1.2),?_,⟨[0,1,2,3,4,5],Es (by decide) ?_ ?_,F7 rfl⟩⟩
  ·exact hy1
  ·simp[go_sem]
  simp[go_sem,H1]
 -- done
 refine Bq ?_
 exact .ret (fin Dz y1.2 (by first | exact .inl rfl | exact .inr hm | exact hy1))
section
variable (l:List Fq) (n:Int) (hl:l.length<=1000000) (ht:∀t∈l,t.sec.length<=1000000)
include n hl ht
theorem Rl:Ct 166 [.mTok l,.li n] (fun d:List Fq=>.mTok d) (fun d=>d.length=l.length/\∀t∈d,t.sec.length<=1000000):=by
 refine Ex Tryz.func166 ?_
 refine Bq ?_
 refine B8 Dz (Mt l hl ht)<|.seq ?_
 refine Bq<|.block ?_
 refine Bs l.length (fun i1 (y1:(List Fq))=>⟨[(2,.ptr 0 0),(3,.ptr 1 0),(5,.ptr 3 0),(11,.li l.length),(12,.li i1)],[.box 61 [.mTok l],.box 3 [.li n],.row 73 6 false false (P1 y1),.box 61 [.own 2 y1.length]]⟩) (fun i1 y1=>y1.length=l.length/\∀t∈y1,t.sec.length<=1000000) (l) (wk Dz [0,1,2,3]) (⟨rfl,ht⟩) fun i1 y1 hi1 hy1=>?_
 refine Bq<|.seq ?_
 refine Br ?_ ?_<;>intro h13
 ·refine Bp<|.seq<|.block<|.R ?_
  refine B8 Dz (Su l i1)<|.block ?_
  refine C6 (s':=⟨[(2,.ptr 0 0),(3,.ptr 1 0),(5,.ptr 3 0),(6,.ptr 4 0),(11,.li l.length),(12,.li i1),(17,.fn 206 [.iptr false [.li i1] 0,.iptr false [.sl 6 (P1 l)] 0])],(fun (y2:(List Fq))=>[.box 61 [.mTok l],.box 3 [.li n],.row 73 6 false false (P1 y2),.box 61 [.own 2 y2.length],.box 3 [.li i1]]) (y1)⟩) (wQ [0,1,2,3,4] ?_ ?_) ?_
  ·simp[go_sem]
  ·simp[go_sem]
  refine Dm (Xc l i1) (fun (y2:(List Fq))=>[.box 61 [.mTok l],.box 3 [.li n],.row 73 6 false false (P1 y2),.box 61 [.own 2 y2.length],.box 3 [.li i1]]) 5 (fun _=>rfl) (by rfl) (fun _=>Tc rfl) (by decide) (by rfl) ?_ (fun j2 y2=>y2.length=l.length/\∀t∈y2,t.sec.length<=1000000) (y1) (hy1) (fun j2 vs y2 hj2 hy2=>?_) (fun y2 hy2=>?_)
  ·intro vs hvs
   obtain⟨a,_,rfl⟩:=A4.1 hvs
   simp[go_sem]
  ·
   obtain⟨a2,ha2,rfl⟩:=Ei hj2
   obtain⟨hp0,tp,hp1,hp2⟩:=Ry (Aql (Ac ha2))
   have hp3:=(Ab.1 hp1).1
   refine Df ?_
   obtain⟨e1,H1⟩:=gx l a2.toNat
   refine Db H1 (Wa e1 n) ?_
   refine Br ?_ ?_<;>intro h24
   ·obtain⟨e2,H2⟩:=gx y2 i1
    refine Db (Fa H1 H2) (Vn) ?_
    refine Bu ⟨[.box 61 [.mTok l],.box 3 [.li n],.row 73 6 false false (P1 ((y2).set i1 Vr)),.box 61 [.own 2 y2.length],.box 3 [.li i1]],⟨[0,1,2,3,4],Es (by decide) ?_ ?_,F7 rfl⟩,?_⟩
    ·simp[go_sem]
    ·simp[go_sem,H1,H2]
    refine B0 (Fa H1 H2) ?_
    refine⟨by omega,((y2).set i1 Vr),?_,wk (Hq (Dx ((i1:Int)+1)) H1 H2) [0,1,2,3]⟩
    first | exact hy2 | exact⟨(List.length_set ..).trans hy2.1,Afm hy2.2 (by simp[Vr])⟩
   refine Bp ?_
   refine⟨(y2),?_,⟨[0,1,2,3,4],Es (by decide) ?_ ?_,F7 rfl⟩⟩
   ·exact hy2
   ·simp[go_sem]
   simp[go_sem,H1]
  -- done
  refine Ci ?_
  refine⟨by omega,(y2),?_,wk (Dx ((i1:Int)+1)) [0,1,2,3]⟩
  exact hy2
 refine Bu<|.R ?_
 refine B2 Dz 2 ?_
 exact .ret (fin Dz y1 hy1)
def J0:List Fq:=(Ep (Rl l n hl ht)).choose
theorem Aga:PP 166 [] [.mTok l,.li n] [] (.mTok (J0 l n hl ht)):=(Ep (Rl l n hl ht)).choose_spec.1
theorem Ag1:(J0 l n hl ht).length=l.length/\∀t∈(J0 l n hl ht),t.sec.length<=1000000:=(Ep (Rl l n hl ht)).choose_spec.2
end
structure Ou (j:F9):Prop where
  len:j.phs.length<=1000000
  pos:1<=j.phs.length
  con:j.con.length<=1000000
  ring:∀p∈j.phs,0<=p.ring/\p.ring<2
  grp:∀p∈j.phs,0<=p.grp/\p.grp<=3
structure Ud (j:F9) (l:List Int):Prop where
  len:l.length=2
  ok:∀x∈l,x = -1\/(0<=x/\x<j.phs.length)
theorem Ud.set {j:F9} {l:List Int} (h:Ud j l) (i:Nat) {x:Int} (hx:x = -1\/(0<=x/\x<j.phs.length)):Ud j (l.set i x):=⟨by rw[List.length_set];exact h.len,fun y hy=>by
 rcases Bi hy with h1 | h1
 ·exact h.ok y h1
 subst h1;exact hx⟩
theorem Ro (j:F9) (c:Ok) (g:Int) (hj:Ou j):Cx 113 [.box 133 [.own 1 c.lights.length,.li c.grp,.own 2 c.nxt.length,.li c.wt],.row 185 2 false false (Iv c.lights),.row 3 1 false false (tI c.nxt)] [j.g,.ptr 0 0,.li g] (fun d:Ok×(List Int)=>[.box 133 [.own 1 d.1.lights.length,.li d.1.grp,.own 3 d.1.nxt.length,.li d.1.wt],.row 185 2 false false (Iv d.1.lights),.row 3 1 false false (tI d.2),.row 3 1 false false (tI d.1.nxt)]) (fun d=>.tup []) (fun d=>d.1.lights=c.lights/\d.1.grp=g/\d.1.wt=c.wt/\Ud j d.1.nxt):=by
 refine U3 Tryz.func113 ?_
 iterate 2 refine Bq ?_
 refine Bt Dz ?_
 refine Bq<|.block ?_
 refine Bs 2 (fun i1 (y1:(List F0)×(List Int)×(List Int))=>⟨[(1,.ptr 0 0),(2,.li g),(3,.ptr 3 0),(19,.li 2),(20,.li i1)],[.box 133 [.own 1 y1.1.length,.li g,.own 4 y1.2.2.length,.li c.wt],.row 185 2 false false (Iv y1.1),.row 3 1 false false (tI y1.2.1),.box 88 (j.a false),.row 3 1 false false (tI y1.2.2)]⟩) (fun i1 y1=>y1.1=c.lights/\Ud j y1.2.2) (c.lights,c.nxt,List.replicate 2 0) (wk Dz [0,1,2,3,4]) (⟨rfl,by simp,fun x hx=>by have:=hj.pos;simp at hx;omega⟩) fun i1 y1 hi1 hy1=>?_
 refine Bq<|.seq ?_
 refine Br ?_ ?_<;>intro h21
 ·refine Bp<|.seq<|.block<|.R ?_
  have hl2:=hy1.2.len
  obtain⟨e1,H1⟩:=gx y1.2.2 i1
  obtain⟨Y1,cY1,qY1⟩:=Ep (O3 j i1 g 0 hj.len)
  refine Cp H1 cY1 ?_
  refine B0 H1 ?_
  refine⟨by omega,(y1.1,y1.2.1,(y1.2.2).set i1 Y1),?_,[0,1,2,3,4],Es (by decide) ?_ ?_,F7 rfl⟩
  ·exact⟨hy1.1,hy1.2.set _ qY1⟩
  all_goals simp[go_sem,Dx ((i1:Int)+1),H1,hy1.2.len]
 refine Bu ?_
 refine⟨(⟨y1.1,g,y1.2.2,c.wt⟩,y1.2.1),Alw [0,1,2,4] (by simp[go_sem]) (by decide) (F7 rfl) (by simp[go_sem]) ?_,⟨hy1.1,rfl,rfl,hy1.2⟩⟩
 repeat' (first | exact .nil | refine .cons (by simp[go_sem]) ?_)
theorem I7 (j:F9) (c:Ok) (p:Int) (hj:Ou j) (hl:c.lights.length=j.phs.length) (hn:Ud j c.nxt) (h0:0<=p) (h1:p<j.phs.length):Cx 228 [.box 133 [.own 1 c.lights.length,.li c.grp,.own 2 c.nxt.length,.li c.wt],.row 185 2 false false (Iv c.lights),.row 3 1 false false (tI c.nxt)] [j.g,.ptr 0 0,.li p] (fun d:Ok×Bool×(List Int)=>(bif d.2.1 then [.box 133 [.own 1 d.1.lights.length,.li d.1.grp,.own 3 d.1.nxt.length,.li d.1.wt],.row 185 2 false false (Iv d.1.lights),.row 3 1 false false (tI d.2.2),.row 3 1 false false (tI d.1.nxt)] else [.box 133 [.own 1 d.1.lights.length,.li d.1.grp,.own 2 d.1.nxt.length,.li d.1.wt],.row 185 2 false false (Iv d.1.lights),.row 3 1 false false (tI d.1.nxt)])) (fun d=>.tup []) (fun d=>d.1.lights.length=c.lights.length/\d.1.wt=c.wt/\Ud j d.1.nxt):=by
 refine U3 Tryz.func228 ?_
 have hjl:=hj.len
 have hjc:=hj.con
 have hnl:=hn.len
 refine Bq<|.seq ?_
 refine Bq<|.block ?_
 refine Bs c.lights.length (fun i1 (y1:Unit)=>⟨[(1,.ptr 0 0),(2,.li p),(3,.ptr 3 0),(12,.own 1 c.lights.length),(13,.li c.lights.length),(14,.li i1)],[.box 133 [.own 1 c.lights.length,.li c.grp,.own 2 c.nxt.length,.li c.wt],.row 185 2 false false (Iv c.lights),.row 3 1 false false (tI c.nxt),.box 88 (j.a false)]⟩) (fun i1 y1=>True) () (wk Dz [0,1,2,3]) (trivial) fun i1 y1 hi1 hy1=>?_
 refine Bq<|.seq ?_
 refine Br ?_ ?_<;>intro h15
 ·refine Bp<|.seq<|.block ?_
  obtain⟨e1,H1⟩:=gx c.lights i1
  refine Bt H1 ?_
  refine B7 (by rfl) fun K1 hK1=>?_
  simp[go_sem,H1]
  refine Pv ?_
  simp[go_sem,H1]
  refine .lo (Io j.con p i1 (by assumption)) rfl (by simp[AV.cln,Fu]) ?_
  simp[go_sem,H1]
  refine hK1 _ ?_;clear hK1
  refine Br ?_ ?_<;>intro h28
  ·exact .ret ⟨(⟨c.lights,c.grp,c.nxt,c.wt⟩,false,[]),rW H1 [0,1,2],⟨rfl,rfl,hn⟩⟩
  refine Bp<|.H1 H1 ?_
  exact⟨by omega,(),trivial,wk (Fa (Dx ((i1:Int)+1)) H1) [0,1,2,3]⟩
 refine Bu ?_
 obtain⟨e2,H2⟩:=gx j.phs p.toNat
 refine Bt H2 ?_
 have hrg:=hj.ring e2 (Ac H2)
 obtain⟨e3,H3⟩:=gx c.lights p.toNat
 refine Bt (Fa H2 H3)<|.seq ?_
 refine C3 (Fa H2 H3) ?_
 refine Br ?_ ?_<;>intro h48
 ·obtain⟨N,hN,hqN⟩:=Ro j ⟨(c.lights).set p.toNat ⟨1,0⟩,c.grp,c.nxt,c.wt⟩ e2.grp hj
  refine C8 (Fa H2 H3) [0,1,2] hN ?_
  (try have hnl2:=hqN.2.2.2.len)
  have hw4:=Dx (p+1:Int)
  obtain⟨e5,H5⟩:=gx N.1.nxt e2.ring.toNat
  obtain⟨Y1,cY1,qY1⟩:=Ep (O3 j e2.ring e2.grp (p+1) hj.len)
  refine Cp (Tf H2 H3 hw4 H5) cY1 ?_
  refine⟨(⟨N.1.lights,N.1.grp,(N.1.nxt).set e2.ring.toNat Y1,N.1.wt⟩,true,N.2),Alw [0,1,2,5] (by simp[go_sem]) (by decide) (F7 rfl) (by simp[go_sem,H2,H3,hw4,H5]) ?_,⟨by dsimp only;rw[hqN.1];simp,hqN.2.2.1,hqN.2.2.2.set _ qY1⟩⟩
  repeat' (first | exact .nil | refine .cons (by simp[go_sem,H2,H3,hw4,H5]) ?_)
 refine Bp ?_
 (try have hnl2:=hqN.2.2.2.len)
 have hw6:=Dx (p+1:Int)
 obtain⟨e7,H7⟩:=gx c.nxt e2.ring.toNat
 obtain⟨Y2,cY2,qY2⟩:=Ep (O3 j e2.ring e2.grp (p+1) hj.len)
 refine Cp (Tf H2 H3 hw6 H7) cY2 ?_
 refine⟨(⟨(c.lights).set p.toNat ⟨1,0⟩,c.grp,(c.nxt).set e2.ring.toNat Y2,c.wt⟩,false,[]),Alw [0,1,2] (by simp[go_sem]) (by decide) (F7 rfl) (by simp[go_sem,H2,H3,hw6,H7]) ?_,⟨by simp,rfl,hn.set _ qY2⟩⟩
 repeat' (first | exact .nil | refine .cons (by simp[go_sem,H2,H3,hw6,H7]) ?_)
theorem Af2 (j:F9) (c:Ok) (t:Int) (hj:Ou j) (hl:c.lights.length=j.phs.length) (hn:Ud j c.nxt) (h0:0<=t) (h1:t<j.phs.length):Cx 203 [.box 133 [.own 1 c.lights.length,.li c.grp,.own 2 c.nxt.length,.li c.wt],.row 185 2 false false (Iv c.lights),.row 3 1 false false (tI c.nxt)] [j.g,.ptr 0 0,.li t] (fun d:Ok×Bool×(List Int)=>(bif d.2.1 then [.box 133 [.own 1 d.1.lights.length,.li d.1.grp,.own 3 d.1.nxt.length,.li d.1.wt],.row 185 2 false false (Iv d.1.lights),.row 3 1 false false (tI d.2.2),.row 3 1 false false (tI d.1.nxt)] else [.box 133 [.own 1 d.1.lights.length,.li d.1.grp,.own 2 d.1.nxt.length,.li d.1.wt],.row 185 2 false false (Iv d.1.lights),.row 3 1 false false (tI d.1.nxt)])) (fun d=>.tup []) (fun d=>d.1.lights.length=c.lights.length/\d.1.wt=c.wt/\Ud j d.1.nxt):=by
 refine U3 Tryz.func203 ?_
 have hjl:=hj.len
 have hjc:=hj.con
 have hnl:=hn.len
 refine Bq ?_
 refine Bq<|.block ?_
 refine Bs 2 (fun i1 (y1:Int×Int×(List F0)×(List Int)×Bool×(List Int))=>⟨[(1,.ptr 0 0),(2,.li t),(3,.ptr 3 0),(8,.li i1)],bif y1.2.2.2.2.1 then [.box 133 [.own 1 y1.2.2.1.length,.li y1.1,.own 4 y1.2.2.2.1.length,.li y1.2.1],.row 185 2 false false (Iv y1.2.2.1),.row 3 1 false false (tI y1.2.2.2.2.2),.box 88 (j.a false),.row 3 1 false false (tI y1.2.2.2.1)] else [.box 133 [.own 1 y1.2.2.1.length,.li y1.1,.own 2 y1.2.2.2.1.length,.li y1.2.1],.row 185 2 false false (Iv y1.2.2.1),.row 3 1 false false (tI y1.2.2.2.1),.box 88 (j.a false)]⟩) (fun i1 y1=>y1.2.2.1.length=j.phs.length/\y1.2.1=c.wt/\Ud j y1.2.2.2.1) (c.grp,c.wt,c.lights,c.nxt,false,[]) (wk Dz [0,1,2,3]) (⟨hl,rfl,hn⟩) fun i1 y1 hi1 hy1=>?_
 cases hb1:y1.2.2.2.2.1
 ·
  simp only[hb1,cond_false]
  refine Bq<|.seq ?_
  refine Br ?_ ?_<;>intro h9
  ·refine Bp<|.seq<|.block<|.R<|.seq ?_
   have hnl1:=hy1.2.2.len
   have hll1:=hy1.1
   obtain⟨Y1,cY1,qY1⟩:=Ep (Py j ⟨y1.2.2.1,y1.1,y1.2.2.2.1,y1.2.1⟩ i1 (by assumption) (by assumption))
   refine Db Dz cY1 ?_
   refine Br ?_ ?_<;>intro h17
   ·refine Bu<|.R1 ?_
    refine⟨by omega,(y1.1,y1.2.1,y1.2.2.1,y1.2.2.2.1,false,[]),?_,wk (Dx ((i1:Int)+1)) [0,1,2,3]⟩
    exact hy1
   refine Bp<|.R<|.seq ?_
   obtain⟨e1,H1⟩:=gx j.phs t.toNat
   refine Bt H1 ?_
   refine Br ?_ ?_<;>intro h26
   ·have hri:0<=(i1:Int)/\(i1:Int)<2:=by omega
    obtain⟨Y2,cY2,qY2⟩:=Ep (Uj j ⟨y1.2.2.1,y1.1,y1.2.2.2.1,y1.2.1⟩ i1 t hj.len hnl1 hri hj.con)
    have hvc:=cY2
    have hqc:=qY2
    generalize Y2=Q at hvc hqc
    refine Cp H1 (hvc) ?_
    refine Bt H1 ?_
    refine Br ?_ ?_<;>intro h35
    ·have hp:0<=Q/\Q<j.phs.length:=by first | exact⟨h0,h1⟩ | (rcases hqc with hqc | hqc;exact absurd hqc h35;exact hqc)
     obtain⟨⟨N,b,o⟩,hN,hqN⟩:=I7 j ⟨y1.2.2.1,y1.1,y1.2.2.2.1,y1.2.1⟩ Q hj (by exact hy1.1) (by exact hy1.2.2) hp.1 hp.2
     by_cases hc9:b=true
     ·subst hc9
      simp only[cond_true] at hN hqN
      refine C8 H1 [0,1,2] hN ?_
      refine B0 H1 ?_
      refine⟨by omega,(N.grp,N.wt,N.lights,N.nxt,true,o),?_,wk (Fa (Dx ((i1:Int)+1)) H1) [0,1,2,3,4]⟩
      first | exact hy1 | exact⟨by dsimp only;rw[hqN.1];exact hy1.1,hqN.2.1.trans hy1.2.1,hqN.2.2⟩
     have hc9:b=false:=by simpa using hc9
     subst hc9
     simp only[cond_false] at hN hqN
     refine C8 H1 [0,1,2] hN ?_
     refine B0 H1 ?_
     refine⟨by omega,(N.grp,N.wt,N.lights,N.nxt,false,[]),?_,wk (Fa (Dx ((i1:Int)+1)) H1) [0,1,2,3]⟩
     first | exact hy1 | exact⟨by dsimp only;rw[hqN.1];exact hy1.1,hqN.2.1.trans hy1.2.1,hqN.2.2⟩
    refine Bp<|.H1 H1 ?_
    refine⟨by omega,(y1.1,y1.2.1,y1.2.2.1,y1.2.2.2.1,false,[]),?_,wk (Fa (Dx ((i1:Int)+1)) H1) [0,1,2,3]⟩
    exact hy1
   refine Bp<|.H H1 ?_
   refine Br ?_ ?_<;>intro h35
   ·have hp:0<=t/\t<j.phs.length:=by exact⟨h0,h1⟩
    obtain⟨⟨N,b,o⟩,hN,hqN⟩:=I7 j ⟨y1.2.2.1,y1.1,y1.2.2.2.1,y1.2.1⟩ t hj (by exact hy1.1) (by exact hy1.2.2) hp.1 hp.2
    by_cases hc9:b=true
    ·subst hc9
     simp only[cond_true] at hN hqN
     refine C8 H1 [0,1,2] hN ?_
     refine B0 H1 ?_
     refine⟨by omega,(N.grp,N.wt,N.lights,N.nxt,true,o),?_,wk (Fa (Dx ((i1:Int)+1)) H1) [0,1,2,3,4]⟩
     first | exact hy1 | exact⟨by dsimp only;rw[hqN.1];exact hy1.1,hqN.2.1.trans hy1.2.1,hqN.2.2⟩
    have hc9:b=false:=by simpa using hc9
    subst hc9
    simp only[cond_false] at hN hqN
    refine C8 H1 [0,1,2] hN ?_
    refine B0 H1 ?_
    refine⟨by omega,(N.grp,N.wt,N.lights,N.nxt,false,[]),?_,wk (Fa (Dx ((i1:Int)+1)) H1) [0,1,2,3]⟩
    first | exact hy1 | exact⟨by dsimp only;rw[hqN.1];exact hy1.1,hqN.2.1.trans hy1.2.1,hqN.2.2⟩
   refine Bp<|.H1 H1 ?_
   refine⟨by omega,(y1.1,y1.2.1,y1.2.2.1,y1.2.2.2.1,false,[]),?_,wk (Fa (Dx ((i1:Int)+1)) H1) [0,1,2,3]⟩
   exact hy1
  refine Bu ?_
  refine⟨(⟨y1.2.2.1,y1.1,y1.2.2.2.1,y1.2.1⟩,false,[]),Alw [0,1,2] (by simp[go_sem]) (by decide) (F7 rfl) (by simp[go_sem]) ?_,⟨hy1.1.trans hl.symm,hy1.2⟩⟩
  repeat' (first | exact .nil | refine .cons (by simp[go_sem]) ?_)
 -- the row is a new one
 simp only[hb1,cond_true]
 refine Bq<|.seq ?_
 refine Br ?_ ?_<;>intro h9
 ·refine Bp<|.seq<|.block<|.R<|.seq ?_
  have hnl1:=hy1.2.2.len
  have hll1:=hy1.1
  obtain⟨Y3,cY3,qY3⟩:=Ep (Py j ⟨y1.2.2.1,y1.1,y1.2.2.2.1,y1.2.1⟩ i1 (by assumption) (by assumption))
  refine Db Dz cY3 ?_
  refine Br ?_ ?_<;>intro h17
  ·refine Bu<|.R1 ?_
   refine⟨by omega,(y1.1,y1.2.1,y1.2.2.1,y1.2.2.2.1,true,y1.2.2.2.2.2),?_,wk (Dx ((i1:Int)+1)) [0,1,2,3,4]⟩
   exact hy1
  refine Bp<|.R<|.seq ?_
  obtain⟨e2,H2⟩:=gx j.phs t.toNat
  refine Bt H2 ?_
  refine Br ?_ ?_<;>intro h26
  ·have hri:0<=(i1:Int)/\(i1:Int)<2:=by omega
   obtain⟨Y4,cY4,qY4⟩:=Ep (Uj j ⟨y1.2.2.1,y1.1,y1.2.2.2.1,y1.2.1⟩ i1 t hj.len hnl1 hri hj.con)
   have hvc:=cY4
   have hqc:=qY4
   generalize Y4=Q at hvc hqc
   refine Cp H2 (hvc) ?_
   refine Bt H2 ?_
   refine Br ?_ ?_<;>intro h35
   ·have hp:0<=Q/\Q<j.phs.length:=by first | exact⟨h0,h1⟩ | (rcases hqc with hqc | hqc;exact absurd hqc h35;exact hqc)
    obtain⟨⟨N,b,o⟩,hN,hqN⟩:=I7 j ⟨y1.2.2.1,y1.1,y1.2.2.2.1,y1.2.1⟩ Q hj (by exact hy1.1) (by exact hy1.2.2) hp.1 hp.2
    by_cases hc9:b=true
    ·subst hc9
     simp only[cond_true] at hN hqN
     refine C8 H2 [0,1,4] hN ?_
     refine B0 H2 ?_
     refine⟨by omega,(N.grp,N.wt,N.lights,N.nxt,true,y1.2.2.2.2.2),?_,wk (Fa (Dx ((i1:Int)+1)) H2) [0,1,2,3,5]⟩
     first | exact hy1 | exact⟨by dsimp only;rw[hqN.1];exact hy1.1,hqN.2.1.trans hy1.2.1,hqN.2.2⟩
    have hc9:b=false:=by simpa using hc9
    subst hc9
    simp only[cond_false] at hN hqN
    refine C8 H2 [0,1,4] hN ?_
    refine B0 H2 ?_
    refine⟨by omega,(N.grp,N.wt,N.lights,N.nxt,true,y1.2.2.2.2.2),?_,wk (Fa (Dx ((i1:Int)+1)) H2) [0,1,2,3,4]⟩
    first | exact hy1 | exact⟨by dsimp only;rw[hqN.1];exact hy1.1,hqN.2.1.trans hy1.2.1,hqN.2.2⟩
   refine Bp<|.H1 H2 ?_
   refine⟨by omega,(y1.1,y1.2.1,y1.2.2.1,y1.2.2.2.1,true,y1.2.2.2.2.2),?_,wk (Fa (Dx ((i1:Int)+1)) H2) [0,1,2,3,4]⟩
   exact hy1
  refine Bp<|.H H2 ?_
  refine Br ?_ ?_<;>intro h35
  ·have hp:0<=t/\t<j.phs.length:=by exact⟨h0,h1⟩
   obtain⟨⟨N,b,o⟩,hN,hqN⟩:=I7 j ⟨y1.2.2.1,y1.1,y1.2.2.2.1,y1.2.1⟩ t hj (by exact hy1.1) (by exact hy1.2.2) hp.1 hp.2
   by_cases hc9:b=true
   ·subst hc9
    simp only[cond_true] at hN hqN
    refine C8 H2 [0,1,4] hN ?_
    refine B0 H2 ?_
    refine⟨by omega,(N.grp,N.wt,N.lights,N.nxt,true,y1.2.2.2.2.2),?_,wk (Fa (Dx ((i1:Int)+1)) H2) [0,1,2,3,5]⟩
    first | exact hy1 | exact⟨by dsimp only;rw[hqN.1];exact hy1.1,hqN.2.1.trans hy1.2.1,hqN.2.2⟩
   have hc9:b=false:=by simpa using hc9
   subst hc9
   simp only[cond_false] at hN hqN
   refine C8 H2 [0,1,4] hN ?_
   refine B0 H2 ?_
   refine⟨by omega,(N.grp,N.wt,N.lights,N.nxt,true,y1.2.2.2.2.2),?_,wk (Fa (Dx ((i1:Int)+1)) H2) [0,1,2,3,4]⟩
   first | exact hy1 | exact⟨by dsimp only;rw[hqN.1];exact hy1.1,hqN.2.1.trans hy1.2.1,hqN.2.2⟩
  refine Bp<|.H1 H2 ?_
  refine⟨by omega,(y1.1,y1.2.1,y1.2.2.1,y1.2.2.2.1,true,y1.2.2.2.2.2),?_,wk (Fa (Dx ((i1:Int)+1)) H2) [0,1,2,3,4]⟩
  exact hy1
 refine Bu ?_
 refine⟨(⟨y1.2.2.1,y1.1,y1.2.2.2.1,y1.2.1⟩,true,y1.2.2.2.2.2),Alw [0,1,2,4] (by simp[go_sem]) (by decide) (F7 rfl) (by simp[go_sem]) ?_,⟨hy1.1.trans hl.symm,hy1.2⟩⟩
 repeat' (first | exact .nil | refine .cons (by simp[go_sem]) ?_)
theorem Wt (j:F9) (hj:Ou j):Ct 222 [j.g] (fun d:Int=>.li d) (fun d=>1<=d/\d<=4):=by
 refine Ex Tryz.func222 ?_
 have hjl:=hj.len
 refine Bq ?_
 refine Bq<|.seq ?_
 refine Bq<|.block ?_
 refine Bs j.phs.length (fun i1 (y1:Int)=>⟨[(3,.li y1),(7,.mPhase j.phs),(8,.li j.phs.length),(9,.li i1)],[]⟩) (fun i1 y1=>0<=y1/\y1<=4/\(0<i1->1<=y1)) (0) (wk Dz []) (⟨by omega,by omega,fun h=>by omega⟩) fun i1 y1 hi1 hy1=>?_
 refine Bq<|.seq ?_
 refine Br ?_ ?_<;>intro h10
 ·refine Bp<|.seq<|.block ?_
  obtain⟨e1,H1⟩:=gx j.phs i1
  refine Bt H1 ?_
  have hg:=hj.grp e1 (Ac H1)
  have hw2:=Dx (e1.grp+1:Int)
  refine B0 (Fa H1 hw2) ?_
  refine B0 (Fa H1 hw2) ?_
  refine⟨by omega,((if y1<(e1.grp+1) then (e1.grp+1) else y1)),?_,wk (Hq (Dx ((i1:Int)+1)) H1 hw2) []⟩
  (split<;>omega)
 refine Bu<|.R ?_
 exact .ret (fin Dz y1 (by have:=hj.pos;omega))
theorem Af3 (j:F9) (c:Ok) (hj:Ou j) (hl:c.lights.length=j.phs.length) (hn:Ud j c.nxt):Cx 204 [.box 133 [.own 1 c.lights.length,.li c.grp,.own 2 c.nxt.length,.li c.wt],.row 185 2 false false (Iv c.lights),.row 3 1 false false (tI c.nxt)] [j.g,.ptr 0 0] (fun d:Ok×Bool×(List Int)=>(bif d.2.1 then [.box 133 [.own 1 d.1.lights.length,.li d.1.grp,.own 3 d.1.nxt.length,.li d.1.wt],.row 185 2 false false (Iv d.1.lights),.row 3 1 false false (tI d.2.2),.row 3 1 false false (tI d.1.nxt)] else [.box 133 [.own 1 d.1.lights.length,.li d.1.grp,.own 2 d.1.nxt.length,.li d.1.wt],.row 185 2 false false (Iv d.1.lights),.row 3 1 false false (tI d.1.nxt)])) (fun d=>.tup []) (fun d=>d.1.lights.length=c.lights.length/\d.1.wt=c.wt/\Ud j d.1.nxt):=by
 refine U3 Tryz.func204 ?_
 have hjl:=hj.len
 have hjc:=hj.con
 have hnl:=hn.len
 have hll:c.lights.length<=1000000:=by omega
 refine Bq ?_
 obtain⟨Y1,cY1,qY1⟩:=Ep (Y9 c hll)
 refine B8 Dz cY1<|.seq ?_
 refine Bq<|.block ?_
 refine Bs c.nxt.length (fun i1 (y1:Bool)=>⟨[(1,.ptr 0 0),(2,.ptr 3 0),(4,.lb y1),(15,.own 2 c.nxt.length),(16,.li c.nxt.length),(17,.li i1)],[.box 133 [.own 1 c.lights.length,.li c.grp,.own 2 c.nxt.length,.li c.wt],.row 185 2 false false (Iv c.lights),.row 3 1 false false (tI c.nxt),.box 88 (j.a false)]⟩) (fun i1 y1=>True) (Y1) (wk Dz [0,1,2,3]) (trivial) fun i1 y1 hi1 hy1=>?_
 refine Bq<|.seq ?_
 refine Br ?_ ?_<;>intro h18
 ·refine Bp<|.seq<|.block ?_
  obtain⟨e1,H1⟩:=gx c.nxt i1
  refine Bt H1 ?_
  refine Bt H1 ?_
  refine Br ?_ ?_<;>intro h22
  ·refine B0 H1 ?_
   refine B0 H1 ?_
   exact⟨by omega,(false),trivial,wk (Fa (Dx ((i1:Int)+1)) H1) [0,1,2,3]⟩
  refine Bp<|.H1 H1 ?_
  exact⟨by omega,(y1),trivial,wk (Fa (Dx ((i1:Int)+1)) H1) [0,1,2,3]⟩
 refine Bu<|.seq<|.R ?_
 refine Br ?_ ?_<;>intro h24
 ·obtain⟨Y2,cY2,qY2⟩:=Ep (Wt j hj)
  have hvg:=cY2
  have hqg:=qY2
  generalize Y2=G at hvg hqg
  obtain⟨E,hE,hqE⟩:=Ro j ⟨c.lights,c.grp,c.nxt,c.wt⟩ (Int.tmod (IntKind.i64.wrap (c.grp+1)) G) hj
  refine Dg (fun K kk=>by simp[go_sem];refine .l (hvg) ?_;simp[go_sem];(repeat refine aK ?_);refine .o [0,1,2] (hE) ?_;simp[go_sem];exact kk) ?_
  refine Bq<|.block ?_
  refine Bs 2 (fun i2 (y2:Int×Int×(List F0)×(List Int)×(List Int))=>⟨[(1,.ptr 0 0),(2,.ptr 3 0),(36,.li i2)],[.box 133 [.own 1 y2.2.2.1.length,.li y2.1,.own 4 y2.2.2.2.2.length,.li y2.2.1],.row 185 2 false false (Iv y2.2.2.1),.row 3 1 false false (tI y2.2.2.2.1),.box 88 (j.a false),.row 3 1 false false (tI y2.2.2.2.2)]⟩) (fun i2 y2=>y2.2.2.1.length=j.phs.length/\y2.2.1=c.wt/\Ud j y2.2.2.2.2) (E.1.grp,E.1.wt,E.1.lights,E.2,E.1.nxt) (wk Dz [0,1,2,3,4]) (⟨by rw[hqE.1];exact hl,hqE.2.2.1,hqE.2.2.2⟩) fun i2 y2 hi2 hy2=>?_
  refine Bq<|.seq ?_
  refine Br ?_ ?_<;>intro h37
  ·refine Bp<|.seq<|.block<|.R ?_
   (have hnl1:=hy2.2.2.len;have hll1:=hy2.1)
   obtain⟨e2,H2⟩:=gx y2.2.2.2.2 i2
   obtain⟨Y3,cY3,qY3⟩:=Ep (Py j ⟨y2.2.2.1,y2.1,y2.2.2.2.2,y2.2.1⟩ i2 (by assumption) (by assumption))
   refine Db H2 cY3 ?_
   refine Br ?_ ?_<;>intro h54
   ·have hp:0<=e2/\e2<j.phs.length:=by (have hq:=Ud.ok (by first | exact hy3.2.2 | exact hy2.2.2) _ (Ac H2);rcases hq with hq | hq;exact absurd hq h54.2;exact hq)
    obtain⟨⟨N,b,o⟩,hN,hqN⟩:=I7 j ⟨y2.2.2.1,y2.1,y2.2.2.2.2,y2.2.1⟩ e2 hj (by first | exact hy3.1 | exact hy2.1) (by first | exact hy3.2.2 | exact hy2.2.2) hp.1 hp.2
    by_cases hc14:b=true
    ·subst hc14
     simp only[cond_true] at hN hqN
     refine Dg (fun K kk=>by simp[go_sem,H2];(repeat refine aK ?_);refine .o [0,1,4] (hN) ?_;simp[go_sem,H2];exact kk) ?_
     refine B0 H2 ?_
     refine⟨by omega,(N.grp,N.wt,N.lights,y2.2.2.2.1,N.nxt),?_,wk (Fa (Dx ((i2:Int)+1)) H2) [0,1,2,3,5]⟩
     first | exact hy2 | exact⟨by dsimp only;rw[hqN.1];exact hy2.1,hqN.2.1.trans hy2.2.1,hqN.2.2⟩
    have hc14:b=false:=by simpa using hc14
    subst hc14
    simp only[cond_false] at hN hqN
    refine Dg (fun K kk=>by simp[go_sem,H2];(repeat refine aK ?_);refine .o [0,1,4] (hN) ?_;simp[go_sem,H2];exact kk) ?_
    refine B0 H2 ?_
    refine⟨by omega,(N.grp,N.wt,N.lights,y2.2.2.2.1,N.nxt),?_,wk (Fa (Dx ((i2:Int)+1)) H2) [0,1,2,3,4]⟩
    first | exact hy2 | exact⟨by dsimp only;rw[hqN.1];exact hy2.1,hqN.2.1.trans hy2.2.1,hqN.2.2⟩
   refine Bp<|.H1 H2 ?_
   refine⟨by omega,(y2.1,y2.2.1,y2.2.2.1,y2.2.2.2.1,y2.2.2.2.2),?_,wk (Fa (Dx ((i2:Int)+1)) H2) [0,1,2,3,4]⟩
   exact hy2
  refine Bu ?_
  refine⟨(⟨y2.2.2.1,y2.1,y2.2.2.2.2,y2.2.1⟩,true,y2.2.2.2.1),Alw [0,1,2,4] (by simp[go_sem]) (by decide) (F7 rfl) (by simp[go_sem]) ?_,⟨hy2.1.trans hl.symm,hy2.2⟩⟩
  repeat' (first | exact .nil | refine .cons (by simp[go_sem]) ?_)
 refine Bp<|.R<|.block ?_
 refine Bs 2 (fun i3 (y3:Int×Int×(List F0)×(List Int)×Bool×(List Int))=>⟨[(1,.ptr 0 0),(2,.ptr 3 0),(36,.li i3)],bif y3.2.2.2.2.1 then [.box 133 [.own 1 y3.2.2.1.length,.li y3.1,.own 4 y3.2.2.2.1.length,.li y3.2.1],.row 185 2 false false (Iv y3.2.2.1),.row 3 1 false false (tI y3.2.2.2.2.2),.box 88 (j.a false),.row 3 1 false false (tI y3.2.2.2.1)] else [.box 133 [.own 1 y3.2.2.1.length,.li y3.1,.own 2 y3.2.2.2.1.length,.li y3.2.1],.row 185 2 false false (Iv y3.2.2.1),.row 3 1 false false (tI y3.2.2.2.1),.box 88 (j.a false)]⟩) (fun i3 y3=>y3.2.2.1.length=j.phs.length/\y3.2.1=c.wt/\Ud j y3.2.2.2.1) (c.grp,c.wt,c.lights,c.nxt,false,[]) (wk Dz [0,1,2,3]) (⟨hl,rfl,hn⟩) fun i3 y3 hi3 hy3=>?_
 cases hb3:y3.2.2.2.2.1
 ·
  simp only[hb3,cond_false]
  refine Bq<|.seq ?_
  refine Br ?_ ?_<;>intro h37
  ·refine Bp<|.seq<|.block<|.R ?_
   first | (have hnl1:=hy2.2.2.len;have hll1:=hy2.1) | (have hnl1:=hy3.2.2.len;have hll1:=hy3.1)
   obtain⟨e3,H3⟩:=gx y3.2.2.2.1 i3
   obtain⟨Y4,cY4,qY4⟩:=Ep (Py j ⟨y3.2.2.1,y3.1,y3.2.2.2.1,y3.2.1⟩ i3 (by assumption) (by assumption))
   refine Db H3 cY4 ?_
   refine Br ?_ ?_<;>intro h54
   ·have hp:0<=e3/\e3<j.phs.length:=by (have hq:=Ud.ok (by exact hy3.2.2) _ (Ac H3);rcases hq with hq | hq;exact absurd hq h54.2;exact hq)
    obtain⟨⟨N,b,o⟩,hN,hqN⟩:=I7 j ⟨y3.2.2.1,y3.1,y3.2.2.2.1,y3.2.1⟩ e3 hj (by exact hy3.1) (by exact hy3.2.2) hp.1 hp.2
    by_cases hc14:b=true
    ·subst hc14
     simp only[cond_true] at hN hqN
     refine Dg (fun K kk=>by simp[go_sem,H3];(repeat refine aK ?_);refine .o [0,1,2] (hN) ?_;simp[go_sem,H3];exact kk) ?_
     refine B0 H3 ?_
     refine⟨by omega,(N.grp,N.wt,N.lights,N.nxt,true,o),?_,wk (Fa (Dx ((i3:Int)+1)) H3) [0,1,2,3,4]⟩
     first | exact hy3 | exact⟨by dsimp only;rw[hqN.1];exact hy3.1,hqN.2.1.trans hy3.2.1,hqN.2.2⟩
    have hc14:b=false:=by simpa using hc14
    subst hc14
    simp only[cond_false] at hN hqN
    refine Dg (fun K kk=>by simp[go_sem,H3];(repeat refine aK ?_);refine .o [0,1,2] (hN) ?_;simp[go_sem,H3];exact kk) ?_
    refine B0 H3 ?_
    refine⟨by omega,(N.grp,N.wt,N.lights,N.nxt,false,[]),?_,wk (Fa (Dx ((i3:Int)+1)) H3) [0,1,2,3]⟩
    first | exact hy3 | exact⟨by dsimp only;rw[hqN.1];exact hy3.1,hqN.2.1.trans hy3.2.1,hqN.2.2⟩
   refine Bp<|.H1 H3 ?_
   refine⟨by omega,(y3.1,y3.2.1,y3.2.2.1,y3.2.2.2.1,false,[]),?_,wk (Fa (Dx ((i3:Int)+1)) H3) [0,1,2,3]⟩
   exact hy3
  refine Bu ?_
  refine⟨(⟨y3.2.2.1,y3.1,y3.2.2.2.1,y3.2.1⟩,false,[]),Alw [0,1,2] (by simp[go_sem]) (by decide) (F7 rfl) (by simp[go_sem]) ?_,⟨hy3.1.trans hl.symm,hy3.2⟩⟩
  repeat' (first | exact .nil | refine .cons (by simp[go_sem]) ?_)
 -- the row is a new one
 simp only[hb3,cond_true]
 refine Bq<|.seq ?_
 refine Br ?_ ?_<;>intro h37
 ·refine Bp<|.seq<|.block<|.R ?_
  first | (have hnl1:=hy2.2.2.len;have hll1:=hy2.1) | (have hnl1:=hy3.2.2.len;have hll1:=hy3.1)
  obtain⟨e4,H4⟩:=gx y3.2.2.2.1 i3
  obtain⟨Y5,cY5,qY5⟩:=Ep (Py j ⟨y3.2.2.1,y3.1,y3.2.2.2.1,y3.2.1⟩ i3 (by assumption) (by assumption))
  refine Db H4 cY5 ?_
  refine Br ?_ ?_<;>intro h54
  ·have hp:0<=e4/\e4<j.phs.length:=by (have hq:=Ud.ok (by exact hy3.2.2) _ (Ac H4);rcases hq with hq | hq;exact absurd hq h54.2;exact hq)
   obtain⟨⟨N,b,o⟩,hN,hqN⟩:=I7 j ⟨y3.2.2.1,y3.1,y3.2.2.2.1,y3.2.1⟩ e4 hj (by exact hy3.1) (by exact hy3.2.2) hp.1 hp.2
   by_cases hc14:b=true
   ·subst hc14
    simp only[cond_true] at hN hqN
    refine Dg (fun K kk=>by simp[go_sem,H4];(repeat refine aK ?_);refine .o [0,1,4] (hN) ?_;simp[go_sem,H4];exact kk) ?_
    refine B0 H4 ?_
    refine⟨by omega,(N.grp,N.wt,N.lights,N.nxt,true,y3.2.2.2.2.2),?_,wk (Fa (Dx ((i3:Int)+1)) H4) [0,1,2,3,5]⟩
    first | exact hy3 | exact⟨by dsimp only;rw[hqN.1];exact hy3.1,hqN.2.1.trans hy3.2.1,hqN.2.2⟩
   have hc14:b=false:=by simpa using hc14
   subst hc14
   simp only[cond_false] at hN hqN
   refine Dg (fun K kk=>by simp[go_sem,H4];(repeat refine aK ?_);refine .o [0,1,4] (hN) ?_;simp[go_sem,H4];exact kk) ?_
   refine B0 H4 ?_
   refine⟨by omega,(N.grp,N.wt,N.lights,N.nxt,true,y3.2.2.2.2.2),?_,wk (Fa (Dx ((i3:Int)+1)) H4) [0,1,2,3,4]⟩
   first | exact hy3 | exact⟨by dsimp only;rw[hqN.1];exact hy3.1,hqN.2.1.trans hy3.2.1,hqN.2.2⟩
  refine Bp<|.H1 H4 ?_
  refine⟨by omega,(y3.1,y3.2.1,y3.2.2.1,y3.2.2.2.1,true,y3.2.2.2.2.2),?_,wk (Fa (Dx ((i3:Int)+1)) H4) [0,1,2,3,4]⟩
  exact hy3
 refine Bu ?_
 refine⟨(⟨y3.2.2.1,y3.1,y3.2.2.2.1,y3.2.1⟩,true,y3.2.2.2.2.2),Alw [0,1,2,4] (by simp[go_sem]) (by decide) (F7 rfl) (by simp[go_sem]) ?_,⟨hy3.1.trans hl.symm,hy3.2⟩⟩
 repeat' (first | exact .nil | refine .cons (by simp[go_sem]) ?_)
theorem Aak (j:F9) (r g:Int):∀(i:Nat) (x:Int),x∈Kn j r g i->0<=x/\x<i
 | 0,x,h=>by simp[Kn] at h
 | i+1,x,h=>by
  unfold Kn at h
  split at h
  ·rcases A0.1 h with h | h
   ·have:=Aak j r g i x h;omega
   simp at h;omega
  have:=Aak j r g i x h;omega
theorem Aw5 {j:F9} {r g x:Int} (h:x∈Aou j r g):0<=x/\x<j.phs.length:=Aak j r g _ x h
section
variable (c:List Int) (s:Int) (hl:c.length<=1000000)
include s hl
theorem Wr:∃res,PP 220 [] [.mI c,.li s] [] res/\IsD (fun d:Int×Int=>.tup [.li d.1,.li d.2]) (fun _=>True) res:=by
 obtain⟨res,h,a,b,rfl⟩:=Af4 c s hl
 exact⟨_,h,(a,b),rfl,trivial⟩
def Xs:Int×Int:=(Ep (Wr c s hl)).choose
theorem Age:PP 220 [] [.mI c,.li s] [] (.tup [.lit (.int .i64 (Xs c s hl).1),.lit (.int .i64 (Xs c s hl).2)]):=(Ep (Wr c s hl)).choose_spec.1
end
theorem Anb (j:F9) (hj:Ou j):Ct 83 [j.g] (fun d:Ok=>d.g) (fun d=>d.lights.length=j.phs.length/\Ud j d.nxt):=by
 refine Ex Tryz.func83 ?_
 have hjl:=hj.len
 refine Bq ?_
 refine C3 Dz ?_
 obtain⟨E,hE,hqE⟩:=Ro j ⟨List.replicate j.phs.length ⟨0,0⟩,0,[],j.start⟩ 0 hj
 refine Cl 3 2 3 1 (by decide) rfl rfl ?_
 simp[go_sem,-Prod.exists]
 refine Cw 2 rfl ?_
 simp[go_sem,-Prod.exists]
 refine Cw 4 rfl ?_
 simp[go_sem,-Prod.exists]
 refine Dc Dz [3,2,4] hE ?_
 refine Bq ?_
 refine B2 Dz 2 ?_
 refine B2 Dz 5 ?_
 exact .ret (fin Dz ⟨E.1.lights,E.1.grp,E.1.nxt,E.1.wt⟩ ⟨by rw[hqE.1];simp,hqE.2.2.2⟩)
section
variable (j:F9) (c:Ok) (hj:Ou j) (h1:c.lights.length<=1000000) (h2:c.nxt.length<=1000000)
include hj h1 h2
theorem Vd:Ct 201 [j.g,c.g] (fun d:Bool=>.lb d) (fun d=>d=true->c.lights.length=j.phs.length/\Ud j c.nxt):=by
 refine Ex Tryz.func201 ?_
 have hjl:=hj.len
 have hjc:=hj.con
 have hpl:∀r g,(Aou j r g).length<=1000000:=fun r g=>Ak (Aal j r g _) hj.len
 refine Bq<|.seq ?_
 refine Bq ?_
 refine Br ?_ ?_<;>intro h23
 ·refine Bq ?_
  exact .ret (fin Dz false (by exact fun h=>Bool.noConfusion h))
 obtain⟨hA,hB⟩:c.lights.length=j.phs.length/\c.nxt.length=2:=by omega
 refine Bp<|.seq<|.R<|.block ?_
 refine Bs j.phs.length (fun i1 (y1:Unit)=>⟨[(2,.ptr 0 0),(3,.ptr 1 0),(25,.mPhase j.phs),(26,.li j.phs.length),(27,.li i1)],[.box 88 (j.a false),.box 133 (c.a false)]⟩) (fun i1 y1=>True) () (wk Dz [0,1]) (trivial) fun i1 y1 hi1 hy1=>?_
 refine Bq<|.seq ?_
 refine Br ?_ ?_<;>intro h28
 ·refine Bp<|.seq<|.block ?_
  obtain⟨e1,H1⟩:=gx j.phs i1
  refine Bt H1 ?_
  obtain⟨e2,H2⟩:=gx c.lights i1
  obtain⟨Y1,cY1,qY1⟩:=Ep (Akx e1 e2)
  refine Db (Fa H1 H2) cY1 ?_
  refine Br ?_ ?_<;>intro h39
  ·refine Bt (Fa H1 H2) ?_
   exact .ret (fin (Fa H1 H2) false (by exact fun h=>Bool.noConfusion h))
  refine Bp<|.H1 (Fa H1 H2) ?_
  exact⟨by omega,(),trivial,wk (Hq (Dx ((i1:Int)+1)) H1 H2) [0,1]⟩
 refine Bu<|.seq ?_
 obtain⟨Y2,cY2,qY2⟩:=Ep (Ap9 c h1)
 refine Cy (fun K kk=>by simp[go_sem];refine .l cY2 ?_;simp[go_sem];refine .l (Age j.con Y2 hjc) ?_;simp[go_sem];exact kk) ?_
 refine Bq ?_
 refine Br ?_ ?_<;>intro h50
 ·refine Bq ?_
  exact .ret (fin Dz false (by exact fun h=>Bool.noConfusion h))
 refine Bp<|.seq ?_
 refine Dh (by kernel_rfl) (by rfl) (by kernel_rfl) fun K1 hK1=>?_
 simp[go_sem]
 refine Nf (by simp[go_sem]) (by simp[go_sem]) ?_
 simp[go_sem]
 obtain⟨Y3,cY3,qY3⟩:=Ep (Wt j hj)
 refine .lo cY3 rfl (by simp[AV.cln,Fu]) ?_
 simp[go_sem]
 refine hK1 _ _ (by kernel_rfl) ?_;clear hK1
 refine Br ?_ ?_<;>intro h60
 ·refine Bq ?_
  exact .ret (fin Dz false (by exact fun h=>Bool.noConfusion h))
 refine Bp<|.seq<|.R<|.block ?_
 refine Bs c.nxt.length (fun i2 (y2:Unit)=>⟨[(2,.ptr 0 0),(3,.ptr 1 0),(62,.mI c.nxt),(63,.li c.nxt.length),(64,.li i2)],[.box 88 (j.a false),.box 133 (c.a false)]⟩) (fun i2 y2=>∀k x,k<i2->c.nxt[k]? = some x->(x = -1\/(0<=x/\x<j.phs.length))) () (wk Dz [0,1]) (fun k x h=>by omega) fun i2 y2 hi2 hy2=>?_
 refine Bq<|.seq ?_
 refine Br ?_ ?_<;>intro h65
 ·refine Bp<|.seq<|.block ?_
  obtain⟨e3,H3⟩:=gx c.nxt i2
  refine Bt H3 ?_
  refine B7 (by rfl) fun K1 hK1=>?_
  simp[go_sem,H3]
  refine Pv ?_
  simp[go_sem,H3]
  refine .lo (Atm j i2 c.grp (by assumption)) rfl (by simp[AV.cln,Fu]) ?_
  simp[go_sem,H3]
  refine Pv ?_
  simp[go_sem,H3]
  obtain⟨Y4,cY4,qY4⟩:=Ep (Aec (Aou j i2 c.grp) e3 (hpl _ _))
  refine .lo cY4 rfl (by simp[AV.cln,Fu]) ?_
  simp[go_sem,H3]
  refine hK1 _ ?_;clear hK1
  refine Br ?_ ?_<;>intro h80
  ·refine Bt H3 ?_
   exact .ret (fin H3 false (by exact fun h=>Bool.noConfusion h))
  refine Bp<|.H1 H3 ?_
  exact⟨by omega,(),(Av0 hy2 H3 (by by_cases he:e3 = -1;exact .inl he;exact .inr (Aw5 (qY4 (by simpa[he] using h80))))),wk (Fa (Dx ((i2:Int)+1)) H3) [0,1]⟩
 refine Bu<|.seq<|.R ?_
 refine Br ?_ ?_<;>intro h91
 ·refine Bq ?_
  exact .ret (fin Dz false (by exact fun h=>Bool.noConfusion h))
 refine Bp ?_
 refine B7 (by rfl) fun K1 hK1=>?_
 simp[go_sem]
 refine Pv ?_
 simp[go_sem]
 obtain⟨Y5,cY5,qY5⟩:=Ep (Y9 c h1)
 refine .lo cY5 rfl (by simp[AV.cln,Fu]) ?_
 simp[go_sem]
 refine hK1 _ ?_;clear hK1
 refine Bz (Fj ?_);simp[go_sem]
 exact⟨_,by rfl,(by first | exact fun h=>Bool.noConfusion h | (refine fun _=>⟨hA,hB,fun x hx=>?_⟩;obtain⟨k,hk⟩:=A3.1 hx;have hk2:=(Ab.1 hk).1;exact hy2 k x (by omega) hk))⟩
def Abh:Bool:=(Ep (Vd j c hj h1 h2)).choose
theorem Aav:PP 201 [] [j.g,c.g] [] (.lb (Abh j c hj h1 h2)):=(Ep (Vd j c hj h1 h2)).choose_spec.1
theorem Al0:(Abh j c hj h1 h2)=true->c.lights.length=j.phs.length/\Ud j c.nxt:=(Ep (Vd j c hj h1 h2)).choose_spec.2
end
theorem Ayk {n:Nat} {f:Nat->Bool} (h:Ox n f=true):∀i,i<n->f i=true:=by
 intro i hi
 exact Am.1 h i (List.mem_range.2 hi)
theorem A0d {j:F9} (h:R7 j=true):Ou j:=by
 simp only[R7,Ah,decide_eq_true_eq] at h
 obtain⟨⟨⟨⟨⟨⟨⟨h1,h2⟩,h3⟩,h4⟩,h5⟩,h6⟩,h7⟩,h8⟩:=h
 have hp:∀p∈j.phs,Jf p=true:=fun p hp=>by
  obtain⟨i,hi⟩:=A3.1 hp
  have:=Ayk h6 i (Ab.1 hi).1
  simpa[Oo,hi] using this
 exact⟨by omega,h1,by omega,fun p hq=>by have:=S9 (hp p hq);omega,fun p hq=>by have:=S9 (hp p hq);omega⟩
theorem Ana (j:F9) (c:Ok) (t:Int) (h1:j.phs.length<=1000000) (h2:j.con.length<=1000000) (h3:c.lights.length<=1000000) (h4:c.nxt.length<=1000000):Ct 175 [j.g,c.g,.li t] (fun d:Ok=>d.g) (fun d=>d=⟨[],0,[],0⟩\/(d.lights.length=j.phs.length/\Ud j d.nxt/\Ou j)):=by
 refine Ex Tryz.func175 ?_
 refine Bq<|.seq ?_
 by_cases hc1:R7 j=true
 ·have hj:=A0d hc1
  have hjl:=hj.len
  have hqv:=Al0 j c hj h3 h4
  refine B7 (by rfl) fun K1 hK1=>?_
  simp[go_sem,hc1]
  refine .l (Qo j (by assumption) (by assumption)) ?_
  simp[go_sem,hc1]
  refine Pv ?_
  simp[go_sem,hc1]
  refine .lo (Aav j c hj h3 h4) rfl (by simp[AV.cln,Fu]) ?_
  simp[go_sem,hc1]
  refine hK1 _ ?_;clear hK1
  refine Br ?_ ?_<;>intro h20
  ·refine Bt hc1 ?_
   exact .ret (fin hc1 ⟨[],0,[],0⟩ (.inl rfl))
  obtain⟨hA,hB⟩:=hqv (by simpa using h20)
  have hBl:=hB.len
  refine Bp<|.E (fun K kk=>by simp[go_sem,hc1];refine .lo (T2 _ (by (simp;omega)) (by (simp[T.plain,F0.t];done))) rfl (by simp[AV.cln,Fu]) ?_;simp[go_sem,hc1];refine .lo (Hm _ (by (simp;omega)) (by (simp[T.plain];done))) rfl (by simp[AV.cln,Fu]) ?_;simp[go_sem,hc1];exact kk)<|.seq ?_
  refine Bt hc1 ?_
  refine Br ?_ ?_<;>intro h35
  ·refine Bt hc1 ?_
   refine Bt hc1 ?_
   refine B2 Dz 3 ?_
   refine B2 Dz 4 ?_
   exact .ret (fin hc1 ⟨c.lights,c.grp,c.nxt,IntKind.i64.wrap (c.wt - 1)⟩ (.inr ⟨hA,hB,hj⟩))
  refine Bp<|.H hc1<|.seq ?_
  refine Bt hc1<|.block ?_
  refine Bs j.phs.length (fun i1 (y1:(List F0)×(List Int))=>⟨[(2,.li t),(3,.ptr 0 0),(4,.ptr 1 0),(6,.ptr 2 0),(7,.ptr 5 0),(8,.lb (decide ((0:Int)<=t)&&decide (t<(j.phs.length:Int)))),(51,.mPhase j.phs),(52,.li j.phs.length),(53,.li i1)],[.box 88 (j.a false),.box 133 (c.a false),.box 133 [.nil 2,.li 0,.nil 1,.li 0],.row 185 2 false false (Iv y1.1),.row 3 1 false false (tI y1.2),.box 133 [.own 3 y1.1.length,.li c.grp,.own 4 y1.2.length,.li c.wt]]⟩) (fun i1 y1=>y1.1.length=j.phs.length/\y1.2=c.nxt) (c.lights,c.nxt) (wk hc1 [0,1,2,3,4,5]) (⟨hA,rfl⟩) fun i1 y1 hi1 hy1=>?_
  refine Bt hc1<|.seq ?_
  refine Br ?_ ?_<;>intro h54
  ·refine Bp<|.seq<|.block ?_
   obtain⟨e1,H1⟩:=gx j.phs i1
   refine Bt (Fa hc1 H1) ?_
   obtain⟨e2,H2⟩:=gx c.lights i1
   refine C3 (Hq hc1 H1 H2)<|.seq ?_
   refine Bt (Hq hc1 H1 H2) ?_
   refine Br ?_ ?_<;>intro h68
   ·refine C5 (by rfl) fun K1 hK1=>?_
    simp +contextual[go_sem,hc1,H1,H2]
    refine Pv ?_
    simp +contextual[go_sem,hc1,H1,H2]
    refine .lo (Io j.con i1 t (by assumption)) rfl (by simp[AV.cln,Fu]) ?_
    simp +contextual[go_sem,hc1,H1,H2]
    refine hK1 _ ?_;clear hK1
    obtain⟨e3,H3⟩:=gx y1.1 i1
    refine Dg (fun K kk=>by simp[go_sem,hc1,H1,H2,H3];(repeat refine aK ?_);refine .lo (Ans e1 e2 _) rfl (by simp[AV.cln,Fu]) ?_;simp[go_sem,hc1,H1,H2,H3];(repeat first | exact kk | refine aK ?_)) ?_
    refine Ds 3 rfl (by simp) F0.t j.phs.length ?_ fun R hR=>?_
    ·apply Lf
     ·repeat' first | exact Nk | exact Nj | exact Ni (x:=(⟨0,0⟩:F0)) rfl | apply Lb | apply Ld | apply Lc | apply Rf | apply (fun h=>Re (x:=(⟨_,_⟩:F0)) h rfl)
     first | rfl | omega
    simp[go_sem,-Prod.exists]
    refine B0 (X9 hc1 H1 H2 H3 hR) ?_
    refine⟨by omega,(R,y1.2),?_,wQ [0,1,2,3,4,5] ?_ ?_⟩
    ·exact⟨hR,hy1.2⟩
    all_goals simp[go_sem,Dx ((i1:Int)+1),hc1,H1,H2,H3,hR,hy1.1]
   refine Bp ?_
   obtain⟨e4,H4⟩:=gx y1.1 i1
   obtain⟨Y1,cY1,qY1⟩:=Ep (Wv e1 e2 (decide ((e1.ma:Int)<=(IntKind.i64.wrap (e2.n+1)))))
   refine Cp (Tf hc1 H1 H2 H4) cY1 ?_
   refine Ds 3 rfl (by simp) F0.t j.phs.length ?_ fun R hR=>?_
   ·apply Lf
    ·repeat' first | exact Nk | exact Nj | exact Ni (x:=(⟨0,0⟩:F0)) rfl | apply Lb | apply Ld | apply Lc | apply Rf | apply (fun h=>Re (x:=(⟨_,_⟩:F0)) h rfl)
    first | rfl | omega
   simp[go_sem,-Prod.exists]
   refine B0 (X9 hc1 H1 H2 H4 hR) ?_
   refine⟨by omega,(R,y1.2),?_,wQ [0,1,2,3,4,5] ?_ ?_⟩
   ·exact⟨hR,hy1.2⟩
   all_goals simp[go_sem,Dx ((i1:Int)+1),hc1,H1,H2,H4,hR,hy1.1]
  refine Bu<|.seq<|.H hc1 ?_
  refine Br ?_ ?_<;>intro h95
  ·obtain⟨⟨N,b,o⟩,hN,hqN⟩:=Af2 j ⟨y1.1,c.grp,y1.2,c.wt⟩ t hj hy1.1 (hy1.2.symm▸hB) (by omega) (by omega)
   by_cases hc17:b=true
   ·subst hc17
    simp only[cond_true] at hN hqN
    refine Cw 3 rfl ?_
    simp[go_sem,-Prod.exists,hc1]
    refine Cw 4 rfl ?_
    simp[go_sem,-Prod.exists,hc1]
    refine C8 hc1 [5,3,4] hN ?_
    refine Bt hc1 ?_
    refine B2 Dz 3 ?_
    refine B2 Dz 6 ?_
    exact .ret (fin hc1 ⟨N.lights,N.grp,N.nxt,N.wt⟩ (.inr ⟨hqN.1.trans hy1.1,hqN.2.2,hj⟩))
   have hc17:b=false:=by simpa using hc17
   subst hc17
   simp only[cond_false] at hN hqN
   refine Cw 3 rfl ?_
   simp[go_sem,-Prod.exists,hc1]
   refine Cw 4 rfl ?_
   simp[go_sem,-Prod.exists,hc1]
   refine C8 hc1 [5,3,4] hN ?_
   refine Bt hc1 ?_
   refine B2 Dz 3 ?_
   refine B2 Dz 4 ?_
   exact .ret (fin hc1 ⟨N.lights,N.grp,N.nxt,N.wt⟩ (.inr ⟨hqN.1.trans hy1.1,hqN.2.2,hj⟩))
  obtain⟨⟨N,b,o⟩,hN,hqN⟩:=Af3 j ⟨y1.1,c.grp,y1.2,c.wt⟩ hj hy1.1 (hy1.2.symm▸hB)
  by_cases hc18:b=true
  ·subst hc18
   simp only[cond_true] at hN hqN
   refine Cw 3 rfl ?_
   simp[go_sem,-Prod.exists,hc1]
   refine Cw 4 rfl ?_
   simp[go_sem,-Prod.exists,hc1]
   refine C8 hc1 [5,3,4] hN ?_
   refine Bt hc1 ?_
   refine B2 Dz 3 ?_
   refine B2 Dz 6 ?_
   exact .ret (fin hc1 ⟨N.lights,N.grp,N.nxt,N.wt⟩ (.inr ⟨hqN.1.trans hy1.1,hqN.2.2,hj⟩))
  have hc18:b=false:=by simpa using hc18
  subst hc18
  simp only[cond_false] at hN hqN
  refine Cw 3 rfl ?_
  simp[go_sem,-Prod.exists,hc1]
  refine Cw 4 rfl ?_
  simp[go_sem,-Prod.exists,hc1]
  refine C8 hc1 [5,3,4] hN ?_
  refine Bt hc1 ?_
  refine B2 Dz 3 ?_
  refine B2 Dz 4 ?_
  exact .ret (fin hc1 ⟨N.lights,N.grp,N.nxt,N.wt⟩ (.inr ⟨hqN.1.trans hy1.1,hqN.2.2,hj⟩))
 have hcf:R7 j=false:=by simpa using hc1
 refine B7 (by rfl) fun K1 hK1=>?_
 simp[go_sem,hc1,hcf]
 refine .l (Qo j (by assumption) (by assumption)) ?_
 simp[go_sem,hc1,hcf]
 refine Pv ?_
 simp[go_sem,hc1,hcf]
 first | refine .lo (Aav j c hj h3 h4) rfl (by simp[AV.cln,Fu]) ?_ | refine .skip ?_
 simp[go_sem,hc1,hcf]
 refine hK1 _ ?_;clear hK1
 refine Cs ?_ ?_<;>intro h20<;>simp[go_sem] at h20
 refine Bt (Fa hc1 hcf) ?_
 exact .ret (fin (Fa hc1 hcf) ⟨[],0,[],0⟩ (.inl rfl))
theorem A3l:tok Tryz.prog 306=true/\Ux Tryz.prog 306=false/\Gj Tryz.prog 306=1/\zok Tryz.prog 306=true/\Hj Tryz.prog 306=[.lit .nilFunc]:=⟨by kernel_rfl,by kernel_rfl,by kernel_rfl,by kernel_rfl,by kernel_rfl⟩
attribute [go_sem] A3l
theorem A3x:tok Tryz.prog 169=true/\Ux Tryz.prog 169=false/\Gj Tryz.prog 169=1/\zok Tryz.prog 169=true/\Hj Tryz.prog 169=[.lit .nilFunc]:=⟨by kernel_rfl,by kernel_rfl,by kernel_rfl,by kernel_rfl,by kernel_rfl⟩
attribute [go_sem] A3x
theorem Asl (ts:List T) (off:Nat):Abz [.iptr false ts off]:=by
 constructor<;>intros<;>first | rfl | exact⟨trivial,trivial⟩
theorem Ww (j:F9) (hj:Ou j):Ct 56 [j.g] (fun d:Ib=>d.g) (fun d=>d.lat=false/\d.ctl.lights.length=j.phs.length/\d.ctl.nxt.length=2):=by
 refine Ex Tryz.func56 ?_
 obtain⟨Y1,cY1,qY1⟩:=Ep (Anb j hj)
 have hq:=qY1
 refine Bq ?_
 refine B8 Dz cY1 ?_
 exact .ret (fin Dz ⟨Y1,false⟩ ⟨rfl,hq.1,hq.2.len⟩)
theorem Ace (j:F9) (s:Ib) (hj:Ou j) (hj8:j.phs.length<=8) (h1:s.ctl.lights.length<=8) (h2:s.ctl.nxt.length<=2):Ct 96 [j.g,s.g] (fun d:Ib×Bool=>.tup [d.1.g,.lb d.2]) (fun d=>d.1.ctl.lights.length<=8/\d.1.ctl.nxt.length<=2):=by
 refine Ex Tryz.func96 ?_
 have h1M:s.ctl.lights.length<=1000000:=by omega
 have h2M:s.ctl.nxt.length<=1000000:=by omega
 obtain⟨Y1,cY1,qY1⟩:=Ep (Ww j hj)
 have hq:=qY1
 refine Bq<|.seq ?_
 refine Bq ?_
 refine Br ?_ ?_<;>intro h7
 ·refine B8 Dz cY1 ?_
  exact .ret (fin Dz (Y1,true) ⟨by rw[hq.2.1];exact hj8,by rw[hq.2.2];decide⟩)
 refine Bp<|.L Dz (Uu s h1M h2M) ?_
 exact .ret (fin Dz (s,false) ⟨h1,h2⟩)
section
variable (j:F9) (s:Ib) (t:Int) (k:Int) (hj8:j.phs.length<=8) (hcM:j.con.length<=1000000) (h1:s.ctl.lights.length<=8) (h2:s.ctl.nxt.length<=2)
include t k hj8 hcM h1 h2
theorem Qf:Ct 153 [j.g,s.g,.li t,.li k] (fun d:Ib=>d.g) (fun d=>d.ctl.lights.length<=8/\d.ctl.nxt.length<=2):=by
 refine Ex Tryz.func153 ?_
 have h1M:s.ctl.lights.length<=1000000:=by omega
 have h2M:s.ctl.nxt.length<=1000000:=by omega
 have hjM:j.phs.length<=1000000:=by omega
 refine Bq<|.seq ?_
 refine Bq ?_
 refine Br ?_ ?_<;>intro h12
 ·refine B8 Dz (Uu s h1M h2M) ?_
  exact .ret (fin Dz s ⟨h1,h2⟩)
 obtain⟨Y1,cY1,qY1⟩:=Ep (Ana j s.ctl t hjM hcM h1M h2M)
 have hd:=qY1
 have hv:=cY1
 generalize Y1=D at hd hv
 have hd2:D.lights.length<=8/\D.nxt.length<=2:=by rcases hd with rfl | ⟨q1,q2,q3⟩;exact⟨by simp,by simp⟩;exact⟨by omega,by rw[q2.len];decide⟩
 have hdM:D.lights.length<=1000000:=by omega
 have hsM:(Oc D.lights k hdM).length<=1000000:=by rw[Ag2];exact hdM
 refine Bp<|.L Dz (hv) ?_
 refine B8 Dz (Agc D.lights k hdM) ?_
 obtain⟨Y2,cY2,qY2⟩:=Ep (Yu j.con (Oc D.lights k hdM) hsM hcM)
 refine Db Dz cY2 ?_
 exact .ret (fin Dz ⟨D,Y2⟩ hd2)
def Mz:Ib:=(Ep (Qf j s t k hj8 hcM h1 h2)).choose
theorem Aet:PP 153 [] [j.g,s.g,.li t,.li k] [] (.agg ((Mz j s t k hj8 hcM h1 h2).a false)):=(Ep (Qf j s t k hj8 hcM h1 h2)).choose_spec.1
theorem Ae5:(Mz j s t k hj8 hcM h1 h2).ctl.lights.length<=8/\(Mz j s t k hj8 hcM h1 h2).ctl.nxt.length<=2:=(Ep (Qf j s t k hj8 hcM h1 h2)).choose_spec.2
end
section
variable (s:Fx) (h:s.ended.length<=1000000)
include h
theorem Yv:∃d:Fx,PP 90 [] [s.g] [.row 3 1 false false (tI d.ended)] (.agg [.li d.ph,.li d.gr,.own 0 d.ended.length])/\(d=s):=by
 refine Oh (D:=Fx) (F:=fun d=>.agg [.li d.ph,.li d.gr,.own 0 d.ended.length]) (S:=fun d=>[.row 3 1 false false (tI d.ended)]) (Q:=fun d=>d=s) Tryz.func90 rfl rfl rfl (by simp[Tryz.ntmps90]) ?_
 refine Bq ?_
 refine B3 (fun K kk=>by simp[go_sem];refine .lo (Hm _ (by (simp;omega)) (by (simp[T.plain];done))) rfl (by simp[AV.cln,Fu]) ?_;simp[go_sem];exact kk) ?_
 refine Bq ?_
 exact .ret ⟨⟨s.ph,s.gr,s.ended⟩,rW Dz [2],rfl⟩
theorem Z5:PP 90 [] [s.g] [.row 3 1 false false (tI s.ended)] (.agg [.li s.ph,.li s.gr,.own 0 (s.ended).length]):=by
 obtain⟨Y1,cY1,qY1⟩:=Yv s h
 have:=cY1
 rwa[qY1] at this
end
section
variable (s:Fx) (now:Int) (h:s.ended.length<=1000000)
include now h
theorem Pr:Ct 151 [s.g,.li now] (fun d:Fx=>d.g) (fun d=>d.ended.length=s.ended.length):=by
 refine Ex Tryz.func151 ?_
 refine Bq ?_
 refine B8 Dz (Z5 s h)<|.seq ?_
 refine Bq ?_
 refine Br ?_ ?_<;>intro h22
 ·obtain⟨e1,H1⟩:=gx s.ended s.ph.toNat
  refine B0 H1 ?_
  refine Bt H1 ?_
  refine Bt H1 ?_
  refine B2 Dz 2 ?_
  exact .ret (fin H1 ⟨(-1),0,(s.ended).set s.ph.toNat now⟩ (by first | rfl | (simp;done)))
 refine Bp<|.R ?_
 refine Bq ?_
 refine B2 Dz 2 ?_
 exact .ret (fin Dz ⟨(-1),0,s.ended⟩ (by rfl))
def Pu:Fx:=(Ep (Pr s now h)).choose
theorem Zi:PP 151 [] [s.g,.li now] [] (.agg ((Pu s now h).a false)):=(Ep (Pr s now h)).choose_spec.1
theorem Zm:(Pu s now h).ended.length=s.ended.length:=(Ep (Pr s now h)).choose_spec.2
end
theorem Uv (s:Fx) (c:Fe):PP 195 [] [c.g,.iptr false [.li s.ph,.li s.gr,.sl 1 (tI s.ended)] 0] [] (.lb (c.ph == s.ph)):=by
 refine Em Tryz.func195 ?_
 iterate 2 refine Bw ?_
 exact .ret (rL Dz)
theorem Acp (s:Fx) (c:Fe):PP 196 [] [c.g,.iptr false [.fn 195 [.li s.ph,.li s.gr,.sl 1 (tI s.ended)] 0] 0] [] (.lb (c.ph == s.ph&&Ph c)):=by
 refine Em Tryz.func196 ?_
 refine Bw ?_
 refine Ce (fun K kk=>by simp[go_sem];refine .l (Uv s c) ?_;simp[go_sem];refine Pv ?_;simp[go_sem];refine .l (Jw c) ?_;simp[go_sem];exact kk) ?_
 exact .ret (rL Dz)
theorem Af5 (g:E5) (s:Fx) (l:List Fe) (hl:l.length<=1000000):Ct 173 [g.g,s.g,.mClaim l] (fun d:Bool=>.lb d) (fun d=>True):=by
 refine Ex Tryz.func173 ?_
 refine Bq ?_
 refine VX.sel1 1 rfl rfl (by simp) ?_
 simp[go_sem,-Prod.exists]
 refine Bq ?_
 refine VX.sel1 2 rfl rfl (by simp) ?_
 simp[go_sem,-Prod.exists]
 refine Bq ?_
 refine B7 (by rfl) fun K1 hK1=>?_
 simp +contextual[go_sem]
 refine .lo (La l _ [.iptr false [.li s.ph,.li s.gr,.sl 1 (tI s.ended)] 0] (fun c:Fe=>c.ph == s.ph) hl (Asl _ _) (Uv s)) (by simp[go_sem]) (by simp[AV.cln,Fu]) ?_
 simp +contextual[go_sem]
 refine Pv ?_
 simp +contextual[go_sem]
 refine .lo (La l _ [] Ph hl Uy Jw) rfl (by simp[AV.cln,Fu]) ?_
 simp +contextual[go_sem]
 refine Pv ?_
 simp +contextual[go_sem]
 refine .lo (La l _ [.iptr false [.fn 195 [.li s.ph,.li s.gr,.sl 1 (tI s.ended)] 0] 0] (fun c:Fe=>c.ph == s.ph&&Ph c) hl (Asl _ _) (Acp s)) rfl (by simp[AV.cln,Fu]) ?_
 simp +contextual[go_sem]
 refine hK1 _ ?_;clear hK1
 refine Bz (Fj ?_);simp[go_sem]
 exact⟨_,by rfl,trivial⟩
section
variable (g:E5) (s:Fx) (l:List Fe) (now:Int) (h:s.ended.length<=1000000) (hl:l.length<=1000000)
include g now h hl
theorem O7:Ct 152 [g.g,s.g,.mClaim l,.li now] (fun d:Fx=>d.g) (fun d=>d.ended.length=s.ended.length):=by
 refine Ex Tryz.func152 ?_
 refine Bq ?_
 refine B8 Dz (Ls s h)<|.seq ?_
 refine B7 (by rfl) fun K1 hK1=>?_
 simp[go_sem]
 refine Pv ?_
 simp[go_sem]
 obtain⟨Y1,cY1,qY1⟩:=Ep (Af5 g s l hl)
 refine .lo cY1 rfl (by simp[AV.cln,Fu]) ?_
 simp[go_sem]
 refine hK1 _ ?_;clear hK1
 refine Br ?_ ?_<;>intro h20
 ·obtain⟨Y2,cY2,qY2⟩:=Ep (Pr s now h)
  refine Dj Dz cY2<|.seq ?_
  refine Bq ?_
  refine Br ?_ ?_<;>intro h26
  ·obtain⟨B,hvb⟩:∃B:Int,PP 174 [] [g.g,.agg (Fx.a false Y2),.li now,.mClaim l] [] (.li B):=⟨_,Adn g Y2 now l hl⟩
   refine B8 Dz (hvb) ?_
   refine Bq ?_
   refine Br ?_ ?_<;>intro h39
   ·obtain⟨e1,H1⟩:=gx l B.toNat
    refine B0 H1 ?_
    refine Bt H1 ?_
    exact .ret (fin H1 ⟨e1.ph,0,Y2.ended⟩ (by first | rfl | exact qY2))
   refine Bp<|.R ?_
   exact .ret (fin Dz Y2 (by first | rfl | exact qY2))
  refine Bp<|.R ?_
  exact .ret (fin Dz Y2 (by first | rfl | exact qY2))
 refine Bp<|.seq<|.R ?_
 refine Br ?_ ?_<;>intro h26
 ·obtain⟨B,hvb⟩:∃B:Int,PP 174 [] [g.g,.agg (Fx.a false s),.li now,.mClaim l] [] (.li B):=⟨_,Adn g s now l hl⟩
  refine B8 Dz (hvb) ?_
  refine Bq ?_
  refine Br ?_ ?_<;>intro h39
  ·obtain⟨e2,H2⟩:=gx l B.toNat
   refine B0 H2 ?_
   refine Bt H2 ?_
   exact .ret (fin H2 ⟨e2.ph,0,s.ended⟩ (by rfl))
  refine Bp<|.R ?_
  exact .ret (fin Dz s (by rfl))
 refine Bp<|.R ?_
 exact .ret (fin Dz s (by rfl))
def Pi:Fx:=(Ep (O7 g s l now h hl)).choose
theorem Acq:PP 152 [] [g.g,s.g,.mClaim l,.li now] [] (.agg ((Pi g s l now h hl).a false)):=(Ep (O7 g s l now h hl)).choose_spec.1
theorem Acz:(Pi g s l now h hl).ended.length=s.ended.length:=(Ep (O7 g s l now h hl)).choose_spec.2
end
section
variable (g:E5) (j:F9) (s:Ib) (v:Fx) (l:List Fe) (k:Int) (now:Int) (hj8:j.phs.length<=8) (hcM:j.con.length<=1000000) (h1:s.ctl.lights.length<=8) (h2:s.ctl.nxt.length<=2) (h3:v.ended.length<=1000000) (hl:l.length<=1000000)
include g k now hj8 hcM h1 h2 h3 hl
theorem Vg:Ct 127 [g.g,j.g,s.g,v.g,.mClaim l,.li k,.li now] (fun d:Ib×Fx=>.tup [d.1.g,d.2.g]) (fun d=>d.1.ctl.lights.length<=8/\d.1.ctl.nxt.length<=2/\d.2.ended.length=v.ended.length):=by
 refine Ex Tryz.func127 ?_
 have h1M:s.ctl.lights.length<=1000000:=by omega
 have h2M:s.ctl.nxt.length<=1000000:=by omega
 have hqv:=Acz g v l now h3 hl
 have hvv:=Acq g v l now h3 hl
 generalize Pi g v l now h3 hl=D at hqv hvv
 have hDM:D.ended.length<=1000000:=by omega
 refine Bq<|.seq ?_
 refine Bq ?_
 refine Br ?_ ?_<;>intro h19
 ·refine Cy (fun K kk=>by simp[go_sem];refine .l (Qp s h1M h2M) ?_;simp[go_sem];refine .l (Zi v now h3) ?_;simp[go_sem];exact kk) ?_
  refine Bz (Fj ?_);simp[go_sem]
  exact⟨(s,(Pu v now h3)),by rfl,⟨h1,h2,Zm v now h3⟩⟩
 refine Bp<|.S (fun K kk=>by simp[go_sem];refine .l (hvv) ?_;simp[go_sem];exact kk) ?_
 have hqs:=Ae5 j s D.ph k hj8 hcM h1 h2
 have hvs:=Aet j s D.ph k hj8 hcM h1 h2
 generalize Mz j s D.ph k hj8 hcM h1 h2=G at hqs hvs
 refine B3 (fun K kk=>by simp[go_sem];refine .l (hvs) ?_;simp[go_sem];exact kk)<|.seq ?_
 refine Bq ?_
 refine Br ?_ ?_<;>intro h37
 ·refine Cy (fun K kk=>by simp[go_sem];refine .l (Zi D now hDM) ?_;simp[go_sem];exact kk) ?_
  refine Bz (Fj ?_);simp[go_sem]
  exact⟨(G,(Pu D now hDM)),by rfl,⟨hqs.1,hqs.2,(Zm D now hDM).trans hqv⟩⟩
 refine Bp<|.R ?_
 by_cases hc8:0<=D.ph/\D.ph<G.ctl.lights.length
 ·have hg1:(0:Int)<=D.ph:=hc8.1
  have hg2:D.ph<(G.ctl.lights.length:Int):=hc8.2
  obtain⟨e1,H1⟩:=gx G.ctl.lights D.ph.toNat
  refine B3 (fun K kk=>by simp[go_sem,hg1,hg2,H1];repeat first | exact kk | refine aK ?_) ?_
  refine Cy (fun K kk=>by simp[go_sem,hg1,hg2,H1];refine .lo (Wh D _ hDM) rfl (by simp[AV.cln,Fu]) ?_;simp[go_sem,hg1,hg2,H1];exact kk) ?_
  refine Bz (Fj ?_);simp[go_sem,hg1,hg2,H1]
  exact⟨(G,(M0 D _ hDM)),by rfl,⟨hqs.1,hqs.2,by rw[Wj];exact hqv⟩⟩
 have hgf:(decide ((0:Int)<=D.ph)&&decide (D.ph<(G.ctl.lights.length:Int)))=false:=by simpa using hc8
 refine B3 (fun K kk=>by simp[go_sem,hgf];repeat first | exact kk | refine aK ?_) ?_
 refine Cy (fun K kk=>by simp[go_sem,hgf];refine .lo (Wh D _ hDM) rfl (by simp[AV.cln,Fu]) ?_;simp[go_sem,hgf];exact kk) ?_
 refine Bz (Fj ?_);simp[go_sem,hgf]
 exact⟨(G,(M0 D _ hDM)),by rfl,⟨hqs.1,hqs.2,by rw[Wj];exact hqv⟩⟩
def Lv:Ib×Fx:=(Ep (Vg g j s v l k now hj8 hcM h1 h2 h3 hl)).choose
theorem Ale:PP 127 [] [g.g,j.g,s.g,v.g,.mClaim l,.li k,.li now] [] (.tup [.agg ((Lv g j s v l k now hj8 hcM h1 h2 h3 hl).1.a false),.agg ((Lv g j s v l k now hj8 hcM h1 h2 h3 hl).2.a false)]):=(Ep (Vg g j s v l k now hj8 hcM h1 h2 h3 hl)).choose_spec.1
theorem Al3:(Lv g j s v l k now hj8 hcM h1 h2 h3 hl).1.ctl.lights.length<=8/\(Lv g j s v l k now hj8 hcM h1 h2 h3 hl).1.ctl.nxt.length<=2/\(Lv g j s v l k now hj8 hcM h1 h2 h3 hl).2.ended.length=v.ended.length:=(Ep (Vg g j s v l k now hj8 hcM h1 h2 h3 hl)).choose_spec.2
end
section
variable {l:List Int}
theorem By.drop (h:By l) (n:Nat):By (l.drop n):=fun x hx=>h x (Ay hx)
theorem By.take (h:By l) (n:Nat):By (l.take n):=fun x hx=>h x (Aq hx)
variable {b:List Int}
theorem Ra (hb:By b) (h:(Eh b).2.2=true):1<=(Eh b).2.1/\(Eh b).2.1<=b.length:=by
 unfold Eh at h ⊢
 split
 ·simp at h
 ·split<;>simp_all
 rename_i b0 b1 r
 split
 ·simp;omega
 rename_i h1
 simp only[h1,if_false] at h
 split
 ·rename_i b2 b3 b4 b5 r
  simp only at h ⊢
  have h4:=hb b4 (by simp)
  have h5:=hb b5 (by simp)
  by_cases hn:200<b4*256+b5
  ·simp[hn];omega
  rw[if_neg hn] at h ⊢
  by_cases hl:(r.length:Int)<b4*256+b5+4
  ·rw[if_pos hl] at h;simp at h
  rw[if_neg hl] at h ⊢
  repeat' split
  all_goals simp
  all_goals omega
 simp at h
def I8 (b:List Int):List Int:=b.drop (Eh b).2.1.toNat
def Ij (b:List Int):Nat->List Int
 | 0=>b
 | k+1=>I8 (Ij b k)
def Aaj:Nat->List Int->List (E8×Int)
 | 0,_=>[]
 | n+1,b=>if (Eh b).2.2 then ((Eh b).1,(Eh b).2.1)::Aaj n (I8 b) else []
def Kv (b:List Int):List (E8×Int):=Aaj b.length b
def Zn (b:List Int):Nat->Int
 | 0=>0
 | k+1=>Zn b k+(Eh (Ij b k)).2.1
theorem Xz (b:List Int):∀k,Ij (I8 b) k=Ij b (k+1)
 | 0=>rfl
 | k+1=>by rw[Ij,Xz b k];rfl
theorem Yn {b:List Int} (h:By b):∀k,By (Ij b k)
 | 0=>h
 | k+1=>(Yn h k).drop _
theorem X0:∀(n:Nat) (b:List Int) (k:Nat) (x:E8×Int),(Aaj n b)[k]? = some x->(Eh (Ij b k)).2.2=true/\x=((Eh (Ij b k)).1,(Eh (Ij b k)).2.1)
 | 0,b,k,x,h=>by simp[Aaj] at h
 | n+1,b,k,x,h=>by
  unfold Aaj at h
  split at h
  ·rename_i hp
   cases k with
   | zero=>simp at h;exact⟨hp,h.symm⟩
   | succ k =>
    simp at h
    have:=X0 n (I8 b) k x h
    rwa[Xz] at this
  simp at h
theorem Aai {b:List Int} (hb:By b):∀(k:Nat),(∀j,j<k->(Eh (Ij b j)).2.2=true)->Zn b k+(Ij b k).length=b.length/\(k:Int)<=Zn b k
 | 0,_=>by simp[Zn,Ij]
 | k+1,h=>by
  obtain⟨h1,h2⟩:=Aai hb k fun j hj=>h j (by omega)
  have h3:=Ra (Yn hb k) (h k (by omega))
  simp only[Zn,Ij,I8,Bc]
  omega
theorem Aot:∀(n:Nat) (b:List Int),By b->b.length<=n->(Eh (Ij b (Aaj n b).length)).2.2=false
 | 0,b,_,h=>by
  have:b=[]:=List.eq_nil_of_length_eq_zero (by omega)
  subst this;rfl
 | n+1,b,hb,h=>by
  unfold Aaj
  split
  ·rename_i hp
   have h3:=Ra hb hp
   have:=Aot n (I8 b) (hb.drop _) (by simp only[I8,Bc];omega)
   rw[Xz] at this
   simpa using this
  rename_i hp
  simpa[Ij] using hp
variable {k:Nat}
theorem Ag5 (h:k<(Kv b).length):(Eh (Ij b k)).2.2=true:=(X0 _ _ _ _ (Aa h)).1
theorem At8 (hb:By b):(Eh (Ij b (Kv b).length)).2.2=false:=Aot _ _ hb (Aj _)
theorem Ag4 (hb:By b) (h:k<=(Kv b).length):0<=Zn b k/\Zn b k<=b.length/\(k:Int)<=b.length:=by
 have:=Aai hb k fun j hj=>Ag5 (by omega)
 omega
theorem Aj2 (hb:By b) (h:k<=(Kv b).length):(Ij b k).length<=b.length:=by
 have:=Aai hb k fun j hj=>Ag5 (by omega)
 omega
theorem Anu (b:List Int) (hl:b.length<=1000000) (hb:By b):Zu Tryz.prog 139 [.iptr false [.sl 1 (tY b)] 0] ((Kv b).map fun a=>[a.1.g,.li a.2]):=by
 refine Afr Tryz.func139 rfl rfl rfl (by simp[Tryz.ntmps139]) rfl fun yl=>?_
 refine B9 (by rfl) fun K1 hK1=>?_
 simp[go_sem]
 refine hK1 _ ?_;clear hK1
 refine Cz ?_
 refine Dq (Kv b).length (fun k=>⟨[(0,.lit (.func (.yield yl) #[] #[])),(3,.mY (Ij b k))],[]⟩) (fun k=>k)
  (fun k=>True) (wQ [] ?_ ?_) ⟨rfl,rfl,trivial⟩ fun k hk _=>?_
 ·simp[go_sem,Ij]
 ·simp[go_sem]
 have hr:=Aj2 hb hk
 refine Cz ?_
 refine B9 (by rfl) fun K1 hK1=>?_
 simp[go_sem]
 refine .l (Aiu (Ij b k) (by omega) (Yn hb k)) ?_
 simp[go_sem]
 refine hK1 _ ?_;clear hK1
 refine C4 ?_
 refine C4 (Du ?_)
 refine V1.first 6 (by rfl) fun K1 hK1=>?_
 by_cases hlt:k<(Kv b).length
 ·have hok:=Ag5 hlt
  have hit:(Kv b)[k]? = some ((Eh (Ij b k)).1,(Eh (Ij b k)).2.1):=by
   have h1:=Aa hlt
   rw[h1,(X0 _ _ _ _ h1).2]
  have hsz:=Ra (Yn hb k) hok
  simp[go_sem,hok]
  refine hK1 _ ?_;clear hK1
  refine V1.yield (vs:=[.agg ((Eh (Ij b k)).1.a false),.lit (.int .i64 (Eh (Ij b k)).2.1)]) (by simp[go_sem]) (by simp[go_sem]) (by decide) (by simp[go_sem]) (by simp[go_sem]) (by simp[go_sem]) (by simp[hit]) (by simp[go_sem]) rfl fun c=>?_
  refine V1.rest (by rfl) fun K1 hK1=>?_
  cases c with
  | true =>
   simp[go_sem]
   refine hK1 _ ?_;clear hK1
   refine C7 (by simp[go_sem]) (by simp[go_sem]) (fun h17=>?_) (fun h17=>?_)<;>simp[go_sem] at h17
   exact VI.ret ⟨.inr rfl,fun h=>by cases h⟩
  | false =>
   simp[go_sem]
   refine hK1 _ ?_;clear hK1
   refine C7 (by simp[go_sem]) (by simp[go_sem]) (fun h17=>?_) (fun h17=>?_)<;>simp[go_sem] at h17
   refine Dd ?_
   refine Cu (by rfl) fun K1 hK1=>?_
   simp[go_sem]
   repeat' with_reducible refine Ax ?_ ?_
   all_goals try (intros;(repeat' refine Ax ?_ ?_)<;>omega)
   refine hK1 _ ?_;clear hK1
   refine⟨hlt,rfl,rfl,trivial,wQ [] ?_ ?_⟩
   ·simp[go_sem,Ij,I8]
   simp[go_sem]
 have he:k=(Kv b).length:=by omega
 have hno:=At8 hb
 rw[<- he] at hno
 simp[go_sem,hno]
 refine hK1 _ ?_;clear hK1
 refine V1.noyield (d:=20) rfl (by simp[go_sem]) (by simp[go_sem]) (by decide) ?_
 refine V1.rest (by rfl) fun K1 hK1=>?_
 simp[go_sem]
 refine hK1 _ ?_;clear hK1
 refine C7 (by simp[go_sem]) (by simp[go_sem]) (fun h17=>?_) (fun h17=>?_)<;>simp[go_sem] at h17
 exact VI.ret ⟨.inr rfl,fun _=>by simp[he]⟩
theorem Aej (b:List Int):PP 104 [] [.mY b] [] (.fn 139 [.iptr false [.sl 1 (tY b)] 0]):=by
 refine E7.boxes (σr:=[.box 44 [.mY b]]) (res:=.fn 139 [.ptr 0 0]) ?_ (by simp[go_sem,St.o])
 refine Em Tryz.func104 ?_
 iterate 2 refine Bw ?_
 exact .ret (rW Dz [0])
end
theorem Azh (x:Int):0<=IntKind.u32.wrap x/\IntKind.u32.wrap x<4294967296:=by
 simp[IntKind.wrap,IntKind.signed,IntKind.bits]
 omega
theorem Aux (l:List Int):0<=Te l/\Te l<4294967296:=Azh _
theorem Aqa {x:Int} (h:0<=x/\x<4294967296):IntKind.u32.wrap x=x:=by
 simp[IntKind.wrap,IntKind.signed,IntKind.bits]
 omega
theorem A17 {a b:Int} (ha:0<=a) (ha2:a<16777216) (hb:0<=b) (hb2:b<256):Ey .or .u32 (a*256) b=a*256+b:=by
 obtain⟨m,rfl⟩:=Int.eq_ofNat_of_zero_le ha
 obtain⟨q,rfl⟩:=Int.eq_ofNat_of_zero_le hb
 have hq:q<2 ^ 8:=by omega
 have h:=Nat.two_pow_add_eq_or_of_lt hq m
 have e:(BitVec.ofInt 32 ((m:Int)*256) ||| BitVec.ofInt 32 (q:Int)).toNat=m*256+q:=by
  rw[show ((m:Int)*256)=((m*256:Nat):Int) by push_cast;rfl,BitVec.ofInt_natCast,BitVec.ofInt_natCast,BitVec.toNat_or,BitVec.toNat_ofNat,BitVec.toNat_ofNat,Nat.mod_eq_of_lt (by omega),Nat.mod_eq_of_lt (by omega),Nat.mul_comm m,show (256:Nat)=2 ^ 8 from rfl,<- h]
 show IntKind.u32.wrap (((BitVec.ofInt 32 ((m:Int)*256) ||| BitVec.ofInt 32 (q:Int)).toNat:Nat):Int)=_
 rw[e,Aqa (by omega)]
 omega
theorem Aut {s:Int} (h:0<=s/\s<4294967296):Aq6 (J5 s)=s/\(J5 s).length=4:=by
 refine⟨?_,rfl⟩
 have e1:IntKind.u8.wrap (s.fdiv (2 ^ min 24 32))=s / 16777216:=by
  rw[Int.fdiv_eq_ediv_of_nonneg _ (by decide)];show IntKind.u8.wrap (s / 16777216)=_;exact Ul (by omega)
 have w8:∀x:Int,IntKind.u8.wrap x=x % 256:=fun x=>by simp[IntKind.wrap,IntKind.signed,IntKind.bits]
 have e2:IntKind.u8.wrap (s.fdiv (2 ^ min 16 32))=s / 65536 % 256:=by
  rw[Int.fdiv_eq_ediv_of_nonneg _ (by decide),w8];rfl
 have e3:IntKind.u8.wrap (s.fdiv (2 ^ min 8 32))=s / 256 % 256:=by
  rw[Int.fdiv_eq_ediv_of_nonneg _ (by decide),w8];rfl
 have e4:IntKind.u8.wrap (s.fdiv (2 ^ min 0 32))=s % 256:=by
  rw[Int.fdiv_eq_ediv_of_nonneg _ (by decide),w8]
  show s / 1 % 256=_
  rw[Int.ediv_one]
 unfold J5
 rw[e1,e2,e3,e4]
 have st:∀(l:List Int) (i:Nat),0<=So l i->So l i<16777216->0<=Sd l i->Sd l i<256->So l (i+1)=So l i*256+Sd l i:=fun l i h1 h2 h3 h4=>by
  rw[So,show (2:Int) ^ min 8 32=256 from rfl,Aqa (x:=So l i*256) (by omega),Aqa (x:=Sd l i) (by omega),A17 h1 h2 h3 h4]
 generalize hL:[s / 16777216,s / 65536 % 256,s / 256 % 256,s % 256]=L
 have b0:Sd L 0=s / 16777216:=by rw[<- hL];rfl
 have b1:Sd L 1=s / 65536 % 256:=by rw[<- hL];rfl
 have b2:Sd L 2=s / 256 % 256:=by rw[<- hL];rfl
 have b3:Sd L 3=s % 256:=by rw[<- hL];rfl
 have n0:So L 0=0:=rfl
 have n1:So L 1=So L 0*256+Sd L 0:=st L 0 (by omega) (by omega) (by omega) (by omega)
 have n2:So L 2=So L 1*256+Sd L 1:=st L 1 (by omega) (by omega) (by omega) (by omega)
 have n3:So L 3=So L 2*256+Sd L 2:=st L 2 (by omega) (by omega) (by omega) (by omega)
 have n4:So L 4=So L 3*256+Sd L 3:=st L 3 (by omega) (by omega) (by omega) (by omega)
 have hl:L.length=4:=by rw[<- hL];rfl
 unfold Aq6
 rw[hl]
 omega
theorem Po (b0 b1 b2 b3 b4 b5:Int) (r:List Int):Eh (b0::b1::b2::b3::b4::b5::r)=if b0≠90\/b1≠165 then (⟨2,0,[]⟩,1,true) else if 200<b4*256+b5 then (⟨7,0,[]⟩,1,true) else if (r.length:Int)<b4*256+b5+4 then (⟨0,0,[]⟩,0,false) else if Te (b2::b3::b4::b5::r.take (b4*256+b5).toNat)≠Aq6 ((r.drop (b4*256+b5).toNat).take 4) then (⟨4,0,[]⟩,1,true) else if b2≠1 then (⟨3,0,[]⟩,b4*256+b5+10,true) else if b3<1\/22<b3 then (⟨5,0,[]⟩,b4*256+b5+10,true) else (⟨0,b3,r.take (b4*256+b5).toNat⟩,b4*256+b5+10,true):=rfl
theorem Ahj {k:Int} {p:List Int} (r:List Int) (hk:1<=k/\k<=22) (hp:p.length<=200):Eh (Gn k p++r)=(⟨0,k,p⟩,(p.length:Int)+10,true):=by
 have e1:IntKind.u8.wrap k=k:=Ul (by omega)
 have e2:IntKind.u8.wrap ((p.length:Int).fdiv (2 ^ min 8 64))=0:=by
  rw[Int.fdiv_eq_ediv_of_nonneg _ (by decide),show ((p.length:Int) / 2 ^ min 8 64)=0 by show (p.length:Int) / 256=0;omega];rfl
 have e3:IntKind.u8.wrap (p.length:Int)=p.length:=Ul (by omega)
 obtain⟨hn,hl⟩:=Aut (Aux ([1,k,0,(p.length:Int)]++p))
 unfold Gn Im
 rw[e1,e2,e3,show ([90,165,1,k,0,(p.length:Int)]:List Int).drop 2=[1,k,0,(p.length:Int)] from rfl]
 generalize hT:J5 (Te ([1,k,0,(p.length:Int)]++p))=T at hn hl
 rw[show [90,165,1,k,0,(p.length:Int)]++p++T++r=90::165::1::k::0::(p.length:Int)::(p++(T++r)) by simp]
 have h0:(0:Int)*256+(p.length:Int)=p.length:=by omega
 rw[Po,if_neg (by decide),h0,if_neg (by omega),if_neg (by simp;omega),Int.toNat_natCast,List.take_left,List.drop_left,show (T++r).take 4=T by rw[<- hl,List.take_left],hn,if_neg (by simp),if_neg (by decide),if_neg (by omega)]
theorem X6 (k:Int) (p:List Int):(Gn k p).length=p.length+10:=by simp[Gn,Im,J5]
theorem Aos:∀(L:List (Int×List Int)) (n:Nat),(∀x∈L,(1<=x.1/\x.1<=22)/\x.2.length<=200)->L.length<=n->Aaj n (L.map fun x=>Gn x.1 x.2).flatten=L.map fun x=>(⟨0,x.1,x.2⟩,(x.2.length:Int)+10)
 | [],0,_,_=>rfl
 | [],n+1,_,_=>rfl
 | x::L,0,_,h=>by simp at h
 | x::L,n+1,hx,h=>by
  have h1:=hx x (List.mem_cons_self ..)
  have e:=Ahj (L.map fun x=>Gn x.1 x.2).flatten h1.1 h1.2
  rw[List.map_cons,List.flatten_cons,Aaj,I8,e,if_pos rfl,List.map_cons]
  have hd:(Gn x.1 x.2++(L.map fun x=>Gn x.1 x.2).flatten).drop ((x.2.length:Int)+10).toNat=(L.map fun x=>Gn x.1 x.2).flatten:=by
   rw[show ((x.2.length:Int)+10).toNat=(Gn x.1 x.2).length by rw[X6];omega,List.drop_left]
  simp only[]
  rw[hd,Aos L n (fun y hy=>hx y (List.mem_cons_of_mem _ hy)) (by simpa using h)]
theorem As1:∀(L:List (Int×List Int)),L.length<=(L.map fun x=>Gn x.1 x.2).flatten.length
 | []=>Ae _
 | x::L=>by
  have h:=As1 L
  rw[List.map_cons,List.flatten_cons,Bo,X6,A6]
  omega
theorem Aj3 {L:List (Int×List Int)} (h:∀x∈L,(1<=x.1/\x.1<=22)/\x.2.length<=200):Kv (L.map fun x=>Gn x.1 x.2).flatten=L.map fun x=>(⟨0,x.1,x.2⟩,(x.2.length:Int)+10):=Aos L _ h (As1 L)
section
variable {P:Program}
theorem VX.rangeFnA {n m : Nat} {γ : Type} {sl : List (Nat × AV)} {K : Exit -> St -> Prop} {g : Tmp} {ps : List Tmp} {asg : Code} {body : Code} {gf : FuncId} {caps : List AV} {items : List (List AV)} (hit : Zu P gf caps items) (f : γ -> List Ob) (M : Nat) (hM : ∀ x, (f x).length = M) (hg : E9 sl g = .fn gf caps)
    (hlive:∀x id,(St.mk sl (f x)).o id≠.gone->((St.mk sl (f x)).o id).live) (hps:∀p∈ps,p<n) (hcl:∀vs∈items,vs.length=ps.length/\Om (fun _=>none) vs=vs)
    (Inv:Nat->γ->Prop) (x0:γ) (hI0:Inv 0 x0) (hround:∀i vs x,items[i]? = some vs->Inv i x->VX P n M asg ⟨T9 ps vs sl,f x⟩ (fun e s=>e=.normal/\VX P n M body s (Ayy M sl f (Inv (i+1)) K))) (hdone:∀x,Inv items.length x->K .normal ⟨sl,f x⟩) :
    VX P n m (.rangeFunc (.tmp g) ps.toArray (asg) body) ⟨sl,f x0⟩ K:=by
  have key : ∀ (k i : Nat) (x : γ), i + k = items.length -> Inv i x -> ∃ e s, K e s /\ ∃ (xs : Nat -> γ) (stop : Nat), xs i = x /\ i <= stop /\ stop <= items.length /\
      (∀j vs,i<=j->j<stop->items[j]? = some vs->∃sA,VW P n M asg ⟨T9 ps vs sl,f (xs j)⟩ (fun e s=>e=.normal/\s=sA)/\VW P n M body sA (J7 M sl (f (xs (j+1))) True fun _ _=>False)) /\
      (stop=items.length->e=.normal/\s=⟨sl,f (xs stop)⟩)/\(∀vs,items[stop]? = some vs->∃sA,VW P n M asg ⟨T9 ps vs sl,f (xs stop)⟩ (fun e s=>e=.normal/\s=sA)/\VW P n M body sA (J7 M sl [] False fun e' s'=>e'=e/\s'=s)):=by
    intro k
    induction k with
    | zero =>
      intro i x hi hI
      refine ⟨.normal, ⟨sl, f x⟩, hdone x (by have : i = items.length := by omega
                                              rw[<- this];exact hI),fun _=>x,i,rfl,Aj _,by omega,fun j vs h1 h2=>by omega,fun _=>⟨rfl,rfl⟩,fun vs h=>?_⟩
      have:=(Ab.1 h).1
      omega
    | succ k ih =>
      intro i x hi hI
      obtain⟨vs,hvs⟩:∃vs,items[i]? = some vs:=⟨_,Aa (by omega)⟩
      obtain⟨e0,sA,hA,rfl,e1,s1,h1,h2⟩:=hround i vs x hvs hI
      have hA:VW P n M asg ⟨T9 ps vs sl,f x⟩ (fun e s=>e=.normal/\s=sA):=hA
      have other : ∀ (e : Exit) (s : St), K e s -> J7 M sl [] False (fun e' s' => e' = e /\ s' = s) e1 s1 -> ∃ e s, K e s /\ ∃ (xs : Nat -> γ) (stop : Nat), xs i = x /\ i <= stop /\ stop <= items.length /\
          (∀j vs,i<=j->j<stop->items[j]? = some vs->∃sA,VW P n M asg ⟨T9 ps vs sl,f (xs j)⟩ (fun e s=>e=.normal/\s=sA)/\VW P n M body sA (J7 M sl (f (xs (j+1))) True fun _ _=>False)) /\
          (stop=items.length->e=.normal/\s=⟨sl,f (xs stop)⟩)/\(∀vs,items[stop]? = some vs->∃sA,VW P n M asg ⟨T9 ps vs sl,f (xs stop)⟩ (fun e s=>e=.normal/\s=sA)/\VW P n M body sA (J7 M sl [] False fun e' s'=>e'=e/\s'=s)):=by
        intro e s hK hR
        refine⟨e,s,hK,fun _=>x,i,rfl,Aj _,by omega,fun j vs h1 h2=>by omega,fun h=>by omega,fun vs' h=>?_⟩
        rw[hvs] at h
        injection h with h
        subst h
        refine⟨sA,hA,h1.mono ?_⟩
        rintro e' s' ⟨rfl,rfl⟩
        exact hR
      cases e1 with
      | normal =>
        obtain⟨x',h3,h4⟩:=h2
        obtain⟨e,s,hK,xs,stop,q1,q2,q3,q4,q5,q6⟩:=ih (i+1) x' (by omega) h3
        refine⟨e,s,hK,fun j=>if j=i then x else xs j,stop,if_pos rfl,by omega,q3,fun j vs' hj1 hj2 hjv=>?_,fun h=>?_,fun vs' h=>?_⟩
        · by_cases e0:j=i
          · subst e0
            rw[hvs] at hjv
            injection hjv with hjv
            subst hjv
            simp only[if_true]
            rw[if_neg (by omega),q1]
            refine⟨sA,hA,h1.mono ?_⟩
            rintro e' s' ⟨rfl,rfl⟩
            exact⟨h4,trivial⟩
          · simp only
            rw[if_neg e0,if_neg (by omega)]
            exact q4 j vs' (by omega) hj2 hjv
        · obtain⟨g1,g2⟩:=q5 h
          exact⟨g1,by simp only;rw[if_neg (by omega)];exact g2⟩
        · simp only
          rw[if_neg (by omega)]
          exact q6 vs' h
      | ret=>obtain⟨ob,h3,h4⟩:=h2;exact other _ _ h4 ⟨ob,h3,rfl,rfl⟩
      | exit id=>obtain⟨ob,h3,h4⟩:=h2;exact other _ _ h4 ⟨ob,h3,rfl,rfl⟩
      | goto t=>obtain⟨ob,h3,h4⟩:=h2;exact other _ _ h4 ⟨ob,h3,rfl,rfl⟩
      | panic ch=>exact h2.elim
      | outgrown=>exact h2.elim
  obtain⟨e,s,hK,xs,stop,q1,q2,q3,q4,q5,q6⟩:=key items.length 0 x0 (by omega) hI0
  refine⟨e,s,?_,hK⟩
  have hex:∀j vs,∃sA,items[j]? = some vs->j<=stop->VW P n M asg ⟨T9 ps vs sl,f (xs j)⟩ (fun e s=>e=.normal/\s=sA)/\VW P n M body sA (J7 M sl (f (xs (j+1))) (j+1<=stop) fun e' s'=>e'=e/\s'=s):=fun j vs=>by
    by_cases hc:items[j]? = some vs/\j<=stop
    · by_cases e0:j=stop
      · subst e0
        obtain⟨sA,g1,g2⟩:=q6 vs hc.1
        exact⟨sA,fun _ _=>⟨g1,g2.mono fun e' s' h=>h.jump⟩⟩
      · obtain⟨sA,g1,g2⟩:=q4 j vs (Ae _) (by omega) hc.1
        exact⟨sA,fun _ _=>⟨g1,g2.mono fun e' s' h=>h.mono (fun _=>by omega) fun _ _ h=>h.elim⟩⟩
    · exact⟨⟨[],[]⟩,fun h1 h2=>absurd ⟨h1,h2⟩ hc⟩
  have:=VW.rangeFnA (m:=m) (K:=fun e' s'=>e'=e/\s'=s) (body:=body) (asg:=asg) (ps:=ps) (n:=n) (sl:=sl) (g:=g) hit (fun j=>f (xs j)) hg (fun j id=>hlive (xs j) id) hps (fun j vs=>(hex j vs).choose) hcl (fun j=>j<=stop) (Ae _) (fun j vs hj hI=>?_) (fun j vs hj hI=>?_) (fun hI=>?_)
  · simp only[q1] at this
    exact this
  · rw[hM]
    exact ((hex j vs).choose_spec hj hI).1
  · rw[hM]
    exact ((hex j vs).choose_spec hj hI).2
  · have hs:stop=items.length:=by omega
    obtain⟨g1,g2⟩:=q5 hs
    rw[hs] at g2
    exact⟨g1.symm,g2.symm⟩
abbrev Dt:=@VX.rangeFnA
end
section
theorem Apc (b:List Int):(Eh b).1.pay.length<=b.length:=by
 unfold Eh
 split
 ·simp
 ·split<;>simp
 split
 ·simp
 split
 ·simp only
  repeat' split
  all_goals simp
  all_goals omega
 simp
variable {l:List E8}
theorem Sa {a:E8} (h:∀x∈l,x.pay.length<=256) (ha:a.pay.length<=256):∀x∈l++[a],x.pay.length<=256:=fun x hx=>by
 rcases A0.1 hx with h1 | h1
 ·exact h x h1
 rw[An.1 h1];exact ha
def N6 (n:Int):List (E8×Int)->Int->Bool->List E8->Int×Bool×List E8
 | [],u,g,l=>(u,g,l)
 | p::ps,u,g,l=>if p.1.code=2/\g=true then N6 n ps (u+p.2) g l else if n<=((l++[p.1]).length:Int) then (u+p.2,(p.1.code == 2||p.1.code == 7||p.1.code == 4),l++[p.1]) else N6 n ps (u+p.2) (p.1.code == 2||p.1.code == 7||p.1.code == 4) (l++[p.1])
variable {L:List (E8×Int)} {j:Nat} {a:E8×Int} {n u:Int}
theorem Afk {g:Bool} (ha:L[j]? = some a) (h1:a.1.code=2) (h2:g=true):N6 n (L.drop j) u g l=N6 n (L.drop (j+1)) (u+a.2) g l:=by
 obtain⟨hj,rfl⟩:=Ab.1 ha
 rw[List.drop_eq_getElem_cons hj,N6,if_pos ⟨h1,h2⟩]
variable {g g':Bool}
theorem Alk (ha:L[j]? = some a) (h1:¬(a.1.code=2/\g=true)) (h2:g'=(a.1.code == 2||a.1.code == 7||a.1.code == 4)) (hn:¬n<=((l++[a.1]).length:Int)):N6 n (L.drop j) u g l=N6 n (L.drop (j+1)) (u+a.2) g' (l++[a.1]):=by
 obtain⟨hj,rfl⟩:=Ab.1 ha
 rw[List.drop_eq_getElem_cons hj,N6,if_neg h1,if_neg hn,h2]
theorem Afj (ha:L[j]? = some a) (h1:¬(a.1.code=2/\g=true)) (h2:g'=(a.1.code == 2||a.1.code == 7||a.1.code == 4)) (hn:n<=((l++[a.1]).length:Int)):N6 n (L.drop j) u g l=(u+a.2,g',l++[a.1]):=by
 obtain⟨hj,rfl⟩:=Ab.1 ha
 rw[List.drop_eq_getElem_cons hj,N6,if_neg h1,if_pos hn,h2]
def TkR (n:Int) (s:Nd) (d:Nd×List E8):Prop:=∃u,N6 n (Kv s.buf) 0 s.gar []=(u,d.1.gar,d.2)/\d.1.buf=s.buf.drop u.toNat
def Ayu (s:Er) (d:Er×Fs):Prop:=(s.op=false->d=(s,⟨false,[]⟩))/\(s.op=true->∃e,TkR 4 s.st e/\d=(⟨true,false,e.1⟩,⟨true,(if s.dr then [⟨15,0,[]⟩] else [])++e.2⟩))
theorem Qm (n k:Int):PP 122 [] [.li k,.iptr false [.li n] 0] [] (.lb (decide (n<=k))):=by
 refine Em Tryz.func122 ?_
 iterate 2 refine Bw ?_
 exact .ret (rL Dz)
theorem Ah9 (s:Nd) (n:Int) (hl:s.buf.length<=256) (hb:By s.buf):Ct 72 [s.g,.fn 122 [.iptr false [.li n] 0]] (fun d:Nd×List E8=>.tup [d.1.g,.mItem d.2]) (fun d=>By d.1.buf/\d.1.buf.length<=256/\d.2.length<=256/\(∀x∈d.2,x.pay.length<=256)/\TkR n s d):=by
 refine Ex Tryz.func72 ?_
 refine Bq ?_
 refine VX.scope ?_
 refine Bq ?_
 refine VX.D<|.seq ?_
 refine VX.label ?_
 refine Ca<|.L Dz (Aej s.buf)<|.block ?_
 refine Cl 3 0 116 3 (by decide) rfl rfl ?_
 simp[go_sem,-Prod.exists]
 refine C6 (s':=⟨[(2,.ptr 0 0),(3,.ptr 1 0),(4,.ptr 2 0),(6,.ptr 3 0),(7,.ptr 4 0),(8,.ptr 5 0),(15,.fn 139 [.iptr false [.sl 1 (tY s.buf)] 0])],(fun (y1:Int×Bool×(List E8))=>[.box 98 [.mY s.buf,.lb s.gar],.box 169 [.fn 122 [.iptr false [.li n] 0]],.box 98 [.nil 1,.lb false],.box 113 [.own 6 y1.2.2.length],.box 3 [.li y1.1],.box 4 [.lb y1.2.1],.row 116 3 false false (Adu y1.2.2)]) (0,s.gar,[])⟩) (wQ [0,1,2,3,4,5,6] ?_ ?_) ?_
 ·simp[go_sem]
 ·simp[go_sem]
 refine Dt (Anu s.buf (by omega) hb) (fun (y1:Int×Bool×(List E8))=>[.box 98 [.mY s.buf,.lb s.gar],.box 169 [.fn 122 [.iptr false [.li n] 0]],.box 98 [.nil 1,.lb false],.box 113 [.own 6 y1.2.2.length],.box 3 [.li y1.1],.box 4 [.lb y1.2.1],.row 116 3 false false (Adu y1.2.2)]) 7 (fun _=>rfl) (by rfl) (fun _=>Tc rfl) (by decide) ?_ (fun j1 y1=>y1.1=Zn s.buf j1/\y1.2.2.length<=j1/\(∀x∈y1.2.2,x.pay.length<=256)/\N6 n ((Kv s.buf).drop j1) y1.1 y1.2.1 y1.2.2=N6 n (Kv s.buf) 0 s.gar []) (0,s.gar,[]) (⟨rfl,by simp,(fun x h=>by cases h),rfl⟩) (fun j1 vs y1 hj1 hy1=>?_) (fun y1 hy1=>?_)
 ·intro vs hvs
  obtain⟨a,_,rfl⟩:=A4.1 hvs
  simp[go_sem]
 ·
  obtain⟨a1,ha1,rfl⟩:=Ei hj1
  have hjl:j1<(Kv s.buf).length:=(Ab.1 ha1).1
  have hg:=X0 _ _ _ _ ha1
  have ho:=Ag4 hb (k:=j1+1) (by omega)
  have ho0:=Ag4 hb (k:=j1) (by omega)
  have hrl:=Aj2 hb (k:=j1) (by omega)
  have hsz:Zn s.buf (j1+1)=y1.1+a1.2:=by rw[Zn,hy1.1,hg.2]
  have hpy:a1.1.pay.length<=256:=by rw[hg.2];exact Ak (Apc _) (by omega)
  refine Bq ?_
  refine Ci ?_
  refine⟨rfl,?_⟩
  refine Df ?_
  have hw1:=Dx (y1.1+a1.2:Int)
  refine Bt hw1<|.seq ?_
  refine Bt hw1<|.block ?_
  refine Bt hw1 ?_
  refine Br ?_ ?_<;>intro h23
  ·refine Ca<|.H hw1 ?_
   refine Br ?_ ?_<;>intro h25
   ·refine Bu ?_
    refine⟨((y1.1+a1.2),y1.2.1,y1.2.2),?_,⟨[0,1,2,3,4,5,6],Es (by decide) ?_ ?_,F7 rfl⟩⟩
    ·exact⟨hsz.symm,by dsimp only;omega,hy1.2.2.1,(Afk ha1 h23 h25).symm.trans hy1.2.2.2⟩
    ·simp[go_sem]
    simp[go_sem,hw1]
   refine Bp<|.H1 hw1 ?_
   refine Bt hw1 ?_
   refine B3 (fun K kk=>by simp[go_sem,hw1];refine .lo (Qm n _) rfl (by simp[AV.cln,Fu]) ?_;simp[go_sem,hw1];exact kk) ?_
   refine Br ?_ ?_<;>intro h36
   ·refine Bu ⟨[.box 98 [.mY s.buf,.lb s.gar],.box 169 [.fn 122 [.iptr false [.li n] 0]],.box 98 [.nil 1,.lb false],.box 113 [.own 6 ((y1.2.2++([a1.1])).length)],.box 3 [.li (y1.1+a1.2)],.box 4 [.lb true],.row 116 3 false false (Adu (y1.2.2++([a1.1])))],⟨[0,1,2,3,4,5,6],Es (by decide) ?_ ?_,F7 rfl⟩,?_⟩
    ·simp[go_sem]
    ·simp[go_sem,hw1]
    refine Cy (fun K kk=>by simp[go_sem,hw1];(repeat refine aK ?_);refine .lo cB rfl (by simp[AV.cln,Fu]) ?_;simp[go_sem,hw1];exact kk) ?_
    refine B2 Dz 6 ?_
    exact .ret (fin hw1 (⟨s.buf.drop ((y1.1+a1.2).toNat),true⟩,y1.2.2++([a1.1])) (by exact⟨hb.drop _,by simp;omega,by simp;omega,Sa hy1.2.2.1 hpy,_,hy1.2.2.2.symm.trans (Afj ha1 (by (simp[h23,h25];done)) (by (simp[h23];done)) (by simp;omega)),rfl⟩))
   refine Bp ?_
   refine⟨((y1.1+a1.2),true,y1.2.2++([a1.1])),?_,⟨[0,1,2,3,4,5,6],Es (by decide) ?_ ?_,F7 rfl⟩⟩
   ·first | exact⟨hsz.symm,by dsimp only;omega,hy1.2.2.1,(Afk ha1 h23 h25).symm.trans hy1.2.2.2⟩ | exact⟨hsz.symm,by simp;omega,Sa hy1.2.2.1 hpy,(Alk ha1 (by (simp[h23,h25];done)) (by (simp[h23];done)) (by simp;omega)).symm.trans hy1.2.2.2⟩
   ·simp[go_sem]
   simp[go_sem,hw1]
  refine Cf (by rfl) fun K1 hK1=>?_
  simp[go_sem]
  refine hK1 _ ⟨_,_,_,_,_,_,_,_,rfl,.one (by decide) rfl rfl,by decide,rfl,by simp[go_sem];rfl,by simp[go_sem];rfl,by simp[go_sem],?_⟩;clear hK1
  refine Br ?_ ?_<;>intro h26
  ·refine B0 hw1 ?_
   refine Bt hw1 ?_
   refine B3 (fun K kk=>by simp[go_sem,hw1];refine .lo (Qm n _) rfl (by simp[AV.cln,Fu]) ?_;simp[go_sem,hw1];exact kk) ?_
   refine Br ?_ ?_<;>intro h36
   ·refine Bu ⟨[.box 98 [.mY s.buf,.lb s.gar],.box 169 [.fn 122 [.iptr false [.li n] 0]],.box 98 [.nil 1,.lb false],.box 113 [.own 6 ((y1.2.2++([a1.1])).length)],.box 3 [.li (y1.1+a1.2)],.box 4 [.lb true],.row 116 3 false false (Adu (y1.2.2++([a1.1])))],⟨[0,1,2,3,4,5,6],Es (by decide) ?_ ?_,F7 rfl⟩,?_⟩
    ·simp[go_sem]
    ·simp[go_sem,hw1]
    refine Cy (fun K kk=>by simp[go_sem,hw1];(repeat refine aK ?_);refine .lo cB rfl (by simp[AV.cln,Fu]) ?_;simp[go_sem,hw1];exact kk) ?_
    refine B2 Dz 6 ?_
    exact .ret (fin hw1 (⟨s.buf.drop ((y1.1+a1.2).toNat),true⟩,y1.2.2++([a1.1])) (by exact⟨hb.drop _,by simp;omega,by simp;omega,Sa hy1.2.2.1 hpy,_,hy1.2.2.2.symm.trans (Afj ha1 (by first | (simp[h23,h25];done) | (simp[h23];done)) (by first | (simp[h23];done) | (rcases h26 with h | h<;>(simp[h];done))) (by simp;omega)),rfl⟩))
   refine Bp ?_
   refine⟨((y1.1+a1.2),true,y1.2.2++([a1.1])),?_,⟨[0,1,2,3,4,5,6],Es (by decide) ?_ ?_,F7 rfl⟩⟩
   ·first | exact⟨hsz.symm,by dsimp only;omega,hy1.2.2.1,(Afk ha1 h23 h25).symm.trans hy1.2.2.2⟩ | exact⟨hsz.symm,by simp;omega,Sa hy1.2.2.1 hpy,(Alk ha1 (by first | (simp[h23,h25];done) | (simp[h23];done)) (by first | (simp[h23];done) | (rcases h26 with h | h<;>(simp[h];done))) (by simp;omega)).symm.trans hy1.2.2.2⟩
   ·simp[go_sem]
   simp[go_sem,hw1]
  refine B0 hw1 ?_
  refine Bt hw1 ?_
  refine B3 (fun K kk=>by simp[go_sem,hw1];refine .lo (Qm n _) rfl (by simp[AV.cln,Fu]) ?_;simp[go_sem,hw1];exact kk) ?_
  refine Br ?_ ?_<;>intro h36
  ·refine Bu ⟨[.box 98 [.mY s.buf,.lb s.gar],.box 169 [.fn 122 [.iptr false [.li n] 0]],.box 98 [.nil 1,.lb false],.box 113 [.own 6 ((y1.2.2++([a1.1])).length)],.box 3 [.li (y1.1+a1.2)],.box 4 [.lb false],.row 116 3 false false (Adu (y1.2.2++([a1.1])))],⟨[0,1,2,3,4,5,6],Es (by decide) ?_ ?_,F7 rfl⟩,?_⟩
   ·simp[go_sem]
   ·simp[go_sem,hw1]
   refine Cy (fun K kk=>by simp[go_sem,hw1];(repeat refine aK ?_);refine .lo cB rfl (by simp[AV.cln,Fu]) ?_;simp[go_sem,hw1];exact kk) ?_
   refine B2 Dz 6 ?_
   exact .ret (fin hw1 (⟨s.buf.drop ((y1.1+a1.2).toNat),false⟩,y1.2.2++([a1.1])) (by exact⟨hb.drop _,by simp;omega,by simp;omega,Sa hy1.2.2.1 hpy,_,hy1.2.2.2.symm.trans (Afj ha1 (by first | (simp[h23,h25];done) | (simp[h23];done)) (by first | (simp[h23];done) | (rcases h26 with h | h<;>(simp[h];done)) | (simp[h23,h26];done)) (by simp;omega)),rfl⟩))
  refine Bp ?_
  refine⟨((y1.1+a1.2),false,y1.2.2++([a1.1])),?_,⟨[0,1,2,3,4,5,6],Es (by decide) ?_ ?_,F7 rfl⟩⟩
  ·first | exact⟨hsz.symm,by dsimp only;omega,hy1.2.2.1,(Afk ha1 h23 h25).symm.trans hy1.2.2.2⟩ | exact⟨hsz.symm,by simp;omega,Sa hy1.2.2.1 hpy,(Alk ha1 (by first | (simp[h23,h25];done) | (simp[h23];done)) (by first | (simp[h23];done) | (rcases h26 with h | h<;>(simp[h];done)) | (simp[h23,h26];done)) (by simp;omega)).symm.trans hy1.2.2.2⟩
  ·simp[go_sem]
  simp[go_sem,hw1]
 -- done
 simp only[A2] at hy1
 have ho:=Ag4 hb (k:=(Kv s.buf).length) (Aj _)
 refine Cy (fun K kk=>by simp[go_sem];(repeat refine aK ?_);refine .lo cB rfl (by simp[AV.cln,Fu]) ?_;simp[go_sem];exact kk) ?_
 refine B2 Dz 6 ?_
 exact .ret (fin Dz (⟨s.buf.drop y1.1.toNat,y1.2.1⟩,y1.2.2) (by first | exact⟨hb.drop _,by simp;omega,by simp;omega,Sa hy1.2.2.1 hpy,_,hy1.2.2.2.symm.trans (Afj ha1 (by first | (simp[h23,h25];done) | (simp[h23];done)) (by first | (simp[h23];done) | (rcases h26 with h | h<;>(simp[h];done)) | (simp[h23,h26];done)) (by simp;omega)),rfl⟩ | exact⟨hb.drop _,by simp;omega,by dsimp only;omega,hy1.2.2.1,_,hy1.2.2.2.symm.trans (by rw[List.drop_eq_nil_of_le (by simp)];rfl),rfl⟩))
theorem Aia (s:Nd) (n:Int) (hl:s.buf.length<=256) (hb:By s.buf):Ct 93 [s.g,.li n] (fun d:Nd×List E8=>.tup [d.1.g,.mItem d.2]) (fun d=>By d.1.buf/\d.1.buf.length<=256/\d.2.length<=256/\(∀x∈d.2,x.pay.length<=256)/\(0<n->TkR n s d)):=by
 refine Ex Tryz.func93 ?_
 refine Bq<|.seq ?_
 refine Bq ?_
 refine Br ?_ ?_<;>intro h7
 ·refine Cy (fun K kk=>by simp[go_sem];refine .lo cB rfl (by simp[AV.cln,Fu]) ?_;simp[go_sem];exact kk) ?_
  exact .ret (fin Dz (s,[]) (by exact⟨hb,hl,Ae _,(fun x h=>by cases h),fun h=>by omega⟩))
 refine Bp ?_
 refine VX.sel1 1 rfl rfl (by simp) ?_
 simp[go_sem,-Prod.exists]
 obtain⟨Y1,cY1,qY1⟩:=Ep (Ah9 s n hl hb)
 refine B8 Dz cY1 ?_
 exact .ret (fin Dz (Y1.1,Y1.2) (by first | exact⟨hb,hl,Ae _,(fun x h=>by cases h),fun h=>by omega⟩ | exact (have h:=qY1;⟨h.1,h.2.1,h.2.2.1,h.2.2.2.1,fun _=>h.2.2.2.2⟩)))
theorem Aky (s:Er) (hl:s.st.buf.length<=256) (hb:By s.st.buf):Ct 64 [s.g] (fun d:Er×Fs=>.tup [d.1.g,d.2.g]) (fun d=>By d.1.st.buf/\d.1.st.buf.length<=256/\(d.2.items.length<=257/\d.2.op=s.op)/\(∀x∈d.2.items,x.pay.length<=256)/\Ayu s d):=by
 refine Ex Tryz.func64 ?_
 obtain⟨Y1,cY1,qY1⟩:=Ep (Aia s.st 4 hl hb)
 have hQ:=qY1
 refine Bq<|.seq ?_
 refine Bq ?_
 refine Br ?_ ?_<;>intro h9
 ·refine B8 Dz (Lr s (by first | assumption | omega)) ?_
  refine Bz (Fj ?_);simp[go_sem,Ba 1]
  exact⟨(s,⟨false,[]⟩),by rfl,(by exact⟨hb,hl,⟨Ae _,by dsimp only;rw[h9]⟩,(fun x h=>by cases h),fun _=>rfl,fun h=>by rw[h9] at h;cases h⟩)⟩
 refine Bp<|.R<|.seq ?_
 refine Bq ?_
 refine Br ?_ ?_<;>intro h15
 ·refine B0 Dz ?_
  refine B8 Dz cY1 ?_
  iterate 2 refine Bq ?_
  refine Bt Dz ?_
  refine VX.D ?_
  refine B2 Dz 5 ?_
  refine Bz (Fj ?_);simp[go_sem,Ba 1]
  exact⟨(⟨s.op,false,Y1.1⟩,⟨true,([⟨15,0,[]⟩])++(Y1.2)⟩),by rfl,(by first | exact⟨hb,hl,⟨Ae _,by dsimp only;rw[h9]⟩,(fun x h=>by cases h),fun _=>rfl,fun h=>by rw[h9] at h;cases h⟩ | exact⟨hQ.1,hQ.2.1,⟨by have:=hQ.2.2.1;simp;omega,by dsimp only;rw[h9]⟩,(fun x h=>by rcases A0.1 h with h | h;(rw[An.1 h];simp);exact hQ.2.2.2.1 x h),(fun h=>by rw[h9] at h;cases h),fun _=>⟨_,hQ.2.2.2.2 (by decide),by rw[h9,h15];rfl⟩⟩)⟩
 refine Bp<|.L Dz cY1 ?_
 iterate 2 refine Bq ?_
 refine Bt Dz ?_
 refine VX.D ?_
 refine B2 Dz 5 ?_
 refine Bz (Fj ?_);simp[go_sem,Ba 1]
 exact⟨(⟨s.op,false,Y1.1⟩,⟨true,Y1.2⟩),by rfl,(by first | exact⟨hb,hl,⟨Ae _,by dsimp only;rw[h9]⟩,(fun x h=>by cases h),fun _=>rfl,fun h=>by rw[h9] at h;cases h⟩ | exact⟨hQ.1,hQ.2.1,⟨by have:=hQ.2.2.1;simp;omega,by dsimp only;rw[h9]⟩,(fun x h=>by rcases A0.1 h with h | h;(rw[An.1 h];simp);exact hQ.2.2.2.1 x h),(fun h=>by rw[h9] at h;cases h),fun _=>⟨_,hQ.2.2.2.2 (by decide),by rw[h9,h15];rfl⟩⟩ | exact⟨hQ.1,hQ.2.1,⟨by have:=hQ.2.2.1;first | omega | (simp;omega),by dsimp only;rw[h9]⟩,hQ.2.2.2.1,(fun h=>by rw[h9] at h;cases h),fun _=>⟨_,hQ.2.2.2.2 (by decide),by rw[h9,h15];rfl⟩⟩)⟩
end
section
structure FrP (f:List Int):Prop where
  l1:20<=f.length
  l2:f.length<=32
  by':By f
  ok:∃k p,∀r,Eh (f++r)=(⟨0,k,p⟩,(f.length:Int),true)
  hd:∃k t,f=90::165::1::k::0::((f.length:Int) - 10)::t/\1<=k/\k<=22
  in':∀i,1<=i->f[i]? = some 90->f[i+1]? = some 165->f.length<=i+4
structure Pc where
  b:List Int
  w:Nat
  t:Option Nat
def Aaq (d:Pc):Prop:=∃f,FrP f/\((d.t=none/\d.b=f/\d.w=1)\/(d.t.isSome=true/\∃L,1<=L/\L<f.length/\d.b=f.take L/\d.w=if L<=4 then 1 else 3))
def Rb (ps:List Pc):List Int:=(ps.map Pc.b).flatten
def W7 (ps:List Pc):Nat:=(ps.map Pc.w).sum
def Sq:List Int->Nat
 | []=>0
 | x::r=>(if x=90/\r.head? = some 165 then 1 else 0)+Sq r
def vs (s:List Int) (g:Bool):Nat:=Sq s+if g=true\/s=[] then 0 else 1
def Sf (s:List Int):Prop:=∃f,FrP f/\∃L o,1<=o/\L<=f.length/\s=(f.take L).drop o
theorem Kw (d:Pc) (ps:List Pc):Rb (d::ps)=d.b++Rb ps:=rfl
theorem Pz (d:Pc) (ps:List Pc):W7 (d::ps)=d.w+W7 ps:=rfl
variable {d:Pc}
theorem Aaq.w1 (h:Aaq d):1<=d.w:=by
 obtain⟨f,hf,⟨_,_,h⟩ | ⟨_,L,_,_,_,h⟩⟩:=h
 ·omega
 rw[h];split<;>omega
theorem Aaq.pre (h:Aaq d):∃f,FrP f/\∃L,1<=L/\L<=f.length/\d.b=f.take L:=by
 obtain⟨f,hf,⟨_,h,_⟩ | ⟨_,L,h1,h2,h3,_⟩⟩:=h
 ·exact⟨f,hf,f.length,by have:=hf.l1;omega,Aj _,by rw[List.take_length];exact h⟩
 exact⟨f,hf,L,h1,Nat.le_of_lt h2,h3⟩
theorem Aaq.len (h:Aaq d):1<=d.b.length/\d.b.length<=32:=by
 obtain⟨f,hf,L,h1,h2,h3⟩:=h.pre
 have:=hf.l2
 rw[h3,A5]
 omega
theorem Ahl:∀{ps:List Pc},(∀d∈ps,Aaq d)->(∀x,(Rb ps)[0]? = some x->x=90)/\(∀x,(Rb ps)[1]? = some x->90<=x)/\∀x,(Rb ps)[2]? = some x->1<=x
 | [],_=>by simp[Rb]
 | d::ps,h=>by
  have ih:=Ahl (ps:=ps) fun x hx=>h x (List.mem_cons_of_mem _ hx)
  obtain⟨f,hf,L,h1,h2,h3⟩:=(h d (List.mem_cons_self ..)).pre
  obtain⟨k,t,he,_⟩:=hf.hd
  rw[Kw,h3,he]
  match L,h1 with
  | 1,_ =>
   refine⟨fun x hx=>?_,fun x hx=>?_,fun x hx=>?_⟩
   ·simpa using hx.symm
   ·have:=ih.1 x (by simpa using hx);omega
   have:=ih.2.1 x (by simpa using hx);omega
  | 2,_ =>
   refine⟨fun x hx=>?_,fun x hx=>?_,fun x hx=>?_⟩
   ·simpa using hx.symm
   ·have:165=x:=by simpa using hx
    omega
   have:=ih.1 x (by simpa using hx);omega
  | L+3,_ =>
   refine⟨fun x hx=>?_,fun x hx=>?_,fun x hx=>?_⟩
   ·simpa using hx.symm
   ·have:165=x:=by simpa using hx
    omega
   have:1=x:=by simpa using hx
   omega
theorem Axw:∀{ps:List Pc},(∀d∈ps,Aaq d)->By (Rb ps)
 | [],_=>by intro x hx;simp[Rb] at hx
 | d::ps,h=>by
  have ih:=Axw (ps:=ps) fun x hx=>h x (List.mem_cons_of_mem _ hx)
  obtain⟨f,hf,L,h1,h2,h3⟩:=(h d (List.mem_cons_self ..)).pre
  rw[Kw,h3]
  exact fun x hx=>(A0.1 hx).elim (fun h=>hf.by' x (Aq h)) (ih x)
variable {x:Int} {r:List Int}
theorem Sf.tail (h:Sf (x::r)):Sf r:=by
 obtain⟨f,hf,L,o,h1,h2,h3⟩:=h
 refine⟨f,hf,L,o+1,by omega,h2,?_⟩
 rw[<- List.drop_drop,<- h3]
 rfl
variable {s:List Int}
theorem Sf.get (h:Sf s) (hne:s≠[]):∃f,FrP f/\∃o,1<=o/\o+s.length<=f.length/\∀i,i<s.length->s[i]? = f[o+i]?:=by
 obtain⟨f,hf,L,o,h1,h2,rfl⟩:=h
 have h0:0<((f.take L).drop o).length:=List.length_pos_iff.2 hne
 refine⟨f,hf,o,h1,?_,fun i hi=>?_⟩
 ·simp at h0 ⊢
  omega
 rw[Bd,Ag]
 simp at hi
 omega
theorem Sf.head (h:Sf (90::165::r)):r.length<=2:=by
 obtain⟨f,hf,o,h1,h2,h3⟩:=h.get (List.cons_ne_nil _ _)
 have a:=h3 0 (by simp)
 have b:=h3 1 (by simp)
 simp only[A6] at h2
 have:=hf.in' o h1 a.symm b.symm
 omega
theorem Afs:∀l:List Int,2*Sq l<=l.length
 | []=>by simp[Sq]
 | [x]=>by simp[Sq]
 | x::y::r=>by
  have h1:=Afs r
  have h2:=Afs (y::r)
  rw[Sq]
  split
  ·rename_i h
   have hy:y=165:=by simpa using h.2
   rw[Sq,if_neg (by rw[hy];simp)]
   simp only[A6]
   omega
  simp only[A6] at h2 ⊢
  omega
theorem Sf.cnt:∀{s:List Int},Sf s->Sq s<=2
 | [],_=>by simp[Sq]
 | x::r,h=>by
  rw[Sq]
  split
  ·rename_i hh
   obtain⟨rfl,h2⟩:=hh
   match r,h2 with
   | y::r,h2 =>
    have hy:y=165:=by simpa using h2
    subst hy
    have:=h.head
    have:=Afs r
    rw[Sq,if_neg (by simp)]
    omega
  have:=Sf.cnt h.tail
  omega
variable {q:List Int}
theorem Ake (h:q.length<4):(Eh (90::165::q)).2.2=false:=by
 match q,h with
 | [],_=>rfl
 | [a],_=>rfl
 | [a,b],_=>rfl
 | [a,b,c],_=>rfl
 | a::b::c::d::q,h=>simp at h;omega
theorem Axt (h:¬(x=90/\q.head? = some 165)) (hp:(Eh (x::q)).2.2=true):Eh (x::q)=(⟨2,0,[]⟩,1,true):=by
 match q with
 | [] =>
  have e:Eh [x]=if x≠90 then (⟨2,0,[]⟩,1,true) else (⟨0,0,[]⟩,0,false):=rfl
  rw[e] at hp ⊢
  by_cases hx:x≠90
  ·rw[if_pos hx]
  rw[if_neg hx] at hp;cases hp
 | y::r =>
  have h3:x≠90\/y≠165:=by
   by_cases hx:x=90
   ·exact .inr fun hy=>h ⟨hx,by rw[hy];rfl⟩
   exact .inl hx
  show (if x≠90\/y≠165 then _ else _)=_
  rw[if_pos h3]
structure BSt (b s:List Int) (ps:List Pc):Prop where
  eq:b=s++Rb ps
  sf:s=[]\/Sf s
  ok:∀d∈ps,Aaq d
theorem Sf.by' (h:Sf s):By s:=by
 obtain⟨f,hf,L,o,_,_,rfl⟩:=h
 exact fun x hx=>hf.by' x (Aq (Ay hx))
variable {ps:List Pc}
theorem BSt.by' {b s:List Int} (h:BSt b s ps):By b:=by
 rw[h.eq]
 exact fun x hx=>(A0.1 hx).elim (fun hs=>h.sf.elim (fun e=>by rw[e] at hs;cases hs) fun hf=>hf.by' x hs) (Axw h.ok x)
def gOf (c:Int):Bool:=c == 2||c == 7||c == 4
def Ayw (b s:List Int) (ps:List Pc) (g:Bool):Prop:=∃s' k,BSt (I8 b) s' (ps.drop k)/\k<=ps.length/\vs s' (gOf (Eh b).1.code)+W7 (ps.drop k)+(if (Eh b).1.code=2/\g=true then 0 else 1)<=vs s g+W7 ps
variable {g:Bool}
theorem A1u {b r:List Int} (h:BSt b (x::r) ps) (hp:(Eh b).2.2=true):Ayw b (x::r) ps g:=by
 have hF:=Ahl h.ok
 have hB:=h.by'
 have hsf:Sf (x::r):=h.sf.elim (fun e=>by cases e) id
 have hb:=h.eq
 have hn:BSt (I8 b) r (ps.drop 0)->BSt (I8 b) r (ps.drop 0):=id
 by_cases hh:x=90/\(r++Rb ps).head? = some 165
 ·obtain⟨rfl,h2⟩:=hh
  match r,h2 with
  | [],h2 =>
   have:=hF.1 165 (by rw[<- h2];cases Rb ps<;>rfl)
   omega
  | y::r,h2 =>
   have hy:y=165:=by simpa using h2
   subst hy
   have hr:=hsf.head
   rw[List.cons_append,List.cons_append] at hb
   rw[hb] at hp hB
   have hl:4<=(r++Rb ps).length:=by
    by_cases hl:4<=(r++Rb ps).length
    ·exact hl
    rw[Ake (by omega)] at hp;cases hp
   have key:∃b2 b3 b4 b5 t,r++Rb ps=b2::b3::b4::b5::t/\200<b4*256+b5:=by
    match hq:r++Rb ps,hl with
    | b2::b3::b4::b5::t,_ =>
     refine⟨b2,b3,b4,b5,t,rfl,?_⟩
     rw[hq] at hB
     have h5:=hB b5 (by simp)
     have h4:1<=b4:=by
      have e:(r++Rb ps)[2]? = some b4:=by rw[hq];rfl
      match r,hr with
      | [],_=>exact hF.2.2 _ e
      | [_],_=>have:=hF.2.1 _ e;omega
      | [_,_],_=>have:=hF.1 _ e;omega
      | _::_::_::_,hr=>simp at hr
     omega
   obtain⟨b2,b3,b4,b5,t,hq,h200⟩:=key
   have hf:Eh b=(⟨7,0,[]⟩,1,true):=by rw[hb,hq,Po,if_neg (by decide),if_pos h200]
   refine⟨165::r,0,⟨?_,.inr hsf.tail,h.ok⟩,Ae _,?_⟩
   ·unfold I8
    rw[hf,hb]
    rfl
   rw[hf]
   simp[gOf,vs,Sq]
   omega
 have hf:Eh b=(⟨2,0,[]⟩,1,true):=by
  rw[hb] at hp ⊢
  exact Axt hh hp
 refine⟨r,0,⟨?_,.inr hsf.tail,h.ok⟩,Ae _,?_⟩
 ·unfold I8
  rw[hf,hb]
  rfl
 rw[hf]
 have hc:Sq (x::r)=Sq r:=by
  rw[Sq,if_neg,Bm]
  intro h3
  refine hh ⟨h3.1,?_⟩
  match r,h3.2 with
  | y::r,h=>exact h
 cases g<;>simp[gOf,vs,hc]<;>omega
theorem A47:∀{ps:List Pc},(∀d∈ps,Aaq d)->∀o,1<=o->o<=(Rb ps).length->∃s' k,1<=k/\k<=ps.length/\(Rb ps).drop o=s'++Rb (ps.drop k)/\(s'=[]\/Sf s')
 | [],_,o,h1,h2=>by simp[Rb] at h2;omega
 | d::ps,h,o,h1,h2=>by
  by_cases ho:o<=d.b.length
  ·refine⟨d.b.drop o,1,Aj _,by simp,?_,?_⟩
   ·rw[Kw,List.drop_append_of_le_length ho]
    rfl
   obtain⟨f,hf,L,_,h4,h5⟩:=(h d (List.mem_cons_self ..)).pre
   exact .inr ⟨f,hf,L,o,h1,h4,by rw[h5]⟩
  rw[Kw,Bo] at h2
  obtain⟨s',k,k1,k2,k3,k4⟩:=A47 (ps:=ps) (fun x hx=>h x (List.mem_cons_of_mem _ hx)) (o - d.b.length) (by omega) (by omega)
  refine⟨s',k+1,by omega,by simp;omega,?_,k4⟩
  rw[Kw,List.drop_append,List.drop_eq_nil_of_le (by omega),List.nil_append,k3]
  rfl
theorem Af6:∀{ps:List Pc},(∀d∈ps,Aaq d)->∀k,k<=ps.length->W7 (ps.drop k)+k<=W7 ps
 | _,_,0,_=>Aj _
 | [],_,k+1,h=>by simp at h
 | d::ps,h,k+1,hk=>by
  have h1:=Af6 (ps:=ps) (fun x hx=>h x (List.mem_cons_of_mem _ hx)) k (by simpa using hk)
  have h2:=(h d (List.mem_cons_self ..)).w1
  rw[Pz,List.drop_succ_cons]
  omega
theorem Z0 (g:Bool):vs [] g=0:=by simp[vs,Sq]
theorem Ar9 (h:s=[]\/Sf s) (g:Bool):vs s g<=3:=by
 rcases h with rfl | h
 ·rw[Z0];omega
 have:=h.cnt
 unfold vs
 split<;>omega
theorem A1v {b:List Int} (h:BSt b [] ps) (hp:(Eh b).2.2=true):Ayw b [] ps g:=by
 have hb:=h.eq
 rw[List.nil_append] at hb
 match ps with
 | [] =>
  rw[hb] at hp
  cases hp
 | d::ps =>
  have hok:∀x∈ps,Aaq x:=fun x hx=>h.ok x (List.mem_cons_of_mem _ hx)
  have hF:=Ahl hok
  have hv:vs [] g=0:=Z0 g
  rw[Kw] at hb
  obtain⟨f,hf,⟨ht,hd,hw⟩ | ⟨ht,L,h1,h2,hd,hw⟩⟩:=h.ok d (List.mem_cons_self ..)
  ·obtain⟨k,p,hk⟩:=hf.ok
   have e:Eh b=(⟨0,k,p⟩,(f.length:Int),true):=by rw[hb,hd];exact hk _
   refine⟨[],1,⟨?_,.inl rfl,hok⟩,by simp,?_⟩
   ·unfold I8
    rw[e,hb,hd]
    simp
   rw[e,Z0,hv,Pz,hw]
   simp
   omega
  obtain⟨k,t,he,hk⟩:=hf.hd
  have hfl:=hf.l1
  have hfl2:=hf.l2
  have hB:=h.by'
  by_cases hL1:L=1
  ·subst hL1
   rw[he] at hd
   have hd:d.b=[90]:=hd
   rw[hd] at hb
   have hb:b=90::Rb ps:=hb
   have e:Eh b=(⟨2,0,[]⟩,1,true):=by
    rw[hb] at hp ⊢
    refine Axt (fun hh=>?_) hp
    have:=hF.1 165 (by rw[<- hh.2];cases Rb ps<;>rfl)
    omega
   refine⟨[],1,⟨?_,.inl rfl,hok⟩,by simp,?_⟩
   ·unfold I8
    rw[e,hb]
    rfl
   rw[e,Z0,hv,Pz,hw]
   have h4:(if 1<=4 then 1 else 3)=1:=rfl
   rw[h4]
   show 0+W7 ps+_<=_
   split<;>omega
  have hb2:∃q,d.b=90::165::q/\d.b.length=L:=by
   refine⟨(f.take L).drop 2,?_,by rw[hd,A5];omega⟩
   rw[hd,he]
   match L,h1,hL1 with
   | L+2,_,_=>rfl
   | 1,_,h=>exact absurd rfl h
  obtain⟨q,hq,hql⟩:=hb2
  have hsf:Sf (165::q):=⟨f,hf,L,1,Aj _,Nat.le_of_lt h2,by rw[<- hd,hq];rfl⟩
  have hnx:∀c,Eh b=(⟨c,0,[]⟩,1,true)->BSt (I8 b) (165::q) ((d::ps).drop 1):=fun c e=>by
   refine⟨?_,.inr hsf,hok⟩
   unfold I8
   rw[e,hb,hq]
   rfl
  rw[hq] at hb
  have hb:b=90::165::(q++Rb ps):=hb
  have hl:4<=(q++Rb ps).length:=by
   by_cases hl:4<=(q++Rb ps).length
   ·exact hl
   rw[hb,Ake (by omega)] at hp;cases hp
  match hqq:q++Rb ps,hl with
  | b2::b3::b4::b5::tt,_ =>
   rw[hqq] at hb
   rw[hb] at hB
   have h5:=hB b5 (by simp)
   have hqL:q.length+2=L:=by rw[<- hql,hq];rfl
   by_cases hL4:L<=4
   ·have h4:1<=b4:=by
     have e:(q++Rb ps)[2]? = some b4:=by rw[hqq];rfl
     match q,hqL with
     | [],_=>exact hF.2.2 _ e
     | [_],_=>have:=hF.2.1 _ e;omega
     | [_,_],_=>have:=hF.1 _ e;omega
     | _::_::_::_,hr=>simp at hr;omega
    have e:Eh b=(⟨7,0,[]⟩,1,true):=by rw[hb,Po,if_neg (by decide),if_pos (by omega)]
    refine⟨165::q,1,hnx 7 e,by simp,?_⟩
    have hc:Sq (165::q)=0:=by
     have h6:=Afs q
     have hd2:=hd
     rw[he,hq] at hd2
     match L,hL4,h1,hL1,hd2 with
     | 2,_,_,_,hd2=>cases hd2;simp[Sq]
     | 3,_,_,_,hd2=>cases hd2;simp[Sq]
     | 4,_,_,_,hd2=>cases hd2;simp[Sq]
    rw[e,hv,Pz,hw,if_pos hL4]
    simp[gOf,vs,hc]
    omega
   rw[if_neg hL4] at hw
   have hd2:=hd
   rw[he,hq] at hd2
   obtain⟨L,rfl⟩:∃M,L=M+5:=⟨L - 5,by omega⟩
   have hq3:∃u,q=1::k::0::u:=by
    refine⟨(((f.length:Int) - 10)::t).take L,?_⟩
    injection hd2 with _ hd2
    injection hd2 with _ hd2
   obtain⟨u,rfl⟩:=hq3
   have hb5:b5=90/\L=0\/b5=(f.length:Int) - 10/\1<=L:=by
    have e:(1::k::0::u++Rb ps)[3]? = some b5:=by rw[hqq];rfl
    match L with
    | 0 =>
     have hu:u=[]:=by
      have:(1::k::0::u).length+2=5:=hqL
      simp at this
      exact this
     rw[hu] at e
     exact .inl ⟨hF.1 _ e,rfl⟩
    | L+1 =>
     injection hd2 with _ hd2
     injection hd2 with _ hd2
     injection hd2 with _ hd2
     injection hd2 with _ hd2
     injection hd2 with _ hd2
     rw[hd2] at e
     exact .inr ⟨by simpa using e.symm,by omega⟩
   have hbb:b2=1/\b3=k/\b4=0/\tt.length+6=b.length:=by
    have h0:=congrArg List.length hqq
    injection hqq with a1 hqq
    injection hqq with a2 hqq
    injection hqq with a3 hqq
    exact⟨a1.symm,a2.symm,a3.symm,by rw[hb];simp at h0 ⊢;omega⟩
   obtain⟨rfl,rfl,rfl,htl⟩:=hbb
   rw[hb,Po,if_neg (by decide),if_neg (by omega)] at hp
   by_cases hlen:(tt.length:Int)<0*256+b5+4
   ·rw[if_pos hlen] at hp;cases hp
   rw[if_neg hlen] at hp
   by_cases hcr:Te (1::b3::0::b5::tt.take (0*256+b5).toNat)≠Aq6 ((tt.drop (0*256+b5).toNat).take 4)
   ·have e:Eh b=(⟨4,0,[]⟩,1,true):=by rw[hb,Po,if_neg (by decide),if_neg (by omega),if_neg hlen,if_pos hcr]
    refine⟨_,1,hnx 4 e,by simp,?_⟩
    have:=hsf.cnt
    rw[e,hv,Pz,hw]
    simp[gOf,vs]
    omega
   have e:∃p,Eh b=(⟨0,b3,p⟩,0*256+b5+10,true):=⟨_,by rw[hb,Po,if_neg (by decide),if_neg (by omega),if_neg hlen,if_neg hcr,if_neg (by decide),if_neg (by omega)]⟩
   obtain⟨p,e⟩:=e
   have hbl:b.length=L+5+(Rb ps).length:=by
    rw[h.eq,List.nil_append,Kw,Bo,hql]
   obtain⟨s',k',k1,k2,k3,k4⟩:=A47 hok ((0*256+b5+10).toNat - (L+5)) (by omega) (by omega)
   have hvd:=Af6 hok k' k2
   have hv3:=Ar9 k4 false
   refine⟨s',k'+1,⟨?_,k4,fun x hx=>hok x (Ay (i:=k') hx)⟩,by simp;omega,?_⟩
   ·unfold I8
    rw[e]
    show b.drop (0*256+b5+10).toNat=s'++Rb (ps.drop k')
    rw[h.eq,List.nil_append,Kw,List.drop_append,List.drop_eq_nil_of_le (by omega),List.nil_append,hql,k3]
   rw[e,hv,Pz,hw,List.drop_succ_cons]
   show vs s' false+_+_<=_
   simp
   omega
theorem step {b s:List Int} (h:BSt b s ps) (hp:(Eh b).2.2=true):Ayw b s ps g:=by
 match s with
 | []=>exact A1v h hp
 | x::r=>exact A1u h hp
end
end Go.Proofs.YtkkimgjinbaemaaGreat
