/- The walk. -/
import Derived.Test.YtkkimgjinbaemaaGreatKai
noncomputable section
namespace Go.Proofs.YtkkimgjinbaemaaGreat
open Go.RowKit
set_option linter.unusedVariables false
set_option linter.unusedSimpArgs false
set_option linter.defProp false
set_option linter.unusedSectionVars false
set_option maxRecDepth 100000
set_option maxHeartbeats 4000000
section
variable {P:Program}
theorem VX.rangeFnA {n m : Nat} {γ : Type} {sl : List (Nat × AV)} {K : Exit -> St -> Prop} {g : Tmp} {ps : List Tmp} {asg : Code} {body : Code} {gf : FuncId} {caps : List AV} {items : List (List AV)} (hit : Ys P gf caps items) (f : γ -> List Ob) (M : Nat) (hM : ∀ x, (f x).length = M) (hg : E5 sl g = .fn gf caps)
    (hlive:∀x id,(St.mk sl (f x)).o id≠.gone->((St.mk sl (f x)).o id).live) (hps:∀p∈ps,p<n) (hcl:∀vs∈items,vs.length=ps.length/\Ny (fun _=>none) vs=vs)
    (Inv:Nat->γ->Prop) (x0:γ) (hI0:Inv 0 x0) (hround:∀i vs x,items[i]? = some vs->Inv i x->VX P n M asg ⟨Sy ps vs sl,f x⟩ (fun e s=>e=.normal/\VX P n M body s (Awv M sl f (Inv (i+1)) K))) (hdone:∀x,Inv items.length x->K .normal ⟨sl,f x⟩) :
    VX P n m (.rangeFunc (.tmp g) ps.toArray (asg) body) ⟨sl,f x0⟩ K:=by
  have key : ∀ (k i : Nat) (x : γ), i + k = items.length -> Inv i x -> ∃ e s, K e s /\ ∃ (xs : Nat -> γ) (stop : Nat), xs i = x /\ i <= stop /\ stop <= items.length /\
      (∀j vs,i<=j->j<stop->items[j]? = some vs->∃sA,VW P n M asg ⟨Sy ps vs sl,f (xs j)⟩ (fun e s=>e=.normal/\s=sA)/\VW P n M body sA (Jv M sl (f (xs (j+1))) True fun _ _=>False)) /\
      (stop=items.length->e=.normal/\s=⟨sl,f (xs stop)⟩)/\(∀vs,items[stop]? = some vs->∃sA,VW P n M asg ⟨Sy ps vs sl,f (xs stop)⟩ (fun e s=>e=.normal/\s=sA)/\VW P n M body sA (Jv M sl [] False fun e' s'=>e'=e/\s'=s)):=by
    intro k
    induction k with
    | zero =>
      intro i x hi hI
      refine ⟨.normal, ⟨sl, f x⟩, hdone x (by have : i = items.length := by omega
                                              rw[<- this];exact hI),fun _=>x,i,rfl,Aj _,by omega,fun j vs h1 h2=>by omega,fun _=>⟨rfl,rfl⟩,fun vs h=>?_⟩
      have:=(Ab.1 h).1
      omega
    | succ k ih =>
      intro i x hi hI
      obtain⟨vs,hvs⟩:∃vs,items[i]? = some vs:=⟨_,Aa (by omega)⟩
      obtain⟨e0,sA,hA,rfl,e1,s1,h1,h2⟩:=hround i vs x hvs hI
      have hA:VW P n M asg ⟨Sy ps vs sl,f x⟩ (fun e s=>e=.normal/\s=sA):=hA
      have other : ∀ (e : Exit) (s : St), K e s -> Jv M sl [] False (fun e' s' => e' = e /\ s' = s) e1 s1 -> ∃ e s, K e s /\ ∃ (xs : Nat -> γ) (stop : Nat), xs i = x /\ i <= stop /\ stop <= items.length /\
          (∀j vs,i<=j->j<stop->items[j]? = some vs->∃sA,VW P n M asg ⟨Sy ps vs sl,f (xs j)⟩ (fun e s=>e=.normal/\s=sA)/\VW P n M body sA (Jv M sl (f (xs (j+1))) True fun _ _=>False)) /\
          (stop=items.length->e=.normal/\s=⟨sl,f (xs stop)⟩)/\(∀vs,items[stop]? = some vs->∃sA,VW P n M asg ⟨Sy ps vs sl,f (xs stop)⟩ (fun e s=>e=.normal/\s=sA)/\VW P n M body sA (Jv M sl [] False fun e' s'=>e'=e/\s'=s)):=by
        intro e s hK hR
        refine⟨e,s,hK,fun _=>x,i,rfl,Aj _,by omega,fun j vs h1 h2=>by omega,fun h=>by omega,fun vs' h=>?_⟩
        rw[hvs] at h
        injection h with h
        subst h
        refine⟨sA,hA,h1.mono ?_⟩
        rintro e' s' ⟨rfl,rfl⟩
        exact hR
      cases e1 with
      | normal =>
        obtain⟨x',h3,h4⟩:=h2
        obtain⟨e,s,hK,xs,stop,q1,q2,q3,q4,q5,q6⟩:=ih (i+1) x' (by omega) h3
        refine⟨e,s,hK,fun j=>if j=i then x else xs j,stop,if_pos rfl,by omega,q3,fun j vs' hj1 hj2 hjv=>?_,fun h=>?_,fun vs' h=>?_⟩
        · by_cases e0:j=i
          · subst e0
            rw[hvs] at hjv
            injection hjv with hjv
            subst hjv
            simp only[if_true]
            rw[if_neg (by omega),q1]
            refine⟨sA,hA,h1.mono ?_⟩
            rintro e' s' ⟨rfl,rfl⟩
            exact⟨h4,trivial⟩
          · simp only
            rw[if_neg e0,if_neg (by omega)]
            exact q4 j vs' (by omega) hj2 hjv
        · obtain⟨g1,g2⟩:=q5 h
          exact⟨g1,by simp only;rw[if_neg (by omega)];exact g2⟩
        · simp only
          rw[if_neg (by omega)]
          exact q6 vs' h
      | ret=>obtain⟨ob,h3,h4⟩:=h2;exact other _ _ h4 ⟨ob,h3,rfl,rfl⟩
      | exit id=>obtain⟨ob,h3,h4⟩:=h2;exact other _ _ h4 ⟨ob,h3,rfl,rfl⟩
      | goto t=>obtain⟨ob,h3,h4⟩:=h2;exact other _ _ h4 ⟨ob,h3,rfl,rfl⟩
      | panic ch=>exact h2.elim
      | outgrown=>exact h2.elim
  obtain⟨e,s,hK,xs,stop,q1,q2,q3,q4,q5,q6⟩:=key items.length 0 x0 (by omega) hI0
  refine⟨e,s,?_,hK⟩
  have hex:∀j vs,∃sA,items[j]? = some vs->j<=stop->VW P n M asg ⟨Sy ps vs sl,f (xs j)⟩ (fun e s=>e=.normal/\s=sA)/\VW P n M body sA (Jv M sl (f (xs (j+1))) (j+1<=stop) fun e' s'=>e'=e/\s'=s):=fun j vs=>by
    by_cases hc:items[j]? = some vs/\j<=stop
    · by_cases e0:j=stop
      · subst e0
        obtain⟨sA,g1,g2⟩:=q6 vs hc.1
        exact⟨sA,fun _ _=>⟨g1,g2.mono fun e' s' h=>h.jump⟩⟩
      · obtain⟨sA,g1,g2⟩:=q4 j vs (Ae _) (by omega) hc.1
        exact⟨sA,fun _ _=>⟨g1,g2.mono fun e' s' h=>h.mono (fun _=>by omega) fun _ _ h=>h.elim⟩⟩
    · exact⟨⟨[],[]⟩,fun h1 h2=>absurd ⟨h1,h2⟩ hc⟩
  have:=VW.rangeFnA (m:=m) (K:=fun e' s'=>e'=e/\s'=s) (body:=body) (asg:=asg) (ps:=ps) (n:=n) (sl:=sl) (g:=g) hit (fun j=>f (xs j)) hg (fun j id=>hlive (xs j) id) hps (fun j vs=>(hex j vs).choose) hcl (fun j=>j<=stop) (Ae _) (fun j vs hj hI=>?_) (fun j vs hj hI=>?_) (fun hI=>?_)
  · simp only[q1] at this
    exact this
  · rw[hM]
    exact ((hex j vs).choose_spec hj hI).1
  · rw[hM]
    exact ((hex j vs).choose_spec hj hI).2
  · have hs:stop=items.length:=by omega
    obtain⟨g1,g2⟩:=q5 hs
    rw[hs] at g2
    exact⟨g1.symm,g2.symm⟩
abbrev Dh:=@VX.rangeFnA
end
section
theorem Ac4 (b:List Int):(Ez b).1.pay.length<=b.length:=by
 unfold Ez
 split
 ·simp
 ·split<;>simp
 split
 ·simp
 split
 ·simp only
  repeat' split
  all_goals simp
  all_goals omega
 simp
variable {l:List E7}
theorem Rk {a:E7} (h:∀x∈l,x.pay.length<=256) (ha:a.pay.length<=256):∀x∈l++[a],x.pay.length<=256:=fun x hx=>by
 rcases A0.1 hx with h1 | h1
 ·exact h x h1
 rw[An.1 h1];exact ha
def Lk (n:Int):List (E7×Int)->Int->Bool->List E7->Int×Bool×List E7
 | [],u,g,l=>(u,g,l)
 | p::ps,u,g,l=>if p.1.code=2/\g=true then Lk n ps (u+p.2) g l else if n<=((l++[p.1]).length:Int) then (u+p.2,(p.1.code == 2||p.1.code == 7||p.1.code == 4),l++[p.1]) else Lk n ps (u+p.2) (p.1.code == 2||p.1.code == 7||p.1.code == 4) (l++[p.1])
variable {L:List (E7×Int)} {j:Nat} {a:E7×Int} {n u:Int}
theorem R3 {g:Bool} (ha:L[j]? = some a) (h1:a.1.code=2) (h2:g=true):Lk n (L.drop j) u g l=Lk n (L.drop (j+1)) (u+a.2) g l:=by
 obtain⟨hj,rfl⟩:=Ab.1 ha
 rw[List.drop_eq_getElem_cons hj,Lk,if_pos ⟨h1,h2⟩]
variable {g g':Bool}
theorem Xp (ha:L[j]? = some a) (h1:¬(a.1.code=2/\g=true)) (h2:g'=(a.1.code == 2||a.1.code == 7||a.1.code == 4)) (hn:¬n<=((l++[a.1]).length:Int)):Lk n (L.drop j) u g l=Lk n (L.drop (j+1)) (u+a.2) g' (l++[a.1]):=by
 obtain⟨hj,rfl⟩:=Ab.1 ha
 rw[List.drop_eq_getElem_cons hj,Lk,if_neg h1,if_neg hn,h2]
theorem Aek (ha:L[j]? = some a) (h1:¬(a.1.code=2/\g=true)) (h2:g'=(a.1.code == 2||a.1.code == 7||a.1.code == 4)) (hn:n<=((l++[a.1]).length:Int)):Lk n (L.drop j) u g l=(u+a.2,g',l++[a.1]):=by
 obtain⟨hj,rfl⟩:=Ab.1 ha
 rw[List.drop_eq_getElem_cons hj,Lk,if_neg h1,if_pos hn,h2]
def TkR (n:Int) (s:T5) (d:T5×List E7):Prop:=∃u,Lk n (J1 s.buf) 0 s.gar []=(u,d.1.gar,d.2)/\d.1.buf=s.buf.drop u.toNat
def Ayl (s:Fi) (d:Fi×Gj):Prop:=(s.op=false->d=(s,⟨false,[]⟩))/\(s.op=true->∃e,TkR 4 s.st e/\d=(⟨true,false,e.1⟩,⟨true,(if s.dr then [⟨15,0,[]⟩] else [])++e.2⟩))
theorem Py (n k:Int):PP 122 [] [.li k,.iptr false [.li n] 0] [] (.lb (decide (n<=k))):=by
 refine El Tryz.func122 ?_
 iterate 2 refine Bw ?_
 exact .ret (rL Dy)
theorem Ag2 (s:T5) (n:Int) (hl:s.buf.length<=256) (hb:By s.buf):Ct 72 [s.g,.fn 122 [.iptr false [.li n] 0]] (fun d:T5×List E7=>.tup [d.1.g,.mItem d.2]) (fun d=>By d.1.buf/\d.1.buf.length<=256/\d.2.length<=256/\(∀x∈d.2,x.pay.length<=256)/\TkR n s d):=by
 refine Ev Tryz.func72 ?_
 refine Bq ?_
 refine VX.scope ?_
 refine Bq ?_
 refine VX.D<|.seq ?_
 refine VX.label ?_
 refine B9<|.L Dy (Vk s.buf)<|.block ?_
 refine Cl 3 0 116 3 (by decide) rfl rfl ?_
 simp[go_sem,-Prod.exists]
 refine Cz (s':=⟨[(2,.ptr 0 0),(3,.ptr 1 0),(4,.ptr 2 0),(6,.ptr 3 0),(7,.ptr 4 0),(8,.ptr 5 0),(15,.fn 139 [.iptr false [.sl 1 (tY s.buf)] 0])],(fun (y1:Int×Bool×(List E7))=>[.box 98 [.mY s.buf,.lb s.gar],.box 169 [.fn 122 [.iptr false [.li n] 0]],.box 98 [.nil 1,.lb false],.box 113 [.own 6 y1.2.2.length],.box 3 [.li y1.1],.box 4 [.lb y1.2.1],.row 116 3 false false (Yi y1.2.2)]) (0,s.gar,[])⟩) (wQ [0,1,2,3,4,5,6] ?_ ?_) ?_
 ·simp[go_sem]
 ·simp[go_sem]
 refine Dh (Acq s.buf (by omega) hb) (fun (y1:Int×Bool×(List E7))=>[.box 98 [.mY s.buf,.lb s.gar],.box 169 [.fn 122 [.iptr false [.li n] 0]],.box 98 [.nil 1,.lb false],.box 113 [.own 6 y1.2.2.length],.box 3 [.li y1.1],.box 4 [.lb y1.2.1],.row 116 3 false false (Yi y1.2.2)]) 7 (fun _=>rfl) (by rfl) (fun _=>Qm rfl) (by decide) ?_ (fun j1 y1=>y1.1=Tt s.buf j1/\y1.2.2.length<=j1/\(∀x∈y1.2.2,x.pay.length<=256)/\Lk n ((J1 s.buf).drop j1) y1.1 y1.2.1 y1.2.2=Lk n (J1 s.buf) 0 s.gar []) (0,s.gar,[]) (⟨rfl,by simp,(fun x h=>by cases h),rfl⟩) (fun j1 vs y1 hj1 hy1=>?_) (fun y1 hy1=>?_)
 ·intro vs hvs
  obtain⟨a,_,rfl⟩:=A4.1 hvs
  simp[go_sem]
 ·
  obtain⟨a1,ha1,rfl⟩:=Ef hj1
  have hjl:j1<(J1 s.buf).length:=(Ab.1 ha1).1
  have hg:=Tu _ _ _ _ ha1
  have ho:=Ts hb (k:=j1+1) (by omega)
  have ho0:=Ts hb (k:=j1) (by omega)
  have hrl:=Abz hb (k:=j1) (by omega)
  have hsz:Tt s.buf (j1+1)=y1.1+a1.2:=by rw[Tt,hy1.1,hg.2]
  have hpy:a1.1.pay.length<=256:=by rw[hg.2];exact Ak (Ac4 _) (by omega)
  refine Bq ?_
  refine Ch ?_
  refine⟨rfl,?_⟩
  refine Db ?_
  have hw1:=Dw (y1.1+a1.2:Int)
  refine Bu hw1<|.seq ?_
  refine Bu hw1<|.block ?_
  refine Bu hw1 ?_
  refine Br ?_ ?_<;>intro h23
  ·refine B9<|.H hw1 ?_
   refine Br ?_ ?_<;>intro h25
   ·refine Bt ?_
    refine⟨((y1.1+a1.2),y1.2.1,y1.2.2),?_,⟨[0,1,2,3,4,5,6],En (by decide) ?_ ?_,Fu rfl⟩⟩
    ·exact⟨hsz.symm,by dsimp only;omega,hy1.2.2.1,(R3 ha1 h23 h25).symm.trans hy1.2.2.2⟩
    ·simp[go_sem]
    simp[go_sem,hw1]
   refine Bp<|.H1 hw1 ?_
   refine Bu hw1 ?_
   refine B3 (fun K kk=>by simp[go_sem,hw1];refine .lo (Py n _) rfl (by simp[AV.cln,Ff]) ?_;simp[go_sem,hw1];exact kk) ?_
   refine Br ?_ ?_<;>intro h36
   ·refine Bt ⟨[.box 98 [.mY s.buf,.lb s.gar],.box 169 [.fn 122 [.iptr false [.li n] 0]],.box 98 [.nil 1,.lb false],.box 113 [.own 6 ((y1.2.2++([a1.1])).length)],.box 3 [.li (y1.1+a1.2)],.box 4 [.lb true],.row 116 3 false false (Yi (y1.2.2++([a1.1])))],⟨[0,1,2,3,4,5,6],En (by decide) ?_ ?_,Fu rfl⟩,?_⟩
    ·simp[go_sem]
    ·simp[go_sem,hw1]
    refine Cw (fun K kk=>by simp[go_sem,hw1];(repeat refine aK ?_);refine .lo cB rfl (by simp[AV.cln,Ff]) ?_;simp[go_sem,hw1];exact kk) ?_
    refine B2 Dy 6 ?_
    exact .ret (Eu hw1 (⟨s.buf.drop ((y1.1+a1.2).toNat),true⟩,y1.2.2++([a1.1])) (by exact⟨hb.drop _,by simp;omega,by simp;omega,Rk hy1.2.2.1 hpy,_,hy1.2.2.2.symm.trans (Aek ha1 (by (simp[h23,h25];done)) (by (simp[h23];done)) (by simp;omega)),rfl⟩))
   refine Bp ?_
   refine⟨((y1.1+a1.2),true,y1.2.2++([a1.1])),?_,⟨[0,1,2,3,4,5,6],En (by decide) ?_ ?_,Fu rfl⟩⟩
   ·first | exact⟨hsz.symm,by dsimp only;omega,hy1.2.2.1,(R3 ha1 h23 h25).symm.trans hy1.2.2.2⟩ | exact⟨hsz.symm,by simp;omega,Rk hy1.2.2.1 hpy,(Xp ha1 (by (simp[h23,h25];done)) (by (simp[h23];done)) (by simp;omega)).symm.trans hy1.2.2.2⟩
   ·simp[go_sem]
   simp[go_sem,hw1]
  refine Ce (by rfl) fun K1 hK1=>?_
  simp[go_sem]
  refine hK1 _ ⟨_,_,_,_,_,_,_,_,rfl,.one (by decide) rfl rfl,by decide,rfl,by simp[go_sem];rfl,by simp[go_sem];rfl,by simp[go_sem],?_⟩;clear hK1
  refine Br ?_ ?_<;>intro h26
  ·refine B0 hw1 ?_
   refine Bu hw1 ?_
   refine B3 (fun K kk=>by simp[go_sem,hw1];refine .lo (Py n _) rfl (by simp[AV.cln,Ff]) ?_;simp[go_sem,hw1];exact kk) ?_
   refine Br ?_ ?_<;>intro h36
   ·refine Bt ⟨[.box 98 [.mY s.buf,.lb s.gar],.box 169 [.fn 122 [.iptr false [.li n] 0]],.box 98 [.nil 1,.lb false],.box 113 [.own 6 ((y1.2.2++([a1.1])).length)],.box 3 [.li (y1.1+a1.2)],.box 4 [.lb true],.row 116 3 false false (Yi (y1.2.2++([a1.1])))],⟨[0,1,2,3,4,5,6],En (by decide) ?_ ?_,Fu rfl⟩,?_⟩
    ·simp[go_sem]
    ·simp[go_sem,hw1]
    refine Cw (fun K kk=>by simp[go_sem,hw1];(repeat refine aK ?_);refine .lo cB rfl (by simp[AV.cln,Ff]) ?_;simp[go_sem,hw1];exact kk) ?_
    refine B2 Dy 6 ?_
    exact .ret (Eu hw1 (⟨s.buf.drop ((y1.1+a1.2).toNat),true⟩,y1.2.2++([a1.1])) (by exact⟨hb.drop _,by simp;omega,by simp;omega,Rk hy1.2.2.1 hpy,_,hy1.2.2.2.symm.trans (Aek ha1 (by first | (simp[h23,h25];done) | (simp[h23];done)) (by first | (simp[h23];done) | (rcases h26 with h | h<;>(simp[h];done))) (by simp;omega)),rfl⟩))
   refine Bp ?_
   refine⟨((y1.1+a1.2),true,y1.2.2++([a1.1])),?_,⟨[0,1,2,3,4,5,6],En (by decide) ?_ ?_,Fu rfl⟩⟩
   ·first | exact⟨hsz.symm,by dsimp only;omega,hy1.2.2.1,(R3 ha1 h23 h25).symm.trans hy1.2.2.2⟩ | exact⟨hsz.symm,by simp;omega,Rk hy1.2.2.1 hpy,(Xp ha1 (by first | (simp[h23,h25];done) | (simp[h23];done)) (by first | (simp[h23];done) | (rcases h26 with h | h<;>(simp[h];done))) (by simp;omega)).symm.trans hy1.2.2.2⟩
   ·simp[go_sem]
   simp[go_sem,hw1]
  refine B0 hw1 ?_
  refine Bu hw1 ?_
  refine B3 (fun K kk=>by simp[go_sem,hw1];refine .lo (Py n _) rfl (by simp[AV.cln,Ff]) ?_;simp[go_sem,hw1];exact kk) ?_
  refine Br ?_ ?_<;>intro h36
  ·refine Bt ⟨[.box 98 [.mY s.buf,.lb s.gar],.box 169 [.fn 122 [.iptr false [.li n] 0]],.box 98 [.nil 1,.lb false],.box 113 [.own 6 ((y1.2.2++([a1.1])).length)],.box 3 [.li (y1.1+a1.2)],.box 4 [.lb false],.row 116 3 false false (Yi (y1.2.2++([a1.1])))],⟨[0,1,2,3,4,5,6],En (by decide) ?_ ?_,Fu rfl⟩,?_⟩
   ·simp[go_sem]
   ·simp[go_sem,hw1]
   refine Cw (fun K kk=>by simp[go_sem,hw1];(repeat refine aK ?_);refine .lo cB rfl (by simp[AV.cln,Ff]) ?_;simp[go_sem,hw1];exact kk) ?_
   refine B2 Dy 6 ?_
   exact .ret (Eu hw1 (⟨s.buf.drop ((y1.1+a1.2).toNat),false⟩,y1.2.2++([a1.1])) (by exact⟨hb.drop _,by simp;omega,by simp;omega,Rk hy1.2.2.1 hpy,_,hy1.2.2.2.symm.trans (Aek ha1 (by first | (simp[h23,h25];done) | (simp[h23];done)) (by first | (simp[h23];done) | (rcases h26 with h | h<;>(simp[h];done)) | (simp[h23,h26];done)) (by simp;omega)),rfl⟩))
  refine Bp ?_
  refine⟨((y1.1+a1.2),false,y1.2.2++([a1.1])),?_,⟨[0,1,2,3,4,5,6],En (by decide) ?_ ?_,Fu rfl⟩⟩
  ·first | exact⟨hsz.symm,by dsimp only;omega,hy1.2.2.1,(R3 ha1 h23 h25).symm.trans hy1.2.2.2⟩ | exact⟨hsz.symm,by simp;omega,Rk hy1.2.2.1 hpy,(Xp ha1 (by first | (simp[h23,h25];done) | (simp[h23];done)) (by first | (simp[h23];done) | (rcases h26 with h | h<;>(simp[h];done)) | (simp[h23,h26];done)) (by simp;omega)).symm.trans hy1.2.2.2⟩
  ·simp[go_sem]
  simp[go_sem,hw1]
 -- done
 simp only[A2] at hy1
 have ho:=Ts hb (k:=(J1 s.buf).length) (Aj _)
 refine Cw (fun K kk=>by simp[go_sem];(repeat refine aK ?_);refine .lo cB rfl (by simp[AV.cln,Ff]) ?_;simp[go_sem];exact kk) ?_
 refine B2 Dy 6 ?_
 exact .ret (Eu Dy (⟨s.buf.drop y1.1.toNat,y1.2.1⟩,y1.2.2) (by first | exact⟨hb.drop _,by simp;omega,by simp;omega,Rk hy1.2.2.1 hpy,_,hy1.2.2.2.symm.trans (Aek ha1 (by first | (simp[h23,h25];done) | (simp[h23];done)) (by first | (simp[h23];done) | (rcases h26 with h | h<;>(simp[h];done)) | (simp[h23,h26];done)) (by simp;omega)),rfl⟩ | exact⟨hb.drop _,by simp;omega,by dsimp only;omega,hy1.2.2.1,_,hy1.2.2.2.symm.trans (by rw[List.drop_eq_nil_of_le (by simp)];rfl),rfl⟩))
theorem Ag4 (s:T5) (n:Int) (hl:s.buf.length<=256) (hb:By s.buf):Ct 93 [s.g,.li n] (fun d:T5×List E7=>.tup [d.1.g,.mItem d.2]) (fun d=>By d.1.buf/\d.1.buf.length<=256/\d.2.length<=256/\(∀x∈d.2,x.pay.length<=256)/\(0<n->TkR n s d)):=by
 refine Ev Tryz.func93 ?_
 refine Bq<|.seq ?_
 refine Bq ?_
 refine Br ?_ ?_<;>intro h7
 ·refine Cw (fun K kk=>by simp[go_sem];refine .lo cB rfl (by simp[AV.cln,Ff]) ?_;simp[go_sem];exact kk) ?_
  exact .ret (Eu Dy (s,[]) (by exact⟨hb,hl,Ae _,(fun x h=>by cases h),fun h=>by omega⟩))
 refine Bp ?_
 refine VX.sel1 1 rfl rfl (by simp) ?_
 simp[go_sem,-Prod.exists]
 obtain⟨Y1,cY1,qY1⟩:=Eo (Ag2 s n hl hb)
 refine B8 Dy cY1 ?_
 exact .ret (Eu Dy (Y1.1,Y1.2) (by first | exact⟨hb,hl,Ae _,(fun x h=>by cases h),fun h=>by omega⟩ | exact (have h:=qY1;⟨h.1,h.2.1,h.2.2.1,h.2.2.2.1,fun _=>h.2.2.2.2⟩)))
theorem Ajl (s:Fi) (hl:s.st.buf.length<=256) (hb:By s.st.buf):Ct 64 [s.g] (fun d:Fi×Gj=>.tup [d.1.g,d.2.g]) (fun d=>By d.1.st.buf/\d.1.st.buf.length<=256/\(d.2.items.length<=257/\d.2.op=s.op)/\(∀x∈d.2.items,x.pay.length<=256)/\Ayl s d):=by
 refine Ev Tryz.func64 ?_
 obtain⟨Y1,cY1,qY1⟩:=Eo (Ag4 s.st 4 hl hb)
 have hQ:=qY1
 refine Bq<|.seq ?_
 refine Bq ?_
 refine Br ?_ ?_<;>intro h9
 ·refine B8 Dy (K9 s (by first | assumption | omega)) ?_
  refine Bz (Fl ?_);simp[go_sem,Ba 1]
  exact⟨(s,⟨false,[]⟩),by rfl,(by exact⟨hb,hl,⟨Ae _,by dsimp only;rw[h9]⟩,(fun x h=>by cases h),fun _=>rfl,fun h=>by rw[h9] at h;cases h⟩)⟩
 refine Bp<|.R<|.seq ?_
 refine Bq ?_
 refine Br ?_ ?_<;>intro h15
 ·refine B0 Dy ?_
  refine B8 Dy cY1 ?_
  iterate 2 refine Bq ?_
  refine Bu Dy ?_
  refine VX.D ?_
  refine B2 Dy 5 ?_
  refine Bz (Fl ?_);simp[go_sem,Ba 1]
  exact⟨(⟨s.op,false,Y1.1⟩,⟨true,([⟨15,0,[]⟩])++(Y1.2)⟩),by rfl,(by first | exact⟨hb,hl,⟨Ae _,by dsimp only;rw[h9]⟩,(fun x h=>by cases h),fun _=>rfl,fun h=>by rw[h9] at h;cases h⟩ | exact⟨hQ.1,hQ.2.1,⟨by have:=hQ.2.2.1;simp;omega,by dsimp only;rw[h9]⟩,(fun x h=>by rcases A0.1 h with h | h;(rw[An.1 h];simp);exact hQ.2.2.2.1 x h),(fun h=>by rw[h9] at h;cases h),fun _=>⟨_,hQ.2.2.2.2 (by decide),by rw[h9,h15];rfl⟩⟩)⟩
 refine Bp<|.L Dy cY1 ?_
 iterate 2 refine Bq ?_
 refine Bu Dy ?_
 refine VX.D ?_
 refine B2 Dy 5 ?_
 refine Bz (Fl ?_);simp[go_sem,Ba 1]
 exact⟨(⟨s.op,false,Y1.1⟩,⟨true,Y1.2⟩),by rfl,(by first | exact⟨hb,hl,⟨Ae _,by dsimp only;rw[h9]⟩,(fun x h=>by cases h),fun _=>rfl,fun h=>by rw[h9] at h;cases h⟩ | exact⟨hQ.1,hQ.2.1,⟨by have:=hQ.2.2.1;simp;omega,by dsimp only;rw[h9]⟩,(fun x h=>by rcases A0.1 h with h | h;(rw[An.1 h];simp);exact hQ.2.2.2.1 x h),(fun h=>by rw[h9] at h;cases h),fun _=>⟨_,hQ.2.2.2.2 (by decide),by rw[h9,h15];rfl⟩⟩ | exact⟨hQ.1,hQ.2.1,⟨by have:=hQ.2.2.1;first | omega | (simp;omega),by dsimp only;rw[h9]⟩,hQ.2.2.2.1,(fun h=>by rw[h9] at h;cases h),fun _=>⟨_,hQ.2.2.2.2 (by decide),by rw[h9,h15];rfl⟩⟩)⟩
end
theorem Axd (x:Int):0<=IntKind.u32.wrap x/\IntKind.u32.wrap x<4294967296:=by
 simp[IntKind.wrap,IntKind.signed,IntKind.bits]
 omega
theorem As5 (l:List Int):0<=Xf l/\Xf l<4294967296:=Axd _
theorem Aor {x:Int} (h:0<=x/\x<4294967296):IntKind.u32.wrap x=x:=by
 simp[IntKind.wrap,IntKind.signed,IntKind.bits]
 omega
theorem Azp {a b:Int} (ha:0<=a) (ha2:a<16777216) (hb:0<=b) (hb2:b<256):Ey .or .u32 (a*256) b=a*256+b:=by
 obtain⟨m,rfl⟩:=Int.eq_ofNat_of_zero_le ha
 obtain⟨q,rfl⟩:=Int.eq_ofNat_of_zero_le hb
 have hq:q<2 ^ 8:=by omega
 have h:=Nat.two_pow_add_eq_or_of_lt hq m
 have e:(BitVec.ofInt 32 ((m:Int)*256) ||| BitVec.ofInt 32 (q:Int)).toNat=m*256+q:=by
  rw[show ((m:Int)*256)=((m*256:Nat):Int) by push_cast;rfl,BitVec.ofInt_natCast,BitVec.ofInt_natCast,BitVec.toNat_or,BitVec.toNat_ofNat,BitVec.toNat_ofNat,Nat.mod_eq_of_lt (by omega),Nat.mod_eq_of_lt (by omega),Nat.mul_comm m,show (256:Nat)=2 ^ 8 from rfl,<- h]
 show IntKind.u32.wrap (((BitVec.ofInt 32 ((m:Int)*256) ||| BitVec.ofInt 32 (q:Int)).toNat:Nat):Int)=_
 rw[e,Aor (by omega)]
 omega
theorem As1 {s:Int} (h:0<=s/\s<4294967296):Asg (Kn s)=s/\(Kn s).length=4:=by
 refine⟨?_,rfl⟩
 have e1:IntKind.u8.wrap (s.fdiv (2 ^ min 24 32))=s / 16777216:=by
  rw[Int.fdiv_eq_ediv_of_nonneg _ (by decide)];show IntKind.u8.wrap (s / 16777216)=_;exact Alu (by omega)
 have w8:∀x:Int,IntKind.u8.wrap x=x % 256:=fun x=>by simp[IntKind.wrap,IntKind.signed,IntKind.bits]
 have e2:IntKind.u8.wrap (s.fdiv (2 ^ min 16 32))=s / 65536 % 256:=by
  rw[Int.fdiv_eq_ediv_of_nonneg _ (by decide),w8];rfl
 have e3:IntKind.u8.wrap (s.fdiv (2 ^ min 8 32))=s / 256 % 256:=by
  rw[Int.fdiv_eq_ediv_of_nonneg _ (by decide),w8];rfl
 have e4:IntKind.u8.wrap (s.fdiv (2 ^ min 0 32))=s % 256:=by
  rw[Int.fdiv_eq_ediv_of_nonneg _ (by decide),w8]
  show s / 1 % 256=_
  rw[Int.ediv_one]
 unfold Kn
 rw[e1,e2,e3,e4]
 have st:∀(l:List Int) (i:Nat),0<=Rs l i->Rs l i<16777216->0<=T2 l i->T2 l i<256->Rs l (i+1)=Rs l i*256+T2 l i:=fun l i h1 h2 h3 h4=>by
  rw[Rs,show (2:Int) ^ min 8 32=256 from rfl,Aor (x:=Rs l i*256) (by omega),Aor (x:=T2 l i) (by omega),Azp h1 h2 h3 h4]
 generalize hL:[s / 16777216,s / 65536 % 256,s / 256 % 256,s % 256]=L
 have b0:T2 L 0=s / 16777216:=by rw[<- hL];rfl
 have b1:T2 L 1=s / 65536 % 256:=by rw[<- hL];rfl
 have b2:T2 L 2=s / 256 % 256:=by rw[<- hL];rfl
 have b3:T2 L 3=s % 256:=by rw[<- hL];rfl
 have n0:Rs L 0=0:=rfl
 have n1:Rs L 1=Rs L 0*256+T2 L 0:=st L 0 (by omega) (by omega) (by omega) (by omega)
 have n2:Rs L 2=Rs L 1*256+T2 L 1:=st L 1 (by omega) (by omega) (by omega) (by omega)
 have n3:Rs L 3=Rs L 2*256+T2 L 2:=st L 2 (by omega) (by omega) (by omega) (by omega)
 have n4:Rs L 4=Rs L 3*256+T2 L 3:=st L 3 (by omega) (by omega) (by omega) (by omega)
 have hl:L.length=4:=by rw[<- hL];rfl
 unfold Asg
 rw[hl]
 omega
theorem As2 (b0 b1 b2 b3 b4 b5:Int) (r:List Int):Ez (b0::b1::b2::b3::b4::b5::r)=if b0≠90\/b1≠165 then (⟨2,0,[]⟩,1,true) else if 200<b4*256+b5 then (⟨7,0,[]⟩,1,true) else if (r.length:Int)<b4*256+b5+4 then (⟨0,0,[]⟩,0,false) else if Xf (b2::b3::b4::b5::r.take (b4*256+b5).toNat)≠Asg ((r.drop (b4*256+b5).toNat).take 4) then (⟨4,0,[]⟩,1,true) else if b2≠1 then (⟨3,0,[]⟩,b4*256+b5+10,true) else if b3<1\/22<b3 then (⟨5,0,[]⟩,b4*256+b5+10,true) else (⟨0,b3,r.take (b4*256+b5).toNat⟩,b4*256+b5+10,true):=rfl
theorem Apt {k:Int} {p:List Int} (r:List Int) (hk:1<=k/\k<=22) (hp:p.length<=200):Ez (Io k p++r)=(⟨0,k,p⟩,(p.length:Int)+10,true):=by
 have e1:IntKind.u8.wrap k=k:=Alu (by omega)
 have e2:IntKind.u8.wrap ((p.length:Int).fdiv (2 ^ min 8 64))=0:=by
  rw[Int.fdiv_eq_ediv_of_nonneg _ (by decide),show ((p.length:Int) / 2 ^ min 8 64)=0 by show (p.length:Int) / 256=0;omega];rfl
 have e3:IntKind.u8.wrap (p.length:Int)=p.length:=Alu (by omega)
 obtain⟨hn,hl⟩:=As1 (As5 ([1,k,0,(p.length:Int)]++p))
 unfold Io I6
 rw[e1,e2,e3,show ([90,165,1,k,0,(p.length:Int)]:List Int).drop 2=[1,k,0,(p.length:Int)] from rfl]
 generalize hT:Kn (Xf ([1,k,0,(p.length:Int)]++p))=T at hn hl
 rw[show [90,165,1,k,0,(p.length:Int)]++p++T++r=90::165::1::k::0::(p.length:Int)::(p++(T++r)) by simp]
 have h0:(0:Int)*256+(p.length:Int)=p.length:=by omega
 rw[As2,if_neg (by decide),h0,if_neg (by omega),if_neg (by simp;omega),Int.toNat_natCast,List.take_left,List.drop_left,show (T++r).take 4=T by rw[<- hl,List.take_left],hn,if_neg (by simp),if_neg (by decide),if_neg (by omega)]
theorem Ac5 (k:Int) (p:List Int):(Io k p).length=p.length+10:=by simp[Io,I6,Kn]
theorem Ana:∀(L:List (Int×List Int)) (n:Nat),(∀x∈L,(1<=x.1/\x.1<=22)/\x.2.length<=200)->L.length<=n->Af1 n (L.map fun x=>Io x.1 x.2).flatten=L.map fun x=>(⟨0,x.1,x.2⟩,(x.2.length:Int)+10)
 | [],0,_,_=>rfl
 | [],n+1,_,_=>rfl
 | x::L,0,_,h=>by simp at h
 | x::L,n+1,hx,h=>by
  have h1:=hx x (List.mem_cons_self ..)
  have e:=Apt (L.map fun x=>Io x.1 x.2).flatten h1.1 h1.2
  rw[List.map_cons,List.flatten_cons,Af1,U2,e,if_pos rfl,List.map_cons]
  have hd:(Io x.1 x.2++(L.map fun x=>Io x.1 x.2).flatten).drop ((x.2.length:Int)+10).toNat=(L.map fun x=>Io x.1 x.2).flatten:=by
   rw[show ((x.2.length:Int)+10).toNat=(Io x.1 x.2).length by rw[Ac5];omega,List.drop_left]
  simp only[]
  rw[hd,Ana L n (fun y hy=>hx y (List.mem_cons_of_mem _ hy)) (by simpa using h)]
theorem Ara:∀(L:List (Int×List Int)),L.length<=(L.map fun x=>Io x.1 x.2).flatten.length
 | []=>Ae _
 | x::L=>by
  have h:=Ara L
  rw[List.map_cons,List.flatten_cons,Bo,Ac5,A6]
  omega
theorem Asb {L:List (Int×List Int)} (h:∀x∈L,(1<=x.1/\x.1<=22)/\x.2.length<=200):J1 (L.map fun x=>Io x.1 x.2).flatten=L.map fun x=>(⟨0,x.1,x.2⟩,(x.2.length:Int)+10):=Ana L _ h (Ara L)
theorem Am9:∀(n:Nat) (b:List Int),(Af1 n b).length<=n
 | 0,_=>Aj _
 | n+1,b=>by
  rw[Af1]
  split
  ·simp[Am9 n]
  simp
theorem Ab0 (b:List Int):(J1 b).length<=b.length:=Am9 _ _
theorem Aga {l:List E7} {a:E7} {n:Nat} (h:∀x∈l,x.pay.length<=n) (ha:a.pay.length<=n):∀x∈l++[a],x.pay.length<=n:=fun x hx=>by
 rcases A0.1 hx with h1 | h1
 ·exact h x h1
 rw[An.1 h1];exact ha
section
variable (k:Int)
include k
theorem Ua:Ct 73 [.lit (.int .i64 k)] (fun d:Bool=>.lit (.bool d)) (fun d=>d=false):=by
 refine Ev Tryz.func73 ?_
 iterate 2 refine Bq ?_
 exact .ret (Eu Dy false rfl)
def Aah:Bool:=(Eo (Ua k)).choose
theorem Ajw:PP 73 [] [.lit (.int .i64 k)] [] (.lit (.bool (Aah k))):=(Eo (Ua k)).choose_spec.1
theorem Akn:(Aah k)=false:=(Eo (Ua k)).choose_spec.2
theorem Um:PP 73 [] [.lit (.int .i64 k)] [] (.lit (.bool false)):=by
 have h:=Ajw k
 rwa[Akn] at h
end
theorem Ag3 (s:T5) (u:Unit) (hl:s.buf.length<=1000000) (hb:By s.buf):Ct 72 [s.g,.fn 73 []] (fun d:T5×List E7=>.tup [d.1.g,.mItem d.2]) (fun d=>d.2.length<=s.buf.length/\(∀x∈d.2,x.pay.length<=s.buf.length)/\TkR (s.buf.length+1) s d):=by
 refine Ev Tryz.func72 ?_
 refine Bq ?_
 refine VX.scope ?_
 refine Bq ?_
 refine VX.D<|.seq ?_
 refine VX.label ?_
 refine B9<|.L Dy (Vk s.buf)<|.block ?_
 refine Cl 3 0 116 3 (by decide) rfl rfl ?_
 simp[go_sem,-Prod.exists]
 refine Cz (s':=⟨[(2,.ptr 0 0),(3,.ptr 1 0),(4,.ptr 2 0),(6,.ptr 3 0),(7,.ptr 4 0),(8,.ptr 5 0),(15,.fn 139 [.iptr false [.sl 1 (tY s.buf)] 0])],(fun (y1:Int×Bool×(List E7))=>[.box 98 [.mY s.buf,.lit (.bool s.gar)],.box 169 [.fn 73 []],.box 98 [.nil 1,.lit (.bool false)],.box 113 [.own 6 y1.2.2.length],.box 3 [.lit (.int .i64 y1.1)],.box 4 [.lit (.bool y1.2.1)],.row 116 3 false false (Yi y1.2.2)]) (0,s.gar,[])⟩) (wQ [0,1,2,3,4,5,6] ?_ ?_) ?_
 ·simp[go_sem]
 ·simp[go_sem]
 refine Dh (Acq s.buf (by omega) hb) (fun (y1:Int×Bool×(List E7))=>[.box 98 [.mY s.buf,.lit (.bool s.gar)],.box 169 [.fn 73 []],.box 98 [.nil 1,.lit (.bool false)],.box 113 [.own 6 y1.2.2.length],.box 3 [.lit (.int .i64 y1.1)],.box 4 [.lit (.bool y1.2.1)],.row 116 3 false false (Yi y1.2.2)]) 7 (fun _=>rfl) (by rfl) (fun _=>Qm rfl) (by decide) ?_ (fun j1 y1=>y1.1=Tt s.buf j1/\y1.2.2.length<=j1/\(∀x∈y1.2.2,x.pay.length<=s.buf.length)/\Lk (s.buf.length+1) ((J1 s.buf).drop j1) y1.1 y1.2.1 y1.2.2=Lk (s.buf.length+1) (J1 s.buf) 0 s.gar []) (0,s.gar,[]) (⟨rfl,by simp,(fun x h=>by cases h),rfl⟩) (fun j1 vs y1 hj1 hy1=>?_) (fun y1 hy1=>?_)
 ·intro vs hvs
  obtain⟨a,_,rfl⟩:=A4.1 hvs
  simp[go_sem]
 ·
  obtain⟨a1,ha1,rfl⟩:=Ef hj1
  have hjl:j1<(J1 s.buf).length:=(Ab.1 ha1).1
  have hjb:=Ab0 s.buf
  have hg:=Tu _ _ _ _ ha1
  have ho:=Ts hb (k:=j1+1) (by omega)
  have ho0:=Ts hb (k:=j1) (by omega)
  have hrl:=Abz hb (k:=j1) (by omega)
  have hsz:Tt s.buf (j1+1)=y1.1+a1.2:=by rw[Tt,hy1.1,hg.2]
  have hpy:a1.1.pay.length<=s.buf.length:=by rw[hg.2];exact Ak (Ac4 _) (by omega)
  refine Bq ?_
  refine Ch ?_
  refine⟨rfl,?_⟩
  refine Db ?_
  have hw1:=Dw (y1.1+a1.2:Int)
  refine Bu hw1<|.seq ?_
  refine Bu hw1<|.block ?_
  refine Bu hw1 ?_
  refine Br ?_ ?_<;>intro h23
  ·refine B9<|.H hw1 ?_
   refine Br ?_ ?_<;>intro h25
   ·refine Bt ?_
    refine⟨((y1.1+a1.2),y1.2.1,y1.2.2),?_,⟨[0,1,2,3,4,5,6],En (by decide) ?_ ?_,Fu rfl⟩⟩
    ·exact⟨hsz.symm,by dsimp only;omega,hy1.2.2.1,(R3 ha1 h23 h25).symm.trans hy1.2.2.2⟩
    ·simp[go_sem]
    simp[go_sem,hw1]
   refine Bp<|.H1 hw1 ?_
   refine Bu hw1 ?_
   refine B3 (fun K kk=>by simp[go_sem,hw1];refine .lo (Um _) rfl (by simp[AV.cln,Ff]) ?_;simp[go_sem,hw1];exact kk) ?_
   refine Ck ?_ ?_<;>intro h36<;>simp[go_sem] at h36
   refine Bp ?_
   refine⟨((y1.1+a1.2),true,y1.2.2++([a1.1])),?_,⟨[0,1,2,3,4,5,6],En (by decide) ?_ ?_,Fu rfl⟩⟩
   ·first | exact⟨hsz.symm,by dsimp only;omega,hy1.2.2.1,(R3 ha1 h23 h25).symm.trans hy1.2.2.2⟩ | exact⟨hsz.symm,by simp;omega,Aga hy1.2.2.1 hpy,(Xp ha1 (by (simp[h23,h25];done)) (by (simp[h23];done)) (by simp;omega)).symm.trans hy1.2.2.2⟩
   ·simp[go_sem]
   simp[go_sem,hw1]
  refine Ce (by rfl) fun K1 hK1=>?_
  simp[go_sem]
  refine hK1 _ ⟨_,_,_,_,_,_,_,_,rfl,.one (by decide) rfl rfl,by decide,rfl,by simp[go_sem];rfl,by simp[go_sem];rfl,by simp[go_sem],?_⟩;clear hK1
  refine Br ?_ ?_<;>intro h26
  ·refine B0 hw1 ?_
   refine Bu hw1 ?_
   refine B3 (fun K kk=>by simp[go_sem,hw1];refine .lo (Um _) rfl (by simp[AV.cln,Ff]) ?_;simp[go_sem,hw1];exact kk) ?_
   refine Ck ?_ ?_<;>intro h36<;>simp[go_sem] at h36
   refine Bp ?_
   refine⟨((y1.1+a1.2),true,y1.2.2++([a1.1])),?_,⟨[0,1,2,3,4,5,6],En (by decide) ?_ ?_,Fu rfl⟩⟩
   ·first | exact⟨hsz.symm,by dsimp only;omega,hy1.2.2.1,(R3 ha1 h23 h25).symm.trans hy1.2.2.2⟩ | exact⟨hsz.symm,by simp;omega,Aga hy1.2.2.1 hpy,(Xp ha1 (by first | (simp[h23,h25];done) | (simp[h23];done)) (by first | (simp[h23];done) | (rcases h26 with h | h<;>(simp[h];done))) (by simp;omega)).symm.trans hy1.2.2.2⟩
   ·simp[go_sem]
   simp[go_sem,hw1]
  refine B0 hw1 ?_
  refine Bu hw1 ?_
  refine B3 (fun K kk=>by simp[go_sem,hw1];refine .lo (Um _) rfl (by simp[AV.cln,Ff]) ?_;simp[go_sem,hw1];exact kk) ?_
  refine Ck ?_ ?_<;>intro h36<;>simp[go_sem] at h36
  refine Bp ?_
  refine⟨((y1.1+a1.2),false,y1.2.2++([a1.1])),?_,⟨[0,1,2,3,4,5,6],En (by decide) ?_ ?_,Fu rfl⟩⟩
  ·first | exact⟨hsz.symm,by dsimp only;omega,hy1.2.2.1,(R3 ha1 h23 h25).symm.trans hy1.2.2.2⟩ | exact⟨hsz.symm,by simp;omega,Aga hy1.2.2.1 hpy,(Xp ha1 (by first | (simp[h23,h25];done) | (simp[h23];done)) (by first | (simp[h23];done) | (rcases h26 with h | h<;>(simp[h];done)) | (simp[h23,h26];done)) (by simp;omega)).symm.trans hy1.2.2.2⟩
  ·simp[go_sem]
  simp[go_sem,hw1]
 -- done
 simp only[A2] at hy1
 have hjb:=Ab0 s.buf
 have ho:=Ts hb (k:=(J1 s.buf).length) (Aj _)
 refine Cw (fun K kk=>by simp[go_sem];(repeat refine aK ?_);refine .lo cB rfl (by simp[AV.cln,Ff]) ?_;simp[go_sem];exact kk) ?_
 refine B2 Dy 6 ?_
 exact .ret (Eu Dy (⟨s.buf.drop y1.1.toNat,y1.2.1⟩,y1.2.2) ⟨by have:=hy1.2.1;dsimp only;omega,hy1.2.2.1,_,hy1.2.2.2.symm.trans (by rw[List.drop_eq_nil_of_le (by simp)];rfl),rfl⟩)
section
variable (b:List Int) (hl:b.length<=1000000) (hb:By b)
include hl hb
theorem T9:Ct 49 [.mY b] (fun d:List E7=>.mItem d) (fun d=>d.length<=b.length/\(∀x∈d,x.pay.length<=b.length)/\d=(Lk ((b.length:Int)+1) (J1 b) 0 false []).2.2):=by
 refine Ev Tryz.func49 ?_
 obtain⟨Y1,cY1,qY1⟩:=Eo (Ag3 ⟨b,false⟩ () hl hb)
 have hQ:=qY1
 refine Bq ?_
 refine B8 Dy cY1 ?_
 refine Bq ?_
 exact .ret (Eu Dy Y1.2 ⟨hQ.1,hQ.2.1,by obtain⟨u,h,_⟩:=hQ.2.2;exact (congrArg (fun x=>x.2.2) h).symm⟩)
def Nl:List E7:=(Eo (T9 b hl hb)).choose
theorem Ajv:PP 49 [] [.mY b] [] (.mItem (Nl b hl hb)):=(Eo (T9 b hl hb)).choose_spec.1
theorem Aak:(Nl b hl hb).length<=b.length/\(∀x∈(Nl b hl hb),x.pay.length<=b.length)/\(Nl b hl hb)=(Lk ((b.length:Int)+1) (J1 b) 0 false []).2.2:=(Eo (T9 b hl hb)).choose_spec.2
end
section
variable (m:Dz) (h1:m.tok.length<=10000) (h2:m.args.length<=10000) (h3:m.data.length<=10000)
include h1 h2 h3
theorem Rp:Ct 51 [m.g] (fun d:Bool=>.lb d) (fun d=>d=true->(F0 m h1 h2 h3).length<=200):=by
 refine Ev Tryz.func51 ?_
 have hv:=J9 m.kind
 have hq0:=Kd m.kind
 generalize Ee m.kind=S at hv hq0
 refine Bq<|.seq ?_
 refine Bq ?_
 refine Br ?_ ?_<;>intro h14
 ·refine Bq ?_
  refine Bz (Fl ?_);simp[go_sem]
  exact⟨false,by rfl,(by exact fun h=>Bool.noConfusion h)⟩
 refine Bp<|.L Dy (hv) ?_
 refine Bq<|.seq<|.block ?_
 refine Do (fun s=>∃(w24:Bool),s=⟨[(1,.ptr 0 0),(3,.ptr 1 0),(4,.li (IntKind.i64.wrap (m.args.length - S.fix))),(24,.lb w24)],[.box 56 (m.a false),.box 177 [.li S.fix,.li S.grp,.li S.lea,.li S.mos,.li S.dat]]⟩) ?_ ?_
 ·refine B8 Dy (Jz m.kind) ?_
  refine Br ?_ ?_<;>intro h24
  ·refine Bp ?_
   refine⟨[0,1],_,En (by decide) ?_ ?_,by simp,((Ic m.kind)&&((m.tok.length:Int) != 10)),rfl⟩
   all_goals simp[go_sem]
  refine Dr Dy (Jz m.kind) ?_
  refine⟨[0,1],_,En (by decide) ?_ ?_,by simp,(!(Ic m.kind)&&((m.tok.length:Int) != 0)),rfl⟩
  all_goals simp[go_sem]
 rintro _ ⟨w24,rfl⟩
 refine Br ?_ ?_<;>intro h24
 ·refine Bq ?_
  refine Bz (Fl ?_);simp[go_sem]
  exact⟨false,by rfl,(by exact fun h=>Bool.noConfusion h)⟩
 refine Do (fun s=>∃(w44:Bool),s=⟨[(1,.ptr 0 0),(3,.ptr 1 0),(44,.lb w44)],[.box 56 (m.a false),.box 177 [.li S.fix,.li S.grp,.li S.lea,.li S.mos,.li S.dat]]⟩) ?_ ?_
 ·refine Bq ?_
  refine Br ?_ ?_<;>intro h44
  ·refine Bp ?_
   refine⟨[0,1],_,En (by decide) ?_ ?_,by simp,(((S.grp:Int) == 0)&&(((IntKind.i64.wrap (m.args.length - S.fix)):Int) != 0)),rfl⟩
   all_goals simp[go_sem]
  refine B0 Dy ?_
  refine⟨[0,1],_,En (by decide) ?_ ?_,by simp,(decide ((0:Int)<S.grp)&&((decide (((IntKind.i64.wrap (m.args.length - S.fix)):Int)<(IntKind.i64.wrap (S.grp*S.lea)))||decide (((IntKind.i64.wrap (S.grp*S.mos)):Int)<(IntKind.i64.wrap (m.args.length - S.fix))))||(((Int.tmod (IntKind.i64.wrap (m.args.length - S.fix)) S.grp):Int) != 0))),rfl⟩
  all_goals simp[go_sem]
 rintro _ ⟨w44,rfl⟩
 refine Br ?_ ?_<;>intro h44
 ·refine Bq ?_
  refine Bz (Fl ?_);simp[go_sem]
  exact⟨false,by rfl,(by exact fun h=>Bool.noConfusion h)⟩
 refine Do (fun s=>∃(w80:Bool),s=⟨[(1,.ptr 0 0),(80,.lb w80)],[.box 56 (m.a false),.box 177 [.li S.fix,.li S.grp,.li S.lea,.li S.mos,.li S.dat]]⟩) ?_ ?_
 ·refine Bq ?_
  refine Br ?_ ?_<;>intro h80
  ·refine Bp ?_
   refine⟨[0,1],_,En (by decide) ?_ ?_,by simp,(decide ((0:Int)<=S.dat)&&((m.data.length:Int) != S.dat)),rfl⟩
   all_goals simp[go_sem]
  refine Ch ?_
  refine⟨[0,1],_,En (by decide) ?_ ?_,by simp,decide ((200:Int)<m.data.length),rfl⟩
  all_goals simp[go_sem]
 rintro _ ⟨w80,rfl⟩
 refine Br ?_ ?_<;>intro h80
 ·refine Bq ?_
  refine Bz (Fl ?_);simp[go_sem]
  exact⟨false,by rfl,(by exact fun h=>Bool.noConfusion h)⟩
 refine Bp<|.seq<|.R<|.block ?_
 refine Bs m.args.length (fun i1 (y1:Unit)=>⟨[(1,.ptr 0 0),(97,.mI m.args),(98,.li m.args.length),(99,.li i1)],[.box 56 (m.a false)]⟩) (fun i1 y1=>True) () (wQ [0] ?_ ?_) (trivial) fun i1 y1 hi1 hy1=>?_
 ·simp[go_sem]
 ·simp[go_sem]
 refine Bq<|.seq ?_
 refine Br ?_ ?_<;>intro h100
 ·refine Bp<|.seq<|.block ?_
  obtain⟨e1,H1⟩:=gx m.args i1
  refine Bu H1 ?_
  refine Bu H1 ?_
  refine Br ?_ ?_<;>intro h108
  ·refine Bu H1 ?_
   refine Bz (Fl ?_);simp[go_sem,H1]
   exact⟨false,by rfl,(by exact fun h=>Bool.noConfusion h)⟩
  refine Bp<|.H1 H1 ?_
  refine⟨by omega,(),?_,wQ [0] ?_ ?_⟩
  ·trivial
  all_goals simp[go_sem,Dw ((i1:Int)+1),H1]
 refine Bt<|.L Dy (Ko m h1 h2 h3) ?_
 refine Bz (Fl ?_);simp[go_sem]
 exact⟨decide ((((F0 m h1 h2 h3).length):Int)<=200),by rfl,(by first | exact fun h=>Bool.noConfusion h | exact fun h=>by (have:=of_decide_eq_true h;omega))⟩
theorem Qv:Ct 67 [m.g] (fun d:List Int×Int=>.tup [.mY d.1,.li d.2]) (fun d=>d.1.length<=200/\(By m.tok->By m.data->By d.1)):=by
 refine Ev Tryz.func67 ?_
 refine Bq<|.seq ?_
 obtain⟨Y1,cY1,qY1⟩:=Eo (Rp m h1 h2 h3)
 refine B8 Dy cY1 ?_
 refine Br ?_ ?_<;>intro h6
 ·refine Bq ?_
  exact .ret (Eu Dy ([],6) (by exact⟨Ae _,fun _ _=>Nx⟩))
 refine Bp<|.L Dy (Ko m h1 h2 h3) ?_
 exact .ret (Eu Dy ((F0 m h1 h2 h3),0) (by first | exact⟨Ae _,fun _ _=>Nx⟩ | exact⟨qY1 (by simpa using h6),(Qk m h1 h2 h3).1⟩))
end
theorem J8 (n:Int):Ct 77 [.lit (.int .i64 n)] (fun d:Bool=>.lit (.bool d)) (fun d=>d=(decide (1<=n)&&decide (n<=12))):=by
 refine Ev Tryz.func77 ?_
 iterate 2 refine Bq ?_
 exact .ret (Eu Dy (decide ((1:Int)<=n)&&decide ((n:Int)<=12)) rfl)
def Nm (n:Int):Bool:=(Eo (J8 n)).choose
theorem Up (n:Int):PP 77 [] [.lit (.int .i64 n)] [] (.lit (.bool (Nm n))):=(Eo (J8 n)).choose_spec.1
theorem U0 (n:Int):(Nm n)=(decide (1<=n)&&decide (n<=12)):=(Eo (J8 n)).choose_spec.2
theorem Ae9 {n:Int} (h:13<=n):PP 77 [] [.lit (.int .i64 n)] [] (.lit (.bool false)):=by
 have e:=Up n
 rwa[U0,show (decide (1<=n)&&decide (n<=12))=false by simp;omega] at e
theorem Aq6 {k:Int} {s:Gk} (h:Sc k=some s):13<=k/\k<=20/\s.tok=0/\0<=s.fix/\s.fix<=4/\0<=s.grp/\s.grp<=3/\s.lea=0/\0<=s.mos/\s.mos<=16 /\ -1<=s.dat:=by
 unfold Sc at h
 repeat' split at h
 all_goals first | (cases h;done) | (cases h;refine⟨by omega,by omega,rfl,?_⟩;decide)
structure A4d (m:Dz) (s:Gk):Prop where
  tok:m.tok.length=0
  dat:s.dat = -1\/(m.data.length:Int)=s.dat
  dl:m.data.length<=200
  g0:s.grp=0->(m.args.length:Int)=s.fix
  g1:0<s.grp->0<=(m.args.length:Int) - s.fix/\(m.args.length:Int) - s.fix<=s.grp*s.mos/\((m.args.length:Int) - s.fix).tmod s.grp=0
  rng:viR m.args
  gm:0<=s.grp*s.mos/\s.grp*s.mos<=48
  len:m.tok.length+M0 m.args+(if 0<s.grp then 1 else 0)+m.data.length<=200
theorem A1w {m:Dz} {s:Gk} (hs:Sc m.kind=some s) (ho:Ly m):A4d m s:=by
 have hb:=Aq6 hs
 have hsh:=(Hr m.kind).1.2 s hs
 obtain⟨h1,h2,h3,h4,h5,h6,h7⟩:=ho
 rw[hsh] at h2 h3 h4 h7
 dsimp only at h2 h3 h4 h7
 have hgm:0<=s.grp*s.mos/\s.grp*s.mos<=48:=⟨Int.mul_nonneg (by omega) (by omega),by show s.grp*s.mos<=3*16;exact Int.mul_le_mul (by omega) (by omega) (by omega) (by decide)⟩
 have hal:(msArgs s m.args).length=M0 m.args+(if 0<s.grp then 1 else 0)/\(0<s.grp->0<=(m.args.length:Int) - s.fix/\(m.args.length:Int) - s.fix<=s.grp*s.mos/\((m.args.length:Int) - s.fix).tmod s.grp=0):=by
  by_cases hg:0<s.grp
  ·unfold msArgs
   unfold Qa at h4 ⊢
   rw[if_neg (by omega)] at h4
   rw[if_pos hg,if_pos hg,if_neg (by omega)]
   split at h4
   ·cases h4
   rename_i hn
   rw[if_neg hn]
   have h4:s.lea<=((m.args.length:Int) - s.fix).tdiv s.grp/\((m.args.length:Int) - s.fix).tdiv s.grp<=s.mos:=by simpa using h4
   have hmod:((m.args.length:Int) - s.fix).tmod s.grp=0:=by
    by_cases hz:((m.args.length:Int) - s.fix).tmod s.grp=0
    ·exact hz
    exact absurd (.inr hz) hn
   have hdv:=Int.mul_tdiv_add_tmod ((m.args.length:Int) - s.fix) s.grp
   rw[hmod,Int.add_zero] at hdv
   have hnn:0<=((m.args.length:Int) - s.fix).tdiv s.grp:=Int.tdiv_nonneg (by omega) (by omega)
   have hle:=Int.mul_le_mul_of_nonneg_left h4.2 (show 0<=s.grp by omega)
   refine⟨?_,fun _=>⟨by omega,by omega,hmod⟩⟩
   have hv:(Gl (((m.args.length:Int) - s.fix).tdiv s.grp)).2=0:=by unfold Gl;rw[if_neg (by omega)]
   have hl:=(Uj hv).1
   rw[show vnl (((m.args.length:Int) - s.fix).tdiv s.grp)=1 by unfold vnl;rw[if_pos (by omega)]] at hl
   simp only[Bo,hl,K5 (Uk h6 _),K5 (Om h6 _)]
   have:M0 (m.args.take s.fix.toNat)+M0 (m.args.drop s.fix.toNat)=M0 m.args:=by
    unfold M0
    rw[<- List.sum_append,<- List.map_append,List.take_append_drop]
   omega
  unfold msArgs
  rw[if_neg hg,if_neg hg,K5 h6]
  exact⟨rfl,fun h=>absurd h hg⟩
 refine⟨by omega,h3,h5,fun hg=>?_,hal.2,fun a ha=>(Uj (h6 a ha)).2,hgm,?_⟩
 ·unfold Qa at h4
  rw[if_pos hg] at h4
  simpa using h4
 simp only[Bo,hal.1] at h7
 omega
section
variable (m:Dz) (h1:m.tok.length<=10000) (h2:m.args.length<=10000) (h3:m.data.length<=10000) (s:Gk) (hs:Sc m.kind=some s) (ho:Ly m)
include h1 h2 h3 hs ho
theorem Yv:Ct 51 [m.g] (fun d:Bool=>.lit (.bool d)) (fun d=>d=true):=by
 refine Ev Tryz.func51 ?_
 have hP:=A1w hs ho
 have hb:=Aq6 hs
 obtain⟨p1,p2,p3,p4,p5,p6,p7,p8⟩:=hP
 have hv:=J9 m.kind
 have hof:=(Kd m.kind).2.2.2.2.2.2.2.2.2.2 s hs
 obtain⟨Y1,cY1,qY1⟩:=Eo (Hi m h1 h2 h3)
 have hpl:=qY1.2 p6 (by rw[hof];intro hg;have:=p5 hg;show s.fix<=(m.args.length:Int);omega)
 rw[hof] at hv hpl
 have hz:Y1.length<=200:=by rw[hpl];exact p8
 have hlz:s.grp*s.lea=0:=by rw[hb.2.2.2.2.2.2.2.1,Int.mul_zero]
 have hwl:IntKind.i64.wrap (s.grp*s.lea)=0:=by rw[hlz];rfl
 have hwm:=Dw (s.grp*s.mos)
 have hge:0<=(m.args.length:Int) - s.fix:=by by_cases hg:0<s.grp;exact (p5 hg).1;have:=p4 (by omega);omega
 have hwf:=Dw ((m.args.length:Int) - s.fix)
 refine B3 (fun K kk=>by simp[go_sem,hwl,hwm,hwf,p1];exact kk)<|.seq ?_
 refine B3 (fun K kk=>by simp[go_sem,hwl,hwm,hwf,p1];exact kk) ?_
 refine Ck ?_ ?_<;>intro h14<;>simp[go_sem] at h14
 ·exfalso;omega
 refine Bp<|.S (fun K kk=>by simp[go_sem,hwl,hwm,hwf,p1];refine .l (hv) ?_;simp[go_sem,hwl,hwm,hwf,p1];exact kk) ?_
 refine B3 (fun K kk=>by simp[go_sem,hwl,hwm,hwf,p1];exact kk)<|.seq<|.block<|.seq ?_
 refine B3 (fun K kk=>by simp[go_sem,hwl,hwm,hwf,p1];refine .l (Ae9 hb.1) ?_;simp[go_sem,hwl,hwm,hwf,p1];exact kk) ?_
 refine Ck ?_ ?_<;>intro h24<;>simp[go_sem,p1] at h24
 refine Ci (fun K kk=>by simp[go_sem,hwl,hwm,hwf,p1];refine .l (Ae9 hb.1) ?_;simp[go_sem,hwl,hwm,hwf,p1];exact kk) ?_
 refine Ck ?_ ?_<;>intro h24_2<;>simp[go_sem,p1] at h24_2
 refine B9<|.S (fun K kk=>by simp[go_sem,hwl,hwm,hwf,p1];exact kk) ?_
 refine Ck ?_ ?_<;>intro h44<;>simp[go_sem] at h44
 ·exfalso;omega
 refine Ci (fun K kk=>by simp[go_sem,hwl,hwm,hwf,p1];repeat first | exact kk | refine aK ?_) ?_
 refine Ck ?_ ?_<;>intro h44_2<;>simp[go_sem] at h44_2
 ·exfalso;omega
 refine B9<|.S (fun K kk=>by simp[go_sem,hwl,hwm,hwf,p1];exact kk) ?_
 refine Ck ?_ ?_<;>intro h80<;>simp[go_sem] at h80
 ·exfalso;omega
 refine Ci (fun K kk=>by simp[go_sem,hwl,hwm,hwf,p1];exact kk) ?_
 refine Ck ?_ ?_<;>intro h80_2<;>simp[go_sem] at h80_2
 ·exfalso;omega
 refine Bp<|.seq<|.S (fun K kk=>by simp[go_sem,hwl,hwm,hwf,p1];exact kk)<|.block ?_
 refine Bs m.args.length (fun i1 (y1:Unit)=>⟨[(1,.ptr 0 0),(97,.mI m.args),(98,.lit (.int .i64 m.args.length)),(99,.lit (.int .i64 i1))],[.box 56 (m.a false)]⟩) (fun i1 y1=>True) () (wk Dy [0]) (trivial) fun i1 y1 hi1 hy1=>?_
 refine B3 (fun K kk=>by simp[go_sem,hwl,hwm,hwf,p1];exact kk)<|.seq ?_
 refine Br ?_ ?_<;>intro h100
 ·refine Bp<|.seq<|.block ?_
  obtain⟨e1,H1⟩:=gx m.args i1
  refine B3 (fun K kk=>by simp[go_sem,hwl,hwm,hwf,p1,H1];repeat first | exact kk | refine aK ?_) ?_
  refine B3 (fun K kk=>by simp[go_sem,hwl,hwm,hwf,p1,H1];exact kk) ?_
  refine Br ?_ ?_<;>intro h108
  ·refine B3 (fun K kk=>by simp[go_sem,hwl,hwm,hwf,p1,H1];exact kk) ?_
   refine Bz (Fl ?_);simp[go_sem,hwl,hwm,hwf,p1,H1]
   exact⟨false,by rfl,(absurd (p6 _ (Ac H1)) (by omega))⟩
  refine Bp<|.S1 (fun K kk=>by simp[go_sem,hwl,hwm,hwf,p1,H1];exact kk) ?_
  exact⟨by omega,(),trivial,wk (Fe (Dw ((i1:Int)+1)) H1) [0]⟩
 refine Bt<|.S (fun K kk=>by simp[go_sem,hwl,hwm,hwf,p1];refine .l cY1 ?_;simp[go_sem,hwl,hwm,hwf,p1];exact kk) ?_
 refine Bz (Fl ?_);simp[go_sem,hwl,hwm,hwf,p1]
 exact⟨decide (((Y1.length):Int)<=200),by rfl,(by show decide _=true;exact decide_eq_true (by omega))⟩
def Afx:Bool:=(Eo (Yv m h1 h2 h3 s hs ho)).choose
theorem Aoz:PP 51 [] [m.g] [] (.lit (.bool (Afx m h1 h2 h3 s hs ho))):=(Eo (Yv m h1 h2 h3 s hs ho)).choose_spec.1
theorem Aph:(Afx m h1 h2 h3 s hs ho)=true:=(Eo (Yv m h1 h2 h3 s hs ho)).choose_spec.2
end
section
structure S2 (m:Dz):Prop where
  sh:∃s,Sc m.kind=some s
  ok:Ly m
  h1:m.tok.length<=10000
  h2:m.args.length<=10000
  h3:m.data.length<=10000
variable {m:Dz}
theorem S2.rng (h:S2 m):13<=m.kind/\m.kind<=20:=by
 obtain⟨s,hs⟩:=h.sh
 have:=Aq6 hs
 omega
theorem Anu (h:S2 m):Nt m=Io m.kind (Kr m).1:=by
 have hr:=h.rng
 have hq:=(Me m h.h1 h.h2 h.h3).2.2.1 h.ok
 have hl:=Tz m
 have he:Qe m.kind (Kr m).1=(Io m.kind (Kr m).1,0):=by
  unfold Qe
  rw[if_neg (by omega),if_neg (by omega)]
 rw[he] at hq
 rw[Aes h.h1 h.h2 h.h3 (by rw[hq]),hq]
def itM (m:Dz):E7:=⟨0,m.kind,(Kr m).1⟩
theorem Aig:∀(L:List Dz) (n u:Int) (l:List E7),(l.length+L.length:Int)<n->(Lk n (L.map fun m=>(itM m,((Kr m).1.length:Int)+10)) u false l).2.2=l++L.map itM
 | [],n,u,l,_=>by simp[Lk]
 | m::L,n,u,l,h=>by
  rw[List.map_cons,Lk]
  rw[A6] at h
  have e1:¬((itM m).code=2/\false=true):=by simp
  have e2:((itM m).code == 2||(itM m).code == 7||(itM m).code == 4)=false:=rfl
  simp only[]
  rw[if_neg e1,if_neg (by rw[Bo,List.length_singleton];omega),e2,Aig L n _ _ (by rw[Bo,List.length_singleton];omega)]
  simp
variable {L:List Dz}
theorem Aix (h:∀m∈L,S2 m):J1 (L.map Nt).flatten=L.map fun m=>(itM m,((Kr m).1.length:Int)+10):=by
 have e:L.map Nt=(L.map fun m=>(m.kind,(Kr m).1)).map fun x=>Io x.1 x.2:=by
  rw[List.map_map]
  exact List.map_congr_left fun m hm=>Anu (h m hm)
 rw[e,Asb (fun x hx=>by
  obtain⟨m,hm,rfl⟩:=A4.1 hx
  have:=(h m hm).rng
  exact⟨⟨by dsimp only;omega,by dsimp only;omega⟩,Tz m⟩),List.map_map]
 rfl
theorem Ark {b:List Int} (h:∀m∈L,S2 m) (hb:b=(L.map Nt).flatten) (hl:b.length<=1000000) (hB:By b):Nl b hl hB=L.map itM:=by
 have hn:=Ab0 b
 rw[(Aak b hl hB).2.2]
 rw[hb,Aix h] at hn ⊢
 rw[A2] at hn
 rw[Aig L _ _ _ (by rw[List.length_nil];omega)]
 rfl
theorem Are (h:S2 m) (hp:(Kr m).1.length<=1000000):E9 m.kind (Kr m).1 hp=(m,0):=by
 refine (Tq m.kind (Kr m).1 hp).2 m rfl h.ok ?_
 rw[<- List.append_assoc]
 exact congrArg Prod.fst (if_pos h.ok)
section
variable (b:List Int) (L:List Dz) (hL:∀m∈L,S2 m) (hb:b=(L.map Nt).flatten) (hl:b.length<=1000000) (hB:By b)
include hL hb hl hB
theorem J5:Ct 24 [.mY b] (fun d:List Dz×Bool=>.tup [.mMsg d.1,.lit (.bool d.2)]) (fun d=>d=(L,true)):=by
 refine Ev Tryz.func24 ?_
 have hAv:=Ajv b hl hB
 obtain⟨A,hA⟩:∃A,A=L.map itM:=⟨_,rfl⟩
 have hAL:A.length=L.length:=by rw[hA,A2]
 rw[Ark hL hb hl hB,<- hA] at hAv
 have hLn:L.length<=1000000:=by have h:=(Aak b hl hB).1;rw[Ark hL hb hl hB,A2] at h;omega
 refine Bq ?_
 refine Bq<|.seq ?_
 refine B8 Dy (hAv)<|.block ?_
 refine Cf 4 56 4 (by decide) (k':=4) (by simp[go_sem]) ?_
 simp[go_sem,-Prod.exists]
 refine Bs A.length (fun i1 (y1:(List Dz))=>⟨[(4,.own 0 y1.length),(10,.mItem A),(11,.lit (.int .i64 A.length)),(12,.lit (.int .i64 i1))],[.row 56 4 false false (Rb y1)]⟩) (fun i1 y1=>y1=L.take i1/\y1.length<=i1) ([]) (wk Dy [0]) (⟨rfl,by simp⟩) fun i1 y1 hi1 hy1=>?_
 refine Bq<|.seq ?_
 refine Br ?_ ?_<;>intro h13
 ·refine Bp<|.seq<|.block ?_
  obtain⟨e1,H1⟩:=gx A i1
  refine Bu H1 ?_
  obtain⟨m1,hm1,hme⟩:∃m1,L[i1]? = some m1/\itM m1=e1:=by rw[hA,Ap] at H1;exact Option.map_eq_some_iff.1 H1
  have hS:=hL m1 (Ac hm1)
  obtain⟨s1,hs1⟩:=hS.sh
  have hec:e1.code=0:=by rw[<- hme];rfl
  have hpl:e1.pay.length<=1000000:=by rw[<- hme];exact Ak (Tz m1) (by decide)
  have hdv:=Ti e1.kind e1.pay hpl
  have hde:E9 e1.kind e1.pay hpl=(m1,0):=by subst hme;exact Are hS _
  rw[hde] at hdv
  have hvv:=Aoz m1 hS.h1 hS.h2 hS.h3 s1 hs1 hS.ok
  rw[Aph] at hvv
  refine B8 H1 (hdv)<|.seq ?_
  refine B4 (by rfl) fun K1 hK1=>?_
  simp[go_sem,H1,hec]
  refine Qc ?_
  simp[go_sem,H1,hec]
  refine .lo (hvv) rfl (by simp[AV.cln,Ff]) ?_
  simp[go_sem,H1,hec]
  refine hK1 _ ?_;clear hK1
  refine Ck ?_ ?_<;>intro h35<;>simp[go_sem] at h35
  refine Bp<|.H1 H1 ?_
  refine B0 H1 ?_
  exact⟨by omega,(y1++[m1]),⟨by rw[hy1.1,List.take_add_one,hm1];rfl,by simp;omega⟩,wk (Fe (Dw ((i1:Int)+1)) H1) [0]⟩
 refine Bt<|.R ?_
 refine B2 Dy 0 ?_
 exact .ret (Eu Dy (y1,true) (by rw[hy1.1,Bf (by omega)]))
def Ka:List Dz×Bool:=(Eo (J5 b L hL hb hl hB)).choose
theorem Un:PP 24 [] [.mY b] [] (.tup [.imm false 4 (Rb (Ka b L hL hb hl hB).1),.lit (.bool (Ka b L hL hb hl hB).2)]):=(Eo (J5 b L hL hb hl hB)).choose_spec.1
theorem Uy:(Ka b L hL hb hl hB)=(L,true):=(Eo (J5 b L hL hb hl hB)).choose_spec.2
end
end
theorem Adv (l:List Dz) (fid:FuncId) (caps:List AV) (p:Dz->Bool) (hl:l.length<=1000000) (hc:Aa2 caps) (hp:∀t,t∈l->PP fid [] (t.g::caps) [] (.lb (p t))):PP 158 [] [.mMsg l,.fn fid caps] [] (.li (Ii p l)):=by
 refine El Tryz.func158 ?_
 refine Bw<|.seq ?_
 refine Bw<|.block ?_
 refine Df l.length (fun i1=>⟨[(0,.mMsg l),(1,.fn fid caps),(7,.li l.length),(8,.li i1)],[]⟩) (fun i1=>Ii p l=Gz p (l.drop i1) i1) (wQ [] ?_ ?_) rfl fun i1 hi1 hI=>?_
 ·simp[go_sem,hc.ren]
 ·simp[go_sem,hc.ren]
 refine Bw<|.seq ?_
 refine B7 ?_ ?_<;>intro h9
 ·have hx:l[i1]? = some l[i1]:=Aa h9
  generalize l[i1]=t at hx
  rw[Lh p hx] at hI
  refine Bv<|.seq<|.block<|.R ?_
  refine Cc (fun K kk=>by simp[go_sem,hx,hc.pass,hc.passC,hc.bor,hc.low];(repeat refine aK ?_);refine .lo (hp t (Ac hx)) (by simp[go_sem,hc.low]) (by simp) ?_;simp[go_sem,hx,hc.pass,hc.passC,hc.bor,hc.low];exact kk) ?_
  refine B7 ?_ ?_<;>intro h16
  ·rw[if_pos h16] at hI
   refine Bw ?_
   exact .ret (rL hI)
  rw[h16] at hI
  simp only[Bl,if_false] at hI
  refine Bv<|.R1 ?_
  refine⟨by omega,hI,wQ [] ?_ ?_⟩
  ·simp[go_sem,Dw ((i1:Int)+1),hc.ren,h9,h16]
  simp[go_sem]
 have he:i1=l.length:=by omega
 subst he
 rw[My] at hI
 refine B5<|.R ?_
 exact .ret (rL hI)
section
theorem Yn {α:Type} (p:α->Bool):∀(l:List α) (i:Nat),(Gz p l i = -1/\∀t∈l,p t=false)\/∃(k:Nat) (t:α),Gz p l i=(i+k:Nat)/\l[k]? = some t/\p t=true/\∀u∈l.take k,p u=false
 | [],i=>.inl ⟨rfl,fun t h=>by cases h⟩
 | a::l,i=>by
  by_cases ha:p a=true
  ·exact .inr ⟨0,a,by simp[Gz,ha],rfl,ha,fun u h=>by cases h⟩
  have ha:p a=false:=by simpa using ha
  rcases Yn p l (i+1) with⟨h1,h2⟩ | ⟨k,t,h1,h2,h3,h4⟩
  ·refine .inl ⟨by simp[Gz,ha,h1],fun t h=>?_⟩
   rcases List.mem_cons.1 h with rfl | h
   ·exact ha
   exact h2 t h
  refine .inr ⟨k+1,t,by simp[Gz,ha,h1];omega,h2,h3,fun u h=>?_⟩
  rw[List.take_succ_cons] at h
  rcases List.mem_cons.1 h with rfl | h
  ·exact ha
  exact h4 u h
variable {α:Type}
theorem Ac6 {p:α->Bool} {l:List α} (h:∀t∈l,p t=false):l.filter (fun t=>!p t)=l:=List.filter_eq_self.2 fun t ht=>by simp[h t ht]
theorem Ab5 {p:α->Bool} {l:List α} {j:Nat} {t:α} (h:l[j]? = some t):(l.take (j+1)).filter (fun t=>!p t)=(l.take j).filter (fun t=>!p t)++if p t then [] else [t]:=by
 rw[List.take_add_one,h,List.filter_append]
 cases hp:p t<;>simp[hp]
end
section
variable {es:List (List T)}
theorem A1z (h:∀e∈es,e.length=4) {i:Nat} (hi:i<es.length):∃a b c d,es[i]? = some [a,b,c,d]:=by
 have h1:=Aa hi
 have h2:=h _ (Ac h1)
 match hx:es[i],h2 with
 | [a,b,c,d],_=>exact⟨a,b,c,d,by rw[h1,hx]⟩
variable {l:List Dz} {t:Dz}
theorem As4 {j:Nat} (h:es.drop j=Rb (l.drop j)) (ht:l[j]? = some t):es[j]? = some t.t:=by
 have h1:(es.drop j)[0]? = some t.t:=by
  rw[h,Ap,Bd]
  simp[ht]
 rw[Bd] at h1
 simpa using h1
theorem Ar0 {α:Type} (es vs:List α) (i:Nat):(Km es i vs).take i=es.take i:=by
 refine List.ext_getElem? fun j=>?_
 by_cases h:j<i
 ·rw[Ag h,Ag h,Jq,if_neg (by omega)]
 rw[List.getElem?_take_eq_none (by omega),List.getElem?_take_eq_none (by omega)]
structure Aof (p:Dz->Bool) (l:List Dz) (es:List (List T)) (i j:Nat):Prop where
  len:es.length=l.length
  ij:i<j
  jl:j<=l.length
  four:∀e∈es,e.length=4
  kept:es.take i=Rb ((l.take j).filter fun t=>!p t)
  rest:es.drop j=Rb (l.drop j)
variable {p:Dz->Bool} {i j:Nat}
theorem Aof.skip (h:Aof p l es i j) (ht:l[j]? = some t) (hp:p t=true):Aof p l es i (j+1):=by
 have hj:=(Ab.1 ht).1
 refine⟨h.len,by have:=h.ij;omega,hj,h.four,by rw[Ab5 ht,if_pos hp,List.append_nil];exact h.kept,?_⟩
 have:=congrArg (List.drop 1) h.rest
 rw[List.drop_drop,<- List.map_drop,List.drop_drop] at this
 simpa[Ba] using this
theorem Aof.keep (h:Aof p l es i j) (ht:l[j]? = some t) (hp:p t=false):Aof p l (es.set i t.t) (i+1) (j+1):=by
 have hj:=(Ab.1 ht).1
 have hij:=h.ij
 have hl:=h.len
 refine⟨by rw[List.length_set];exact h.len,by omega,hj,fun e he=>?_,?_,?_⟩
 ·rcases Bi he with h1 | h1
  ·exact h.four e h1
  rw[h1];rfl
 ·rw[Ab5 ht,hp]
  simp only[Bl,if_false,List.map_append,List.map_cons,List.map_nil]
  rw[show List.map Dz.t (List.filter (fun t=>!p t) (List.take j l))=es.take i from h.kept.symm,List.take_add_one,List.take_set_of_le (Aj _),Bg (by omega)]
  rfl
 rw[List.drop_set_of_lt (by omega)]
 have:=congrArg (List.drop 1) h.rest
 rw[List.drop_drop,<- List.map_drop,List.drop_drop] at this
 simpa[Ba] using this
theorem Wj (l:List Dz) (fid:FuncId) (caps:List AV) (p:Dz->Bool) (hl:l.length<=1000000) (hc:Aa2 caps) (hp:∀t,t∈l->PP fid [] (t.g::caps) [] (.lb (p t))) :
 ∃R:List (List T),PP 132 [.row 56 4 false false (Rb l)] [.own 0 l.length,.fn fid caps] [.row 56 4 false true R] (.mMsg (l.filter fun t=>!p t))/\True:=by
 refine Aer (D:=List (List T)) (F:=fun d=>.mMsg (l.filter fun t=>!p t)) (S:=fun d=>[.row 56 4 false true d]) (Q:=fun d=>True) Tryz.func132 rfl rfl rfl (by simp[Tryz.ntmps132]) ?_
 refine Bq ?_
 refine B3 (fun K kk=>by simp[go_sem,hc.pass,hc.passC,hc.bor,hc.low];refine .lo (Adv l fid caps p hl hc hp) (by simp[go_sem,hc.low]) (by simp[AV.cln,Ff]) ?_;simp[go_sem,hc.pass,hc.passC,hc.bor,hc.low];exact kk)<|.seq ?_
 refine Bq ?_
 rcases Yn p l 0 with⟨h1,h2⟩ | ⟨k,t0,h1,h2,h3,h4⟩
 ·have hi:Ii p l = -1:=h1
  have hf:=Ac6 h2
  simp only[hi]
  refine Ck ?_ ?_<;>intro h12<;>simp[go_sem] at h12
  refine Bq ?_
  refine B2 Dy 0 ?_
  refine Bz ⟨Rb l,Tn [0] (by simp[go_sem]) (by decide) (by simp) (by simp[go_sem,hf]) ?_,trivial⟩
  repeat' (first | exact .nil | refine .cons (by simp[go_sem]) ?_)
 have hi:Ii p l=(k:Int):=by unfold Ii;rw[h1];simp
 have hkl:=(Ab.1 h2).1
 simp only[hi]
 refine Ck ?_ ?_<;>intro h12<;>simp[go_sem] at h12
 refine Bp ?_
 have hw:=Dw ((k:Int)+1)
 refine B9<|.H hw<|.block ?_
 have hI0:Aof p l (Rb l) k (k+1):=⟨by simp,by omega,by omega,fun e he=>by obtain⟨m,_,rfl⟩:=A4.1 he;rfl,by rw[Ab5 h2,if_pos h3,List.append_nil,Ac6 h4];exact List.map_take.symm,List.map_drop.symm⟩
 refine Cj (fun (y:List (List T)×Nat×Nat)=>⟨[(0,.own 0 y.1.length),(1,.fn fid caps),(5,.li (y.2.1:Int)),(6,.li (y.2.2:Int))],[.row 56 4 false false y.1]⟩) (fun y=>Aof p l y.1 y.2.1 y.2.2) (fun y=>l.length - y.2.2) (Rb l,k,k+1) (wQ [0] ?_ ?_) hI0 fun y hy=>?_
 ·simp[go_sem,hc.ren]
 ·simp[go_sem]
 have hy1:=hy.len
 have hy2:=hy.ij
 have hy3:=hy.jl
 refine B9<|.R ?_
 refine Br ?_ ?_<;>intro h19
 ·refine Bp<|.seq<|.block ?_
  obtain⟨t,ht⟩:∃t,l[y.2.2]? = some t:=⟨_,Aa (by omega)⟩
  have hxj:=As4 hy.rest ht
  obtain⟨a,b,c,d,hxi⟩:=A1z hy.four (i:=y.2.1) (by omega)
  refine Bu hxj ?_
  refine B3 (fun K kk=>by simp[go_sem,hc.pass,hc.passC,hc.bor,hc.low];refine .lo (hp t (Ac ht)) (by simp[go_sem,hc.low]) (by simp) ?_;simp[go_sem,hc.pass,hc.passC,hc.bor,hc.low];exact kk) ?_
  have hwj:=Dw ((y.2.2:Int)+1)
  have hwi:=Dw ((y.2.1:Int)+1)
  refine Br ?_ ?_<;>intro h29
  ·refine B3 (fun K kk=>by simp[go_sem,hxi,Km];repeat first | exact kk | refine aK ?_) ?_
   refine B0 hwi ?_
   refine B0 hwj ?_
   refine⟨(y.1.set y.2.1 t.t,y.2.1+1,y.2.2+1),by dsimp only;omega,hy.keep ht h29,wQ [0] ?_ ?_⟩
   ·simp[go_sem,hc.ren]
   simp[go_sem]
  refine Bp<|.H1 hwj ?_
  refine⟨(y.1,y.2.1,y.2.2+1),by dsimp only;omega,hy.skip ht h29,wQ [0] ?_ ?_⟩
  ·simp[go_sem,hc.ren]
  simp[go_sem]
 refine Bt ?_
 have hj:y.2.2=l.length:=by omega
 have hk:=hy.kept
 rw[hj,List.take_length] at hk
 refine B3 (fun K kk=>by simp[go_sem,Fr];repeat first | exact kk | refine aK ?_) ?_
 refine B3 (fun K kk=>by simp[go_sem,Fr];repeat first | exact kk | refine aK ?_) ?_
 refine Dj 0 ?_
 simp[go_sem,-Prod.exists,Fr]
 refine Bz ⟨Km y.1 y.2.1 (List.replicate (y.1.length - y.2.1) [.li 0,.sl 1 [],.sl 1 [],.sl 1 []]),Tn [0] (by simp[go_sem]) (by decide) (by simp) (by simp[go_sem,hk,Fr,Ar0]) ?_,trivial⟩
 repeat' (first | exact .nil | refine .cons (by simp[go_sem,Fr]) ?_)
end
def Arn (r d:Jw):Prop:=d.num=r.num/\d.ag=r.ag
section
variable (r:Jw) (n:Int) (hb:Qb r)
include n hb
theorem Pn:Ct 147 [r.g,.li n] (fun d:Jw=>d.g) (fun d=>Qb d/\Arn r d/\d.toks=Js r.toks n hb.toks hb.tsec/\d.vehs=r.vehs/\d.bk=Nj r.bk):=by
 refine Ev Tryz.func147 ?_
 have hq:=Afy r.toks n hb.toks hb.tsec
 refine Bq ?_
 refine B8 Dy (Oo r hb) ?_
 refine B8 Dy (Ae7 r.toks n hb.toks hb.tsec) ?_
 refine B8 Dy (Al6 r.bk) ?_
 refine Bq ?_
 exact .ret (Eu Dy ⟨r.num,r.ag,(Js r.toks n hb.toks hb.tsec),r.vehs,(Nj r.bk)⟩ ⟨⟨hb.sec,hb.lims,by dsimp only;rw[hq.1];exact hb.toks,hq.2,hb.vehs⟩,⟨rfl,rfl⟩,rfl,rfl,rfl⟩)
def G8:Jw:=(Eo (Pn r n hb)).choose
theorem Ado:PP 147 [] [r.g,.li n] [] (.agg ((G8 r n hb).a false)):=(Eo (Pn r n hb)).choose_spec.1
theorem Md:Qb (G8 r n hb)/\Arn r (G8 r n hb)/\(G8 r n hb).toks=Js r.toks n hb.toks hb.tsec/\(G8 r n hb).vehs=r.vehs/\(G8 r n hb).bk=Nj r.bk:=(Eo (Pn r n hb)).choose_spec.2
end
section
variable (x:Dx) (n:Int) (hb:Vw x)
include n hb
theorem Uf:Ct 124 [x.g,.li n] (fun d:Dx=>d.g) (fun d=>Vw d/\d.reg=G8 x.reg n hb.reg/\d.reqs=x.reqs.filter (fun r=>decide (n<=r.unt))/\d.draws=x.draws/\d.aud=x.aud):=by
 refine Ev Tryz.func124 ?_
 refine Bq ?_
 refine B8 Dy (L6 x hb) ?_
 refine B8 Dy (Ado x.reg n hb.reg) ?_
 refine B8 Dy (Abm x.reqs n hb.reqs hb.legs) ?_
 refine Bq ?_
 exact .ret (Eu Dy ⟨(G8 x.reg n hb.reg),(List.filter (fun r:Er=>decide (n<=r.unt)) x.reqs),x.draws,x.aud⟩ ⟨⟨(Md x.reg n hb.reg).1,Ak (Az _ _) hb.reqs,fun r h=>hb.legs r (Bn.1 h).1,hb.draws,hb.draw,hb.aud⟩,rfl,rfl,rfl,rfl⟩)
def Fd:Dx:=(Eo (Uf x n hb)).choose
theorem Aj4:PP 124 [] [x.g,.li n] [] (.agg ((Fd x n hb).a false)):=(Eo (Uf x n hb)).choose_spec.1
theorem Ql:Vw (Fd x n hb)/\(Fd x n hb).reg=G8 x.reg n hb.reg/\(Fd x n hb).reqs=x.reqs.filter (fun r=>decide (n<=r.unt))/\(Fd x n hb).draws=x.draws/\(Fd x n hb).aud=x.aud:=(Eo (Uf x n hb)).choose_spec.2
end
section
variable (x:Dx) (l:List Gw) (now:Int) (hr:x.reqs.length<=1000000) (hq4:x.reg.ag.rq<=3) (hl:l.length<=4) (hv:∀v∈l,v.col.length<=8/\v.cnt.length<=8)
include now hr hq4 hl hv
theorem So:Ct 131 [x.g,.mView l,.li now] (fun d:Dz=>d.g) (fun d=>d.kind=17/\d.args=[now]/\d.tok=[]/\d.data.length=vwl l+(x.reg.ag.rq*3).toNat/\By d.data):=by
 refine Ev Tryz.func131 ?_
 have hlM:l.length<=1000000:=by omega
 have hv8:∀v∈l,v.col.length<=8:=fun v h=>(hv v h).1
 obtain⟨Y1,cY1,qY1⟩:=Eo (Aey x.reqs x.reg.ag.rq l now hr hlM hv8 hq4)
 have hc:=qY1
 have hcM:Y1.length<=1000:=by omega
 refine Bq ?_
 refine B8 Dy cY1 ?_
 obtain⟨Y2,cY2,qY2⟩:=Eo (Aa6 now l Y1 hl hv hcM)
 refine B8 Dy cY2 ?_
 exact .ret (Eu Dy Y2 (by have hm:=qY2;have hB:=Tp l hl hv;exact⟨hm.1,hm.2.1,hm.2.2.1,by rw[hm.2.2.2];simp only[Bo];omega,by rw[hm.2.2.2];exact (Abw l hl hv).app hc.2⟩))
def Fg:Dz:=(Eo (So x l now hr hq4 hl hv)).choose
theorem Ahp:PP 131 [] [x.g,.mView l,.li now] [] (.agg ((Fg x l now hr hq4 hl hv).a false)):=(Eo (So x l now hr hq4 hl hv)).choose_spec.1
theorem P8:(Fg x l now hr hq4 hl hv).kind=17/\(Fg x l now hr hq4 hl hv).args=[now]/\(Fg x l now hr hq4 hl hv).tok=[]/\(Fg x l now hr hq4 hl hv).data.length=vwl l+(x.reg.ag.rq*3).toNat/\By (Fg x l now hr hq4 hl hv).data:=(Eo (So x l now hr hq4 hl hv)).choose_spec.2
theorem Ahw:(Fg x l now hr hq4 hl hv).kind=17/\(Fg x l now hr hq4 hl hv).args=[now]/\(Fg x l now hr hq4 hl hv).tok=[]/\(Fg x l now hr hq4 hl hv).data.length<=60:=by have h:=P8 x l now hr hq4 hl hv;have:=Abf hv;exact⟨h.1,h.2.1,h.2.2.1,by omega⟩
end
theorem Xz (r:Jw) (l:List Int) (slot:Int) (now:Int) (sec:List Int) (hb:Qb r) (hl:3<=l.length) (hs:sec.length<=1000):Cx 233 [.box 66 (r.a false)] [.ptr 0 0,.mI l,.li slot,.li now,.mY sec] (fun d:Dz×Int×Jw=>[.box 66 (d.2.2.a false)]) (fun d=>.tup [d.1.g,.li d.2.1]) (fun d=>Qb d.2.2/\d.2.2.num=r.num/\d.2.2.ag=r.ag/\d.2.2.vehs=r.vehs/\d.2.2.bk=r.bk/\d.1.tok=[]/\d.1.args.length<=1/\d.1.data.length<=1002/\(d.2.1=0->d.1.kind=16/\(By sec->By d.1.data)/\∃v,d.1.args=[v]/\NB v/\d.1.data.length=10)/\0<=d.2.1/\d.2.1<=99):=by
 refine T0 Tryz.func233 ?_
 have hsM:sec.length<=1000000:=by omega
 refine Bq ?_
 refine Bu Dy<|.seq ?_
 refine B2 Dy 2 ?_
 obtain⟨e1,H1⟩:=gx l 0
 obtain⟨e2,H2⟩:=gx l 1
 obtain⟨e3,H3⟩:=gx l 2
 obtain⟨Y1,cY1,qY1⟩:=Eo (V3 r.toks slot e1 e2 e3 (List.replicate 8 0) now hb.toks hb.tsec (by simp))
 refine Dd (I1 H1 H2 H3) cY1 ?_
 refine Bu (I1 H1 H2 H3) ?_
 refine Br ?_ ?_<;>intro h43
 ·refine Bu (I1 H1 H2 H3) ?_
  exact .ret ⟨(⟨0,[],[],[]⟩,Y1.2.2,r),rW (I1 H1 H2 H3) [0],⟨hb,rfl,rfl,rfl,rfl,rfl,by simp,by simp,fun h=>absurd h h43,qY1.2.2.1⟩⟩
 refine Bp<|.seq<|.H (I1 H1 H2 H3) ?_
 refine Br ?_ ?_<;>intro h48
 ·refine Bu (I1 H1 H2 H3) ?_
  exact .ret ⟨(⟨0,[],[],[]⟩,18,r),rW (I1 H1 H2 H3) [0],⟨hb,rfl,rfl,rfl,rfl,rfl,by simp,by simp,fun h=>absurd h (by simp),by simp⟩⟩
 refine Bp ?_
 obtain⟨Y2,cY2,qY2⟩:=Eo (V3 r.toks slot e1 e2 e3 sec now hb.toks hb.tsec hsM)
 have hqd:=qY2
 refine Dd (I1 H1 H2 H3) cY2<|.seq ?_
 refine Bu (I1 H1 H2 H3) ?_
 refine Br ?_ ?_<;>intro h72
 ·refine Bu (I1 H1 H2 H3) ?_
  exact .ret ⟨(⟨0,[],[],[]⟩,Y2.2.2,r),rW (I1 H1 H2 H3) [0],⟨hb,rfl,rfl,rfl,rfl,rfl,by simp,by simp,fun h=>absurd h h72,qY2.2.2.1⟩⟩
 refine Bp<|.H (I1 H1 H2 H3) ?_
 obtain⟨Y3,cY3,qY3⟩:=Eo (Ag1 r.num Y2.2.1 sec hs)
 refine B8 (I1 H1 H2 H3) cY3 ?_
 refine Bu (I1 H1 H2 H3) ?_
 refine B2 Dy 3 ?_
 exact .ret ⟨(⟨16,[],[Y2.2.1],Y3⟩,0,⟨r.num,r.ag,Y2.1,r.vehs,r.bk⟩),rW (I1 H1 H2 H3) [0],⟨⟨hb.sec,hb.lims,Ak hqd.1 hb.toks,hqd.2.1,hb.vehs⟩,rfl,rfl,rfl,rfl,rfl,by simp,by dsimp only;rw[qY3.1];omega,fun _=>⟨rfl,qY3.2,_,rfl,⟨(hqd.2.2.2 h72).1,by have:=(hqd.2.2.2 h72).2.1;omega⟩,by have:=(hqd.2.2.2 h72).2.2;dsimp only;rw[qY3.1];omega⟩,by simp⟩⟩
section
theorem Ea.lit_eq {C:VC} {v u:Value} (h:Ea C (.lit v) u):u=v:=by
 cases h
 rfl
theorem Ea.nil_eq {C:VC} {k:Nat} {u:Value} (h:Ea C (.nil k) u):∃A,u=.slice A 0 0:=by
 cases h
 exact⟨_,rfl⟩
variable {P:Program}
theorem Asa {f:FuncId} (hc:Agz P f) (args:List AV) (ty k:Nat) (hk:0<k) (hraw:∀(C:VC) (us:Array Value) (w:World),us.size=args.length->(∀t,Ea C (E5 (H0 0 args) t) (us.getD t undef))->Calls P f us w fun e w'=>∃v,e=.returned v/\(w'.ownsRow w.heap.size ty k v 0 []\/∃A,v=.slice A 0 0)/\Below w.heap.size w w'):E4 P f [] args [.row ty k true false []] (.own 0 0):=by
 refine⟨hc,fun E β us hn ho hβ r=>?_⟩
 have hsz:us.size=args.length:=by
  have:=r.sz
  rw[hn] at this
  exact this
 refine (hraw _ us E.w0 hsz r.sl).mono ?_
 rintro e w' ⟨v,rfl,hown,hb⟩
 have hkp:Kp (fun _=>False) E.w0 w':=⟨hb.os,hb.tape,hb.output,hb.size,fun b hb' _=>hb.block b hb'⟩
 have r1:=r.grow hkp
 have hgone:∀id,(St.mk (H0 0 args) []).o id=.gone:=fun id=>by simp[St.o]
 have ho0:∀id,E.o0 id=.gone:=fun id=>by rw[ho];simp[St.o]
 have hct:∀C:VC,Aog E.w0.heap E.o0 E.β0 C:=fun C=>⟨fun id ty cs h=>(by rw[ho0] at h;cases h),fun id ty k fr fz es h=>(by rw[ho0] at h;cases h)⟩
 have hst:∀id,(St.mk [(0,AV.own 0 0)] [Ob.row ty k true false []]).o id=if id=0 then .row ty k true false [] else .gone:=fun id=>by
  cases id with
  | zero=>rfl
  | succ n=>simp[St.o]
 have hds:=r1.df
 have Eu:∀β':Nat->Option Nat,(∀b,β' 0=some b->b<w'.heap.size/\E.w0.heap.size<=b)->Ea (({ E with n:=1 }:Gp).C β' ⟨[(0,.own 0 0)],[.row ty k true false []]⟩ w') (.own 0 0) v->Ki (({ E with n:=1 }:Gp).C β' ⟨[(0,.own 0 0)],[.row ty k true false []]⟩ w') 0 (.row ty k true false []) ->
  Es { E with n:=1 } β' ⟨[(0,.own 0 0)],[.row ty k true false []]⟩ ⟨#[v],[]⟩ w':=fun β' h1 h2 h3=>by
  refine⟨rfl,fun t=>?_,hds,fun id=>?_,fun i j b hi hj _ _=>?_,fun i b hi hb'=>?_,r1.kp,hct _,r1.kb,r1.dk⟩
  ·cases t with
   | zero=>exact h2
   | succ t=>simp[E5];exact .any _
  ·rw[hst]
   by_cases e:id=0
   ·subst e;exact h3
   rw[if_neg e];trivial
  ·rw[hst] at hi hj
   have e1:i=0:=by
    by_cases e:i=0
    ·exact e
    rw[if_neg e] at hi;exact absurd rfl hi
   have e2:j=0:=by
    by_cases e:j=0
    ·exact e
    rw[if_neg e] at hj;exact absurd rfl hj
   rw[e1,e2]
  rw[hst] at hi
  have e1:i=0:=by
   by_cases e:i=0
   ·exact e
   rw[if_neg e] at hi;exact absurd rfl hi
  subst e1
  have:=h1 b hb'
  exact⟨this.1,.inl this.2⟩
 have h2:(∃A,v=.slice A 0 0)\/∃g cap cur,v=.slice (some ⟨g,0,none⟩) 0 cap/\E.w0.heap.size<=g/\w'.heap[g]? = some (.cells cur ty (0,0))/\cap<=maxLen/\cur.size=cap*k:=by
  rcases hown with⟨_,⟨rfl,_⟩ | ⟨g,cap,cur,h1,h2,h3,_,h5,h6,_⟩⟩ | hA
  ·exact .inl ⟨_,rfl⟩
  ·exact .inr ⟨g,cap,cur,h1,h2,h3,h5,h6⟩
  exact .inl hA
 rcases h2 with⟨A,rfl⟩ | ⟨g,cap,cur,rfl,hg,hh,hml,hcs⟩
 ·refine⟨_,fun _=>none,rfl,Eu _ (fun b h=>by cases h) (.own _ _ _ ⟨rfl,ty,k,true,false,[],rfl,Aj _,fun _=>?_⟩) ⟨⟨hk,fun i e he=>by simp at he⟩,?_⟩⟩
  ·exact⟨A,rfl⟩
  show ([]:List (List T))=[]
  rfl
 refine⟨_,fun _=>some g,rfl,Eu _ (fun b h=>?_) (.own _ _ _ ⟨rfl,ty,k,true,false,[],rfl,Aj _,fun _=>?_⟩) ⟨⟨hk,fun i e he=>by simp at he⟩,?_⟩⟩
 ·injection h with h
  subst h
  exact⟨(Aw.1 hh).1,hg⟩
 ·exact⟨cap,cur,hh,hcs,rfl⟩
 exact⟨cur,cap,hh,hcs,Ae _,hml,fun i e j x he=>by simp at he⟩
theorem Aad (A:Option Addr) (w:World) (t tn ty e:TypeId) (i:TypeInfo) (z:Value) (k kn:IntKind) (ht:P.underlying t=some (.slice e)) (htn:P.underlying tn=some (.int kn)) (hi:P.info? e=some i) (hz:i.zero=some z) (n:Nat) (h0:0<n) (hs:0<i.size) (h63:(n:Int)<=9223372036854775807) (h48:n*i.bytes<=281474976710656) :
  (Builtin.append_ #[t,tn] ty #[.slice A 0 0,.int k n]).run P w =
   .ok (.slice (some ⟨w.heap.size,0,none⟩) n (grownCap w n 0 e)) (w.drew.alloc (.cells (Builtin.zeroCells z.cells n++Builtin.zeroCells z.cells (grownCap w n 0 e - n)) e)):=by
 have hn:n≠0:=by omega
 have hw:IntKind.i64.wrap (n:Int)=n:=by rw[IntKind.wrap_i64];omega
 have h63':¬(9223372036854775807<(n:Int)):=by omega
 have h48':¬(281474976710656<Builtin.nextslicecap n 0*i.bytes):=by rw[nextslicecap_zero h0];omega
 have h48i:¬(281474976710656<(n:Int)*(i.bytes:Int)):=by
  rw[<- Int.natCast_mul]
  omega
 have hneg:¬((n:Int)<0):=by omega
 have hns:¬(n*i.size=0):=Nat.mul_ne_zero hn (by omega)
 have hf:∀w1:World,(Builtin.firstCells i.size 0 (.slice A 0 0)).run P w1=.ok #[] w1:=fun w1=>by
  cases A with
  | none=>exact run_firstCells_none ..
  | some a=>simp[Builtin.firstCells,loadCells,loadCellsFrom]
 simp[Builtin.append_,run_underlying ht,run_underlying htn,sizeOf,typeInfo,zeroValue,hi,hz,asInt,asIntOf,hw,hn,hneg,hns,h63',h48',h48i,Question.forced,hf,newRow,grownCap]
theorem A25:(Tryz.prog.info? 216).map (fun i=>(i.zero,i.size,i.bytes))=some (some (.agg #[.int .i64 0,.int .i64 0]),2,16):=by kernel_rfl
theorem Afk (z:Array Value) (n:Nat):(Builtin.zeroCells z n).size=n*z.size:=by simp[Builtin.zeroCells]
theorem As0 (A:Option Addr) (n:Nat) (hn:n<=100000) (w:World) :
 Calls Tryz.prog 278 #[.slice A 0 0,.int .i64 (n:Int)] w fun e w'=>∃v,e=.returned v/\(w'.ownsRow w.heap.size 216 2 v 0 []\/∃A,v=.slice A 0 0)/\Below w.heap.size w w':=by
 go_enter Tryz.func278,Tryz.ntmps278
 by_cases h0:n=0
 ·subst h0
  go_wp2_with fail
  go_ret
  exact⟨_,rfl,.inr ⟨A,rfl⟩,Below.refl _ _⟩
 have h1:(0:Int)<(n:Int):=by omega
 obtain⟨i,hi,hzz⟩:=Option.map_eq_some_iff.1 A25
 simp only[Prod.mk.injEq] at hzz
 obtain⟨hz,hs,hb⟩:=hzz
 have hrun:=Aad A (P:=Tryz.prog) w 62 3 62 216 i (.agg #[.int .i64 0,.int .i64 0]) .i64 .i64 Tryz.underlying62 Tryz.underlying3 hi hz n (by omega) (by omega) (by omega) (by rw[hb];omega)
 have hge:=grownCap_ge w n 0 216
 have hle:=grownCap_le_maxLen w n 0 216 (by unfold maxLen;omega)
 generalize grownCap w n 0 216=cap2 at hrun hge hle
 generalize hZ:(Builtin.zeroCells (Value.agg #[.int .i64 0,.int .i64 0]).cells n++Builtin.zeroCells (Value.agg #[.int .i64 0,.int .i64 0]).cells (cap2 - n))=Z at hrun
 have hZs:Hid (Z.size=cap2*2):=Lib.hid (by
  rw[<- hZ,Array.size_append,Afk,Afk]
  have:(Value.agg #[.int .i64 0,.int .i64 0]).cells.size=2:=rfl
  rw[this];omega)
 have hleH:=Lib.hid hle
 have hrunH:=Lib.hid hrun
 clear hZ hle hrun
 go_wp2_with (at_builtin;refine Lib.wpList_append_run _ rfl _ _ _ _ rfl _ _ rfl rfl _ _ hrunH.out ?_)
 go_ret
 exact⟨_,rfl,.inl ⟨rfl,.inr ⟨w.heap.size,cap2,Z,rfl,Aj _,heap_alloc_new _ _,Ae _,hleH.out,hZs.out,rfl⟩⟩,An2 ((Below.refl _ _).alloc (Aj _) _) 1⟩
theorem Afd (n:Nat) (hn:n<=100000):PP 278 [] [.nil 0,.li (n:Int)] [.row 216 2 true false []] (.own 0 0):=by
 refine Asa ⟨_,Tryz.func278,rfl,rfl⟩ [.nil 0,.li (n:Int)] 216 2 (by decide) fun C us w hsz hus=>?_
 obtain⟨A,h0⟩:=Ea.nil_eq (hus 0)
 have h1:=Ea.lit_eq (hus 1)
 have e:us = #[.slice A 0 0,.int .i64 (n:Int)]:=by
  obtain⟨l⟩:=us
  match l,hsz with
  | [a,b],_ =>
   simp at h0 h1
   rw[h0,h1]
 rw[e]
 exact As0 A n hn w
end
abbrev Aij (l:List (List Hl)):List (List T):=l.map fun x=>[.sl 2 (Ze x)]
theorem Ao1 (n:Int) (h0:0<=n) (hn:n<=100000):PP 278 [] [.nil 0,.li n] [.row 216 2 true false []] (.own 0 0):=by
 have:=Afd n.toNat (by omega)
 rwa[Int.toNat_of_nonneg h0] at this
section
variable (ls:List (List Hl)) (hl:ls.length<=10) (hs:∀x∈ls,x.length<=1000)
include hl hs
theorem Mi:∃d:List Hl,PP 261 [] [.imm false 1 (Aij ls)] [.row 216 2 false false (Ze d)] (.own 0 d.length)/\(d.length=(ls.map List.length).sum):=by
 refine Nr (D:=List Hl) (F:=fun d=>.own 0 d.length) (S:=fun d=>[.row 216 2 false false (Ze d)]) (Q:=fun d=>d.length=(ls.map List.length).sum) Tryz.func261 rfl rfl rfl (by simp[Tryz.ntmps261]) ?_
 refine Bq ?_
 refine Bq<|.seq ?_
 refine Bq<|.block ?_
 refine Bs ls.length (fun i1 (y1:Int)=>⟨[(0,.imm false 1 (Aij ls)),(3,.li y1),(9,.imm false 1 (Aij ls)),(10,.li ls.length),(11,.li i1)],[]⟩) (fun i1 y1=>0<=y1/\y1<=1000*i1) (0) (wk Dy []) (by omega) fun i1 y1 hi1 hy1=>?_
 refine Bq<|.seq ?_
 refine Br ?_ ?_<;>intro h12
 ·refine Bp<|.seq<|.block ?_
  obtain⟨e1,H1⟩:=gx ls i1
  refine Bu H1 ?_
  have hb:=hs e1 (Ac H1)
  have hw2:=Dw (y1+e1.length:Int)
  refine Bu (Fe H1 hw2) ?_
  refine Bu (Fe H1 hw2) ?_
  refine Ck ?_ ?_<;>intro h20<;>simp[go_sem] at h20
  ·exfalso;omega
  refine Bp<|.H1 (Fe H1 hw2) ?_
  refine⟨by omega,((y1+e1.length)),?_,wk (I1 (Dw ((i1:Int)+1)) H1 hw2) []⟩
  omega
 refine Bt<|.S (fun K kk=>by simp[go_sem];refine .by (Ao1 y1 hy1.1 (by omega)) (Qn.refl _) (by simp) ?_;simp[go_sem];exact kk)<|.seq ?_
 refine Bq<|.block ?_
 refine Bs ls.length (fun i2 (y2:(List Hl))=>⟨[(6,.own 0 y2.length),(25,.imm false 1 (Aij ls)),(26,.li ls.length),(27,.li i2)],[.row 216 2 false false (Ze y2)]⟩) (fun i2 y2=>y2.length=((ls.take i2).map List.length).sum/\y2.length<=1000*i2) ([]) (wk Dy [0]) (by simp) fun i2 y2 hi2 hy2=>?_
 refine Bq<|.seq ?_
 refine Br ?_ ?_<;>intro h28
 ·refine Bp<|.seq<|.block ?_
  obtain⟨e3,H3⟩:=gx ls i2
  refine Bu H3 ?_
  have hb:=hs e3 (Ac H3)
  refine B0 H3 ?_
  refine B0 H3 ?_
  exact⟨by omega,(y2++e3),⟨by rw[List.take_add_one,H3];simp[hy2.1],by simp;omega⟩,wk (Fe (Dw ((i2:Int)+1)) H3) [0]⟩
 refine Bt<|.R ?_
 exact .ret ⟨y2,rW Dy [0],(by dsimp only;rw[hy2.1,Bf (by omega)])⟩
def I0:List Hl:=(Mi ls hl hs).choose
theorem Zb:PP 261 [] [.imm false 1 (Aij ls)] [.row 216 2 false false (Ze (I0 ls hl hs))] (.own 0 (I0 ls hl hs).length):=(Mi ls hl hs).choose_spec.1
theorem Abx:(I0 ls hl hs).length=(ls.map List.length).sum:=(Mi ls hl hs).choose_spec.2
end
theorem E4.fresh {P:Program} {f:FuncId} {σa:List Ob} {args:List AV} {ty k:Nat} {fr fz:Bool} {es:List (List T)} {res:AV} (h:E4 P f σa args [.row ty k fr fz es] res) (hp:es.all (fun e=>e.all T.plain)=true):E4 P f σa args [.row ty k true fz es] res :=
 ⟨h.1,fun E β us hn ho hβ r=>(h.2 E β us hn ho hβ r).mono fun e w' ⟨v,β',he,r'⟩=>⟨v,β',he,(r'.flag (id:=0) rfl (fun _=>.inr hp) (fun h=>h)).1⟩⟩
theorem Za (ls:List (List Hl)) (hl:ls.length<=10) (hs:∀x∈ls,x.length<=1000):PP 261 [] [.imm false 1 (Aij ls)] [] (.imm true 2 (Ze (I0 ls hl hs))):=by
 have h:=(Zb ls hl hs).fresh (by simp[T.plain,Hl.t])
 refine E4.froz (es:=Ze (I0 ls hl hs)) (fz:=false) (ty:=216) ?_
 simpa using h
theorem At8 {l:List Hl} {p:Nat} (hl:l.length<=1000):∀x∈[l.take p,l.drop (p+1)],x.length<=1000:=by
 intro x hx
 simp only[List.mem_cons,A8,or_false] at hx
 rcases hx with rfl | rfl
 ·rw[A5];omega
 rw[Bc];omega
theorem Aa5 (l:List Hl) (id:Int) (hl:l.length<=1000):Ct 237 [.mVeh l,.li id] (fun d:List Hl×Int=>.tup [.mVeh d.1,.li d.2]) (fun d=>d.1.length<=l.length/\0<=d.2/\d.2<=99):=by
 refine Ev Tryz.func237 ?_
 have hlM:l.length<=1000000:=by omega
 have hq:=Ad6 l id hlM
 have hv12:=Adi l id hlM
 obtain⟨p,hp⟩:∃p:Nat,L9 l id hlM=p:=⟨_,(Int.toNat_of_nonneg hq.1).symm⟩
 rw[hp] at hv12 hq
 refine Bq<|.seq ?_
 refine B3 (fun K kk=>by simp[go_sem];refine .l (Adj l hlM) ?_;simp[go_sem];exact kk) ?_
 refine Br ?_ ?_<;>intro h9
 ·refine Bq ?_
  refine Bz (Fl ?_);simp[go_sem]
  exact⟨([],1),by rfl,Ae _,by decide,by decide⟩
 refine Bp<|.S (fun K kk=>by simp[go_sem];refine .l (hv12) ?_;simp[go_sem];exact kk)<|.seq ?_
 by_cases hc4:p<l.length
 ·obtain⟨e1,H1⟩:=gx l ((p:Int).toNat)
  refine B3 (fun K kk=>by simp[go_sem,hc4,H1];repeat first | exact kk | refine aK ?_) ?_
  refine Br ?_ ?_<;>intro h25
  ·refine B3 (fun K kk=>by simp[go_sem,hc4,H1];exact kk) ?_
   refine Bz (Fl ?_);simp[go_sem,hc4,H1]
   exact⟨([],12),by rfl,Ae _,by decide,by decide⟩
  refine Bp ?_
  have hw2:=Dw ((p:Int)+1:Int)
  refine Cw (fun K kk=>by simp[go_sem,hc4,H1,hw2];(repeat refine aK ?_);refine .lo (Za [l.take p,l.drop (p+1)] (by simp) (At8 hl)) (by simp[AV.low,Kf,List.map_take,List.map_drop]) (by simp[AV.cln,Ff]) ?_;simp[go_sem,hc4,H1,hw2];exact kk) ?_
  refine Bz (Fl ?_);simp[go_sem,hc4,H1,hw2]
  exact⟨((I0 [l.take p,l.drop (p+1)] (by simp) (At8 hl)),0),by rfl,by dsimp only;rw[Abx];simp only[List.map_cons,List.map_nil,List.sum_cons,List.sum_nil,A5,Bc];omega,by simp,by simp⟩
 have hpe:(p:Int)=(l.length:Int):=by omega
 refine B3 (fun K kk=>by simp[go_sem,hc4,hpe];repeat first | exact kk | refine aK ?_) ?_
 refine Ck ?_ ?_<;>intro h25<;>simp[go_sem] at h25
 refine B3 (fun K kk=>by simp[go_sem,hc4,hpe];exact kk) ?_
 refine Bz (Fl ?_);simp[go_sem,hc4,hpe]
 exact⟨([],12),by rfl,Ae _,by decide,by decide⟩
theorem Afh {l:List F9} {s:Int} (h:Iu l s=true):0<=s/\s<l.length:=by
 unfold Iu at h
 simp only[Ah,decide_eq_true_eq] at h
 cases hl:l[s.toNat]? with
 | none=>rw[hl] at h;exact Bool.noConfusion h.2
 | some t=>have:=(Ab.1 hl).1;omega
theorem Ao8:Qb ⟨0,⟨[],0,0,[],0,0,0,0⟩,[],[],⟨0,0,0⟩⟩:=by constructor<;>simp
def Hh (m:Dz):Prop:=m.tok.length<=2000/\m.args.length<=2000/\m.data.length<=2000
theorem Az9 {m:Dz} {h:1<=m.args.length} {h2:m.args.length<=1000000}:Hh (Gq m h h2):=by
 have:=W5 m h h2
 unfold Hh
 rw[this.2.1,this.2.2.1,this.2.2.2.1]
 simp
def Ayo (q m:Dz):Prop:=(m.kind=14/\m.tok=[]/\m.data=[]/\∃v,q.args[0]? = some v/\m.args=[q.kind,v])\/(q.kind=2/\m.kind=16/\m.tok=[]/\∃v,m.args=[v]/\NB v/\m.data.length=10)
def Ayp (a b:Ji) (sec:List Int) (q m:Dz):Prop:=b=a/\Ayo q m/\(By sec->By m.data)
theorem A0a {a:Ji} {sec:List Int} {m:Dz} {h:1<=m.args.length} {h2:m.args.length<=1000000}:Ayp a a sec m (Gq m h h2):=by
 have:=W5 m h h2
 exact⟨rfl,.inl ⟨this.1,this.2.1,this.2.2.1,this.2.2.2.2⟩,fun _=>by rw[this.2.2.1];exact .nil⟩
section
variable (r:Jw) (m:Dz) (slot:Int) (now:Int) (sec:List Int) (hb:Qb r) (hv9:r.vehs.length<=8) (h1:m.tok.length<=2000) (h2:m.args.length<=2000) (h3:m.data.length<=2000) (a2:m.kind=2->3<=m.args.length) (a1:m.kind=3\/m.kind=4\/m.kind=5->1<=m.args.length) (a4:m.kind=4->2<=m.args.length) (hs:sec.length<=1000)
include slot now hb hv9 h1 h2 h3 a2 a1 a4 hs
theorem Sj:Ct 210 [r.g,m.g,.li slot,.li now,.mY sec] (fun d:Jw×Dz×Bool×Int=>.tup [d.1.g,d.2.1.g,.lb d.2.2.1,.li d.2.2.2]) (fun d=>Qb d.1/\d.1.vehs.length<=8/\(d.2.2.2=0->d.1.num=r.num/\d.1.ag=r.ag/\Ayp r.bk d.1.bk sec m d.2.1)/\Hh d.2.1/\0<=d.2.2.2/\d.2.2.2<=99):=by
 refine Ev Tryz.func210 ?_
 have h2M:m.args.length<=1000000:=by omega
 have hv:r.vehs.length<=1000:=by omega
 refine Bq<|.seq ?_
 refine B4 (by rfl) fun K1 hK1=>?_
 simp[go_sem]
 obtain⟨Y1,cY1,qY1⟩:=Eo (Abc r hb)
 refine .l cY1 ?_
 simp[go_sem]
 refine Qc ?_
 simp[go_sem]
 obtain⟨Y2,cY2,qY2⟩:=Eo (L4 m (by omega) (by omega) (by omega))
 refine .lo cY2 rfl (by simp[AV.cln,Ff]) ?_
 simp[go_sem]
 refine Qc ?_
 simp[go_sem]
 refine .lo (Adn r.toks slot) rfl (by simp[AV.cln,Ff]) ?_
 simp[go_sem]
 refine hK1 _ ?_;clear hK1
 refine Br ?_ ?_<;>intro h31
 ·refine Bq ?_
  exact .ret (Eu Dy (⟨0,⟨[],0,0,[],0,0,0,0⟩,[],[],⟨0,0,0⟩⟩,⟨0,[],[],[]⟩,false,1) ⟨Ao8,Ae _,fun h=>absurd h (by decide),by simp[Hh],by decide⟩)
 have hu:=Afh (l:=r.toks) (s:=slot) (by exact h31.2)
 refine Bp<|.seq<|.R ?_
 refine Br ?_ ?_<;>intro h41
 ·refine Bq ?_
  exact .ret (Eu Dy (⟨0,⟨[],0,0,[],0,0,0,0⟩,[],[],⟨0,0,0⟩⟩,⟨0,[],[],[]⟩,false,1) ⟨Ao8,Ae _,fun h=>absurd h (by decide),by simp[Hh],by decide⟩)
 refine Bp<|.L Dy (Oo r hb) ?_
 refine Bq ?_
 refine Bq<|.seq ?_
 refine Bq<|.block ?_
 refine Bq ?_
 refine Br ?_ ?_<;>intro h49
 ·obtain⟨Y3,cY3,qY3⟩:=Xz r m.args slot now sec hb (a2 h49) hs
  refine C6 Dy [4] cY3<|.seq ?_
  refine Bq ?_
  refine Br ?_ ?_<;>intro h104
  ·refine Bq ?_
   exact .ret (Eu Dy (⟨0,⟨[],0,0,[],0,0,0,0⟩,[],[],⟨0,0,0⟩⟩,⟨0,[],[],[]⟩,false,Y3.2.1) ⟨Ao8,Ae _,fun h=>absurd h (by exact h104),by simp[Hh],qY3.2.2.2.2.2.2.2.2.2⟩)
  refine Bp<|.D ?_
  exact .ret (Eu Dy (Y3.2.2,Y3.1,((m.kind:Int) == 2),0) ⟨qY3.1,by dsimp only;rw[qY3.2.2.2.1];exact hv9,fun _=>⟨qY3.2.1,qY3.2.2.1,qY3.2.2.2.2.1,(by have hr:=qY3.2.2.2.2.2.2.2.2.1 (by exact h104);exact .inr ⟨h49,hr.1,qY3.2.2.2.2.2.1,hr.2.2⟩),(qY3.2.2.2.2.2.2.2.2.1 (by exact h104)).2.1⟩,(by have hd:=qY3;refine⟨by dsimp only;rw[hd.2.2.2.2.2.1];exact Ae _,by dsimp only;omega,by dsimp only;omega⟩),by simp⟩)
 refine Bq ?_
 refine Br ?_ ?_<;>intro h60
 ·have ha:=a1 (.inl h60)
  obtain⟨e1,H1⟩:=gx m.args 0
  obtain⟨Y4,cY4,qY4⟩:=Eo (Aex r.toks e1 hb.toks hb.tsec)
  refine Dd H1 cY4 ?_
  refine Dr H1 (Q6 m ha h2M)<|.seq ?_
  refine Bu H1 ?_
  refine Br ?_ ?_<;>intro h104
  ·refine Bu H1 ?_
   exact .ret (Eu H1 (⟨0,⟨[],0,0,[],0,0,0,0⟩,[],[],⟨0,0,0⟩⟩,⟨0,[],[],[]⟩,false,Y4.2) ⟨Ao8,Ae _,fun h=>absurd h (by exact h104),by simp[Hh],qY4.2.2⟩)
  refine Bp<|.G H1 ?_
  exact .ret (Eu H1 (⟨r.num,r.ag,Y4.1,r.vehs,r.bk⟩,(Gq m ha h2M),((m.kind:Int) == 2),0) ⟨⟨hb.sec,hb.lims,Ak qY4.1 hb.toks,qY4.2.1,hb.vehs⟩,hv9,fun _=>⟨rfl,rfl,A0a (h:=ha) (h2:=h2M)⟩,Az9 (h:=ha) (h2:=h2M),by simp⟩)
 refine Bq ?_
 refine Br ?_ ?_<;>intro h75
 ·have ha:=a1 (.inr (.inl h75))
  obtain⟨Y5,cY5,qY5⟩:=Eo (Xy r m.args slot hb (a4 h75) h2M hu.1 hu.2)
  refine B8 Dy cY5 ?_
  refine Dr Dy (Q6 m ha h2M)<|.seq ?_
  refine Bq ?_
  refine Br ?_ ?_<;>intro h104
  ·refine Bq ?_
   exact .ret (Eu Dy (⟨0,⟨[],0,0,[],0,0,0,0⟩,[],[],⟨0,0,0⟩⟩,⟨0,[],[],[]⟩,false,Y5.2) ⟨Ao8,Ae _,fun h=>absurd h (by exact h104),by simp[Hh],qY5.2⟩)
  refine Bp<|.D ?_
  exact .ret (Eu Dy (⟨r.num,r.ag,r.toks,Y5.1,r.bk⟩,(Gq m ha h2M),((m.kind:Int) == 2),0) ⟨⟨hb.sec,hb.lims,hb.toks,hb.tsec,by have:=qY5;dsimp only;omega⟩,qY5.1,fun _=>⟨rfl,rfl,A0a (h:=ha) (h2:=h2M)⟩,Az9 (h:=ha) (h2:=h2M),by simp⟩)
 refine Bq ?_
 refine Br ?_ ?_<;>intro h88
 ·have ha:=a1 (.inr (.inr h88))
  obtain⟨e2,H2⟩:=gx m.args 0
  obtain⟨Y6,cY6,qY6⟩:=Eo (Aa5 r.vehs e2 hv)
  refine Dd H2 cY6 ?_
  refine Dr H2 (Q6 m ha h2M)<|.seq ?_
  refine Bu H2 ?_
  refine Br ?_ ?_<;>intro h104
  ·refine Bu H2 ?_
   exact .ret (Eu H2 (⟨0,⟨[],0,0,[],0,0,0,0⟩,[],[],⟨0,0,0⟩⟩,⟨0,[],[],[]⟩,false,Y6.2) ⟨Ao8,Ae _,fun h=>absurd h (by exact h104),by simp[Hh],qY6.2⟩)
  refine Bp<|.G H2 ?_
  exact .ret (Eu H2 (⟨r.num,r.ag,r.toks,Y6.1,r.bk⟩,(Gq m ha h2M),((m.kind:Int) == 2),0) ⟨⟨hb.sec,hb.lims,hb.toks,hb.tsec,by have:=qY6;dsimp only;omega⟩,Ak qY6.1 hv9,fun _=>⟨rfl,rfl,A0a (h:=ha) (h2:=h2M)⟩,Az9 (h:=ha) (h2:=h2M),by simp⟩)
 refine Bp<|.seq<|.R ?_
 refine Ck ?_ ?_<;>intro h104<;>simp[go_sem] at h104
 refine Bq ?_
 exact .ret (Eu Dy (⟨0,⟨[],0,0,[],0,0,0,0⟩,[],[],⟨0,0,0⟩⟩,⟨0,[],[],[]⟩,false,1) ⟨Ao8,Ae _,fun h=>absurd h (by first | exact h104 | decide),by simp[Hh],by decide⟩)
def Eh:Jw×Dz×Bool×Int:=(Eo (Sj r m slot now sec hb hv9 h1 h2 h3 a2 a1 a4 hs)).choose
theorem Yc:PP 210 [] [r.g,m.g,.li slot,.li now,.mY sec] [] (.tup [.agg ((Eh r m slot now sec hb hv9 h1 h2 h3 a2 a1 a4 hs).1.a false),.agg ((Eh r m slot now sec hb hv9 h1 h2 h3 a2 a1 a4 hs).2.1.a false),.lit (.bool (Eh r m slot now sec hb hv9 h1 h2 h3 a2 a1 a4 hs).2.2.1),.lit (.int .i64 (Eh r m slot now sec hb hv9 h1 h2 h3 a2 a1 a4 hs).2.2.2)]):=(Eo (Sj r m slot now sec hb hv9 h1 h2 h3 a2 a1 a4 hs)).choose_spec.1
theorem Hm:Qb (Eh r m slot now sec hb hv9 h1 h2 h3 a2 a1 a4 hs).1/\(Eh r m slot now sec hb hv9 h1 h2 h3 a2 a1 a4 hs).1.vehs.length<=8/\((Eh r m slot now sec hb hv9 h1 h2 h3 a2 a1 a4 hs).2.2.2=0->(Eh r m slot now sec hb hv9 h1 h2 h3 a2 a1 a4 hs).1.num=r.num/\(Eh r m slot now sec hb hv9 h1 h2 h3 a2 a1 a4 hs).1.ag=r.ag/\Ayp r.bk (Eh r m slot now sec hb hv9 h1 h2 h3 a2 a1 a4 hs).1.bk sec m (Eh r m slot now sec hb hv9 h1 h2 h3 a2 a1 a4 hs).2.1)/\Hh (Eh r m slot now sec hb hv9 h1 h2 h3 a2 a1 a4 hs).2.1/\0<=(Eh r m slot now sec hb hv9 h1 h2 h3 a2 a1 a4 hs).2.2.2/\(Eh r m slot now sec hb hv9 h1 h2 h3 a2 a1 a4 hs).2.2.2<=99:=(Eo (Sj r m slot now sec hb hv9 h1 h2 h3 a2 a1 a4 hs)).choose_spec.2
end
theorem Hh.v {m:Dz} (h:Hh m):m.tok.length<=10000/\m.args.length<=10000/\m.data.length<=10000:=⟨Ak h.1 (by decide),Ak h.2.1 (by decide),Ak h.2.2 (by decide)⟩
open Classical in
noncomputable def N7 (m:Dz):Bool:=if h:Hh m then !Ma m h.v.1 h.v.2.1 h.v.2.2 else true
theorem Adr (m:Dz) (h:Hh m):PP 133 [] [m.g] [] (.lb (N7 m)):=by
 have hb:N7 m = !Ma m h.v.1 h.v.2.1 h.v.2.2:=by unfold N7;rw[dif_pos h]
 rw[hb]
 refine El Tryz.func133 ?_
 refine Bw ?_
 refine Di Dy (Ads m h.v.1 h.v.2.1 h.v.2.2) ?_
 exact .ret (rL Dy)
theorem Sl (l:List Dz) (hl:l.length<=1000000) (hm:∀t∈l,Hh t) :
 ∃R:List (List T),PP 100 [.row 56 4 false false (Rb l)] [.own 0 l.length] [.row 56 4 false true R] (.mMsg (l.filter fun t=>!N7 t))/\True:=by
 obtain⟨R,hR,_⟩:=Wj l 133 [] N7 hl ⟨fun _=>rfl,fun _=>rfl,fun _=>trivial,rfl,rfl⟩ fun t ht=>Adr t (hm t ht)
 refine Aer (D:=List (List T)) (F:=fun d=>.mMsg (l.filter fun t=>!N7 t)) (S:=fun d=>[.row 56 4 false true d]) (Q:=fun d=>True) Tryz.func100 rfl rfl rfl (by simp[Tryz.ntmps100]) ?_
 refine Bq ?_
 refine Da Dy [0] hR ?_
 exact .ret ⟨R,rW Dy [0],trivial⟩
end Go.Proofs.YtkkimgjinbaemaaGreat
