/- The walk. -/
import Derived.Test.YtkkimgjinbaemaaGreatKaf
namespace Go.Proofs.YtkkimgjinbaemaaGreat
open Go.RowKit
set_option linter.unusedVariables false
set_option linter.unusedSimpArgs false
set_option maxRecDepth 100000
set_option maxHeartbeats 4000000
section
variable {P : Program} {n m : Nat} {st : St} {K : Exit -> St -> Prop}
theorem Aa3 (d : Nat) {ty el : TypeId} {A : Option Addr} {nn c : Nat} {w : World} (hu : P.underlying ty = some (.slice el)) : (Op.equalIn (d + 1) ty (.slice A nn c) (.slice none 0 0)).run P w = .ok A.isNone w := by
 cases A <;> simp [Op.equalIn, run_underlying hu]
theorem VW.isnil {id d1 d2 t0 : Nat} {ty : TypeId} {p1 p2 : String} {a1 a2 : Array Edge} {ty2 : TypeId} {y : Code} {fr : Bool} {k : Nat} {es : List (List T)} (ht : El st.sl t0 = .imm fr k es) (h1 : d1 < n) (h2 : d2 < n)
 (hs : G8 P ty = true) (hn : es = [] -> VW P n m y ((st.put (some d1) (.imm fr k es)).put (some d2) (.lit (.bool true))) K) (hy : VW P n m y ((st.put (some d1) (.imm fr k es)).put (some d2) (.lit (.bool false))) K) :
  VW P n m (.seq (.region id #[⟨some d1, .move (.tmp t0), ty, p1, a1, none⟩, ⟨some d2, .binOp .eql ty (.tmp d1) (.const (.slice none 0 0)) ty, ty2, p2, a2, none⟩] false) y) st K := by
 refine .seq fun E F hE hF β a w r => ?_
 refine wpIn_region_lit (l := [⟨some d1, .move (.tmp t0), ty, p1, a1, none⟩, ⟨some d2, .binOp .eql ty (.tmp d1) (.const (.slice none 0 0)) ty, ty2, p2, a2, none⟩]) ?_
 have hr := r.sl t0
 rw [ht] at hr
 have r1 := r.put hr (some d1) (fun x hx => by injection hx with hx; subst hx; rw [hE.1]; exact h1)
 have hu := Fc hs
 have hsz : d1 < a.tmps.size := by rw [r.sz, hE.1]; exact h1
 have hcase : ∃ A nn c, a.tmps.getD t0 undef = .slice A nn c /\ (A = none -> es = []) := by
  generalize a.tmps.getD t0 undef = u at hr
  cases hr with
  | imm fr k es u h => cases h with
   | nil k A c => exact ⟨A, 0, c, rfl, fun _ => rfl⟩
   | sl k es b off c cur ty fz us => exact ⟨_, _, c, rfl, fun e => by cases e⟩
 obtain ⟨A, nn, c, hu0, hA⟩ := hcase
 refine wpListIn_plain rfl fun K1 hK1 => Pk hF (by intro c h; cases h) ?_
 have e1 : (execOp a.eval ⟨some d1, .move (.tmp t0), ty, p1, a1, none⟩).run P w = .ok (.value (a.tmps.getD t0 undef)) w := rfl
 unfold Oper.wp
 rw [e1]
 refine hK1 _ _ ?_
 refine wpListIn_plain rfl fun K2 hK2 => Pk hF (by intro c h; cases h) ?_
 have e2 : (execOp (a.put (some d1) (a.tmps.getD t0 undef)).eval ⟨some d2, .binOp .eql ty (.tmp d1) (.const (.slice none 0 0)) ty, ty2, p2, a2, none⟩).run P w = .ok (.value (.bool A.isNone)) w := by
  have e3 : (a.put (some d1) (a.tmps.getD t0 undef)).eval (.tmp d1) = .slice A nn c := by
   simp only [Act.eval, Act.put]
   rw [<- hu0, Av, Array.getElem?_setIfInBounds_self_of_lt hsz]; rfl
  have e6 : (a.put (some d1) (a.tmps.getD t0 undef)).eval (.const (.slice none 0 0)) = .slice none 0 0 := rfl
  simp only [execOp, e3, e6]
  have e4 : (eqGuard .eql ty (.tmp d1) (.const (.slice none 0 0)) (.slice A nn c) (.slice none 0 0)).run P w = .ok () w := rfl
  have e5 : (binOp .eql ty (.slice A nn c) (.slice none 0 0)).run P w = .ok (.bool A.isNone) w := by
   have : binOp .eql ty (.slice A nn c) (.slice none 0 0) = (do pure (.bool (<- Op.equal ty (.slice A nn c) (.slice none 0 0)))) := rfl
   have e7 : (Op.equal ty (.slice A nn c) (.slice none 0 0)).run P w = .ok A.isNone w := Aa3 9999 hu
   rw [this]
   simp only [Sem.run_bind, e7, Result.andThen_ok, Sem.run_pure]
  simp only [Sem.run_bind, e4, e5, Result.andThen_ok, Sem.run_pure]
 unfold Oper.wp
 rw [e2]
 refine hK2 _ _ ?_
 have r2 := fun b : Bool => r1.put (v := .lit (.bool b)) (u := .bool b) (.lit _) (some d2) (fun x hx => by injection hx with hx; subst hx; rw [hE.1]; exact h2)
 cases hb : A with
 | none => exact ⟨E, _, β, G4.refl E, hn (hA hb), r2 true⟩
 | some x => exact ⟨E, _, β, G4.refl E, hy, r2 false⟩
abbrev Cn := @VW.isnil
end
def An4 : Ob -> Bool
 | .row _ _ _ fz _ => fz
 | _ => false
def St.fresh (st : St) (id : Nat) : St := st.set id (.row (Xq (st.o id)) (Q8 (st.o id)) true (An4 (st.o id)) (Kj (st.o id)))
section
variable {P : Program} {n m : Nat} {st : St} {K : Exit -> St -> Prop} {c : Code}
theorem VW.fresh (id : Nat) (h : Fp (st.o id) = true) (hp : (Kj (st.o id)).all (fun e => e.all T.plain) = true) (hv : VW P n m c (st.fresh id) K) : VW P n m c st K := fun E F hE hF β a w r => by
 refine hv E F hE hF β a w ?_
 unfold St.fresh
 cases hq : st.o id with
 | row ty k fr fz es =>
  rw [hq] at hp
  exact (r.flag hq (fun _ => .inr hp) fun e => e).1
 | _ => rw [hq] at h; exact absurd h (by simp [Fp])
abbrev Cq := @VW.fresh
theorem VX.fresh (id : Nat) (h : Fp (st.o id) = true) (hp : (Kj (st.o id)).all (fun e => e.all T.plain) = true) (hv : VX P n m c (st.fresh id) K) : VX P n m c st K := by
 obtain ⟨e, s, h1, h2⟩ := hv
 exact ⟨e, s, .fresh id h hp h1, h2⟩
end
theorem Ar2 {sl : List (Nat × AV)} {ob : List Ob} {id : Nat} : (St.mk sl ob).fresh id = St.mk sl (Nw ob id (.row (Xq (ob.getD id .gone)) (Q8 (ob.getD id .gone)) true (An4 (ob.getD id .gone)) (Kj (ob.getD id .gone)))) := rfl
theorem Axq {P : Program} {st : St} {rs : List ResultVar} {res : AV} {o : Ob} (hc : Tl P st rs) (h : Le ((J0 P st rs).ren fun id => idx id [0] 0) res) (ho : Tm ((st.o 0).ren fun id => idx id [0] 0) o) : P0 P 0 rs [o] res .ret st :=
 ⟨.inr rfl, hc, [0], ⟨.cons h .nil, fun j hj => by
  have : j = 0 := by simpa using hj
  subst this
  exact ho, rfl, by simp⟩, fun id hid => by omega⟩
theorem VW.z1 {P : Program} {n m : Nat} {st : St} {rs : List ResultVar} {res : AV} {o : Ob} {K : Exit -> St -> Prop} (ho : Tm ((st.o 0).ren fun id => idx id [0] 0) o) (hk : P0 P 0 rs [o] res .ret st -> K .ret st := by exact id) (hc : Tl P st rs := by simp [go_sem]) (h : Le ((J0 P st rs).ren fun id => idx id [0] 0) res := by simp [go_sem]) : VW P n m .ret st K := .ret (hk (Axq hc h ho))
abbrev Cp := @VW.z1
theorem Aur {sl : List (Nat × AV)} {ob : List Ob} {d : Tmp} {v : AV} : (St.mk sl ob).put (some d) v = ⟨(d, v) :: sl, ob⟩ := rfl
theorem Auq {sl : List (Nat × AV)} {ob : List Ob} {i : Nat} {x : Ob} : (St.mk sl ob).set i x = ⟨sl, Nw ob i x⟩ := rfl
theorem Aqr {o : Nat -> Ob} {id n : Nat} : (AV.own id n).melt o = match o id with | .row _ k fr true es => if n = es.length then .imm fr k es else .own id n | _ => .own id n := rfl
theorem Atf {sl : List (Nat × AV)} {ob : List Ob} : (St.mk sl ob).melt = ⟨Z4 (fun i => ob.getD i .gone) sl, Z5 (fun i => ob.getD i .gone) ob⟩ := rfl
theorem Ao4 {sl : List (Nat × AV)} {ob : List Ob} {id : Nat} : (St.mk sl ob).freeze id = (St.mk sl (Nw ob id (.row (Xq (ob.getD id .gone)) (Q8 (ob.getD id .gone)) (Ap9 (ob.getD id .gone)) true (Kj (ob.getD id .gone))))).melt := rfl
attribute [go_sem] Jd AV.pass I6 AV.passC R5 AV.bor AV.shift Nc Ob.shift Kv AV.cln Ez Ob.cln Ob.ren idx Ar2 An4 Aur Auq Atf Ao4 Z4 Z5 Ob.melt Aqr AV.melt Qm Xq Ap9
section
variable {P : Program} {d : Option Tmp} {ty : TypeId} {os : List VO} {st : St} {K : St -> Prop} {KT : Tr -> St -> Prop} {tr : Tr}
def Arl (v : AV) (F : FuncId -> List AV -> Prop) : Prop := match v with
 | .fn f caps => F f caps
 | _ => False
theorem Ark {f : FuncId} {caps : List AV} {F : FuncId -> List AV -> Prop} : Arl (.fn f caps) F = F f caps := rfl
structure U5 (P : Program) (f : FuncId) (args : List AV) (bor : Bool) (Gt : List AV) (d : Option Tmp) (os : List VO) (st : St) (K : St -> Prop) : Prop where
  ex : (∃ σr res, Ei P f [] args σr res /\ (bor = true -> res.cln = true /\ σr.all Ob.cln = true) /\ runs P os (st.after d (res.shift st.ob.length) (Kv st.ob.length 0 σr)) K) \/
    ∃ sel σr res, Wb P f Gt st.o st.ob.length sel σr res /\ runs P os (st.after d (Oy sel st.ob.length σr res).1 (Oy sel st.ob.length σr res).2) K
structure U4 (P : Program) (f : FuncId) (args : List AV) (bor : Bool) (Gt : List AV) (d : Option Tmp) (os : List VO) (st : St) (rd : List Nat) (tr : Tr) (K : Tr -> St -> Prop) : Prop where
  ex : (∃ σr res, Ei P f [] args σr res /\ (bor = true -> res.cln = true /\ σr.all Ob.cln = true) /\ F8 P os (st.after d (res.shift st.ob.length) (Kv st.ob.length 0 σr)) ((rd, (Kv st.ob.length 0 σr).map (·.1)) :: tr) K) \/
    ∃ sel σr res, Wb P f Gt st.o st.ob.length sel σr res /\ F8 P os (st.after d (Oy sel st.ob.length σr res).1 (Oy sel st.ob.length σr res).2) ((rd, (Oy sel st.ob.length σr res).2.map (·.1)) :: tr) K
theorem Ar5 {fo : Operand} {xs : List Operand} {ts : Array TypeId} : Ar6 P d (.call ⟨.value fo, xs.toArray, ts⟩) ty os st K = (((st.raw fo).sb = true /\ (xs.all fun x => (st.raw x).sb) = true) /\
 Arl (st.raw fo).sv fun f caps => I6 st.o (xs.map (fun x => (st.raw x).sv) ++ caps) /\ U5 P f (Jd st.o (xs.map (fun x => (st.raw x).sv) ++ caps)) (R5 (xs.map (fun x => (st.raw x).sv) ++ caps)) (xs.map (fun x => (st.raw x).sv) ++ caps) d os st K) := by
 apply propext
 constructor
 ·rintro ⟨e, ⟨h1, ⟨f, caps, σr, res, h2, h3, h4, h5, rfl⟩ | ⟨f, caps, sel, σr, res, h2, h3, rfl⟩⟩, h6⟩
  ·exact ⟨h1, by rw [h2]; exact ⟨h4, ⟨.inl ⟨σr, res, h3, h5, h6⟩⟩⟩⟩
  exact ⟨h1, by rw [h2]; exact ⟨h3.args, ⟨.inr ⟨sel, σr, res, h3, h6⟩⟩⟩⟩
 rintro ⟨h1, h2⟩
 cases hv : (st.raw fo).sv with
 | fn f caps =>
  rw [hv] at h2
  rcases h2 with ⟨h4, ⟨⟨σr, res, h3, h5, h6⟩ | ⟨sel, σr, res, h3, h6⟩⟩⟩
  ·exact ⟨_, ⟨h1, .inl ⟨f, caps, σr, res, hv, h3, h4, h5, rfl⟩⟩, h6⟩
  exact ⟨_, ⟨h1, .inr ⟨f, caps, sel, σr, res, hv, h3, rfl⟩⟩, h6⟩
 | _ => rw [hv] at h2; exact h2.elim
theorem Ao5 {fo : Operand} {xs : List Operand} {ts : Array TypeId} : Amm P d (.call ⟨.value fo, xs.toArray, ts⟩) ty os st tr KT = (((st.raw fo).sb = true /\ (xs.all fun x => (st.raw x).sb) = true) /\
 Arl (st.raw fo).sv fun f caps => I6 st.o (xs.map (fun x => (st.raw x).sv) ++ caps) /\ U4 P f (Jd st.o (xs.map (fun x => (st.raw x).sv) ++ caps)) (R5 (xs.map (fun x => (st.raw x).sv) ++ caps)) (xs.map (fun x => (st.raw x).sv) ++ caps) d os st (E5 (.call ⟨.value fo, xs.toArray, ts⟩) st) tr KT) := by
 apply propext
 constructor
 ·rintro ⟨e, ⟨h1, ⟨f, caps, σr, res, h2, h3, h4, h5, rfl⟩ | ⟨f, caps, sel, σr, res, h2, h3, rfl⟩⟩, h6⟩
  ·exact ⟨h1, by rw [h2]; exact ⟨h4, ⟨.inl ⟨σr, res, h3, h5, h6⟩⟩⟩⟩
  exact ⟨h1, by rw [h2]; exact ⟨h3.args, ⟨.inr ⟨sel, σr, res, h3, h6⟩⟩⟩⟩
 rintro ⟨h1, h2⟩
 cases hv : (st.raw fo).sv with
 | fn f caps =>
  rw [hv] at h2
  rcases h2 with ⟨h4, ⟨⟨σr, res, h3, h5, h6⟩ | ⟨sel, σr, res, h3, h6⟩⟩⟩
  ·exact ⟨_, ⟨h1, .inl ⟨f, caps, σr, res, hv, h3, h4, h5, rfl⟩⟩, h6⟩
  exact ⟨_, ⟨h1, .inr ⟨f, caps, sel, σr, res, hv, h3, rfl⟩⟩, h6⟩
 | _ => rw [hv] at h2; exact h2.elim
theorem Akq {op : Op} {want : Bool} {v : AV} (hv : Hh v.sv = true /\ (v.sb && (Ew v.sv == want)) = true) (h : ∃ e : AV × List (Nat × Ob), Sx P op ty st st.ob.length e /\ runs P os (st.after d (.gd true e.1) e.2) K) : Wz P d op ty v want os st K := by
 obtain ⟨e, h1, h2⟩ := h
 exact ⟨hv.1, e, fun _ => h1, by rw [hv.2]; exact h2⟩
theorem Yb {op : Op} {want : Bool} {v : AV} (hv : Hh v.sv = true /\ (v.sb && (Ew v.sv == want)) = false) (h : runs P os (st.after d (.gd false .any) []) K) : Wz P d op ty v want os st K :=
 ⟨hv.1, (.any, []), (fun hb => by rw [hv.2] at hb; cases hb), by rw [hv.2]; exact h⟩
theorem U5.by {f : FuncId} {args args' Gt : List AV} {bor : Bool} {σr : List Ob} {res : AV} (hp : Ei P f [] args' σr res) (ha : LeL args args') (hl : bor = true -> res.cln = true /\ σr.all Ob.cln = true) (h : runs P os (st.after d (res.shift st.ob.length) (Kv st.ob.length 0 σr)) K) : U5 P f args bor Gt d os st K := ⟨.inl ⟨σr, res, hp.le ha, hl, h⟩⟩
theorem U4.by {f : FuncId} {args args' Gt : List AV} {bor : Bool} {σr : List Ob} {res : AV} {rd : List Nat} (hp : Ei P f [] args' σr res) (ha : LeL args args') (hl : bor = true -> res.cln = true /\ σr.all Ob.cln = true) (h : F8 P os (st.after d (res.shift st.ob.length) (Kv st.ob.length 0 σr)) ((rd, (Kv st.ob.length 0 σr).map (·.1)) :: tr) KT) : U4 P f args bor Gt d os st rd tr KT := ⟨.inl ⟨σr, res, hp.le ha, hl, h⟩⟩
end
attribute [go_sem] Ar5 Ao5 Ark List.append_nil List.nil_append List.cons_append
theorem Ei.froz {P : Program} {f : FuncId} {args : List AV} {ty k : Nat} {fr fz : Bool} {es : List (List T)} (h : Ei P f [] args [.row ty k fr fz es] (.own 0 es.length)) : Ei P f [] args [] (.imm fr k es) := by
 refine ⟨h.1, fun E β us hn ho hβ r => (h.2 E β us hn ho hβ r).mono ?_⟩
 rintro e w' ⟨v, β', rfl, r1⟩
 have r2 := (r1.freeze (id := 0) (ty := ty) (k := k) (fr := fr) (fz := fz) (es := es) rfl).1.melt
 obtain ⟨β2, r3⟩ := r2.weak (sel := []) (st' := ⟨[(0, .imm fr k es)], []⟩) ⟨.cons (by simp [St.melt, St.set, Nw, St.o, Z4, El, AV.melt, AV.ren]; exact Le.refl _) .nil, fun j hj => by simp at hj, rfl, List.nodup_nil⟩ fun id hid => absurd (by show E.o0 id = _; rw [ho]; simp [St.o]) hid
 exact ⟨v, β2, rfl, r3⟩
inductive OL (o : Nat -> Ob) (ρ : Nat -> Option Nat) : List Nat -> List Ob -> Prop
  | nil : OL o ρ [] []
  | cons {id : Nat} {ids : List Nat} {x : Ob} {xs : List Ob} : Tm ((o id).ren ρ) x -> OL o ρ ids xs -> OL o ρ (id :: ids) (x :: xs)
theorem OL.out {o : Nat -> Ob} {ρ : Nat -> Option Nat} {ids : List Nat} {xs : List Ob} (h : OL o ρ ids xs) : xs.length = ids.length /\ ∀ j, j < ids.length -> Tm ((o (ids.getD j 0)).ren ρ) (xs.getD j .gone) := by
 induction h with
 | nil => exact ⟨rfl, fun j hj => by simp at hj⟩
 | cons h1 _ ih =>
  refine ⟨by simp [ih.1], fun j hj => ?_⟩
  cases j with
  | zero => exact h1
  | succ j => simpa using ih.2 j (by simpa using hj)
theorem Ds {sl sl' : List (Nat × AV)} {ob ob' : List Ob} {sel : List Nat} (hnd : sel.Nodup) (h1 : LeS (fun id => idx id sel 0) sl sl') (h2 : OL (fun i => ob.getD i .gone) (fun id => idx id sel 0) sel ob') : Ae6 ⟨sl, ob⟩ sel ⟨sl', ob'⟩ :=
 ⟨h1, fun j hj => h2.out.2 j hj, h2.out.1, hnd⟩
def WkE (m : Nat) (s s' : St) : Prop := ∃ sel, Ae6 s sel s' /\ ∀ id, id < m -> sel[id]? = some id
theorem Sv {c : AV} : Le c c = True := by simp [Le.refl]
theorem Ao7 {o : Ob} : Tm o o = True := by simp [Tm.refl]
theorem Ar7 {ty k : Nat} {fr fz fr' fz' : Bool} {es : List (List T)} : Tm (.row ty k fr fz es) (.row ty k fr' fz' es) = ((fr' = true -> fr = true) /\ (fz' = false -> fz = false)) := by
 apply propext
 constructor
 ·intro h; cases h with | row h1 h2 => exact ⟨h1, h2⟩
 rintro ⟨h1, h2⟩; exact .row h1 h2
attribute [go_sem] Sv Ao7 Ar7
section
variable {P : Program} {n m : Nat} {st : St} {K : Exit -> St -> Prop} {c : Code}
theorem VW.wkE {s' : St} (h : WkE m st s') (hv : VW P n m c s' K) : VW P n m c st K := by
 obtain ⟨sel, h1, h2⟩ := h
 exact .weak h1 h2 hv
theorem VX.wkE {s' : St} (h : WkE m st s') (hv : VX P n m c s' K) : VX P n m c st K := by
 obtain ⟨sel, h1, h2⟩ := h
 exact .weak h1 h2 hv
abbrev C3 := @VX.wkE
theorem VW.loop_w (I : Nat -> St -> Prop) (h0 : ∃ z, Akp m st (I z)) (round : ∀ z s, I z s -> VW P n m c s (Exit.vthen (fun s' => ∃ z', z' < z /\ Akp m s' (I z')) K)) : VW P n m (.loop c) st K := by
 obtain ⟨z, h0⟩ := h0
 refine .loop (fun z s => Akp m s (I z)) z h0 fun z s ⟨sel, s', h1, h2, h3⟩ => ?_
 exact .weak h1 h2 (round z s' h3)
theorem VW.range (N : Nat) (f : Nat -> St) (h0 : WkE m st (f 0)) (round : ∀ i, i <= N -> VW P n m c (f i) (Exit.vthen (fun s' => i < N /\ WkE m s' (f (i + 1))) K)) : VW P n m (.loop c) st K := by
 obtain ⟨sel, h1, h2⟩ := h0
 refine .loop_w (fun z s => ∃ i, i + z = N /\ s = f i) ⟨N, sel, f 0, h1, h2, 0, by omega, rfl⟩ ?_
 rintro z s ⟨i, hi, rfl⟩
 refine (round i (by omega)).mono fun e s => ?_
 cases e with
 | normal =>
  rintro ⟨h3, sel, h4, h5⟩
  exact ⟨z - 1, by omega, sel, _, h4, h5, i + 1, by omega, rfl⟩
 | _ => exact fun h => h
abbrev Cc := @VW.range
theorem VX.range (N : Nat) (f : Nat -> St) (h0 : WkE m st (f 0)) (round : ∀ i, i <= N -> VX P n m c (f i) (Exit.vthen (fun s' => i < N /\ WkE m s' (f (i + 1))) K)) : VX P n m (.loop c) st K := by
 obtain ⟨sel, h1, h2⟩ := h0
 refine .loop_w (fun z s => ∃ i, i + z = N /\ s = f i) ⟨N, sel, f 0, h1, h2, 0, by omega, rfl⟩ ?_
 rintro z s ⟨i, hi, rfl⟩
 refine (round i (by omega)).mono fun e s => ?_
 cases e with
 | normal =>
  rintro ⟨h3, sel, h4, h5⟩
  exact ⟨z - 1, by omega, sel, _, h4, h5, i + 1, by omega, rfl⟩
 | _ => exact fun h => h
theorem VW.region1 {id : Nat} {l : List Oper} (hd : Ff n l = true) (h : ∀ K1 : St -> Prop, (∀ s, K .normal s -> K1 s) -> runs P (Fy l) st K1) : VW P n m (.region id l.toArray false) st K := .region hd (h _ fun _ h => h)
end
mutual
def AV.low : AV -> AV
 | .imm _ k es => .imm false k es
 | .nil k => .imm false k []
 | .iptr _ cs off => .iptr false cs off
 | .agg cs => .agg (Jn cs)
 | .tup cs => .tup (Jn cs)
 | .fn f cs => .fn f (Jn cs)
 | .any => .any
 | .lit v => .lit v
 | .own id n => .own id n
 | .sub id n lo m => .sub id n lo m
 | .ptr id off => .ptr id off
 | .rptr id n i off => .rptr id n i off
 | .bsl id n => .bsl id n
 | .gd t v => .gd t v
def Jn : List AV -> List AV
 | [] => []
 | c :: cs => c.low :: Jn cs
end
theorem Le.iptr (fr : Bool) (cs : List T) (off : Nat) : Le (.iptr fr cs off) (.iptr false cs off) := fun C u h => by
 cases h with
 | iptr fr cs off b o cur ty fz us h1 h2 h3 => exact .iptr _ _ _ _ _ _ _ _ us h1 (VC.S_weak h2) fun j x hx => ⟨(h3 j x hx).1, VC.T_weak (h3 j x hx).2 fun e => by cases e⟩
theorem Le.fn {f : FuncId} {cs cs' : List AV} (h : LeL cs cs') : Le (.fn f cs) (.fn f cs') := fun C u hr => by
 cases hr with
 | fn f cs us h1 h2 =>
  refine .fn _ _ _ (by rw [<- h.length]; exact h1) fun i c u hc hu => ?_
  obtain ⟨c0, g1, g2⟩ := h.get hc
  exact g2 C u (h2 i c0 u g1 hu)
mutual
theorem Le.low : ∀ (c : AV), Le c c.low
 | .imm fr k es => by simp only [AV.low]; exact Le.imm (fun e => by cases e) k es
 | .nil k => by simp only [AV.low]; exact Le.nil k false k
 | .iptr fr cs off => by simp only [AV.low]; exact Le.iptr fr cs off
 | .agg cs => by simp only [AV.low]; exact Le.agg (LeL.low cs)
 | .tup cs => by simp only [AV.low]; exact Le.tup (LeL.low cs)
 | .fn f cs => by simp only [AV.low]; exact Le.fn (LeL.low cs)
 | .any => by simp only [AV.low]; exact Le.refl _
 | .lit v => by simp only [AV.low]; exact Le.refl _
 | .own id n => by simp only [AV.low]; exact Le.refl _
 | .sub id n lo m => by simp only [AV.low]; exact Le.refl _
 | .ptr id off => by simp only [AV.low]; exact Le.refl _
 | .rptr id n i off => by simp only [AV.low]; exact Le.refl _
 | .bsl id n => by simp only [AV.low]; exact Le.refl _
 | .gd t v => by simp only [AV.low]; exact Le.refl _
theorem LeL.low : ∀ (cs : List AV), LeL cs (Jn cs)
 | [] => .nil
 | c :: cs => .cons (Le.low c) (LeL.low cs)
end
theorem Am7 {P : Program} {st : St} {rs : List ResultVar} {res : AV} (hc : Tl P st rs) (h : ((J0 P st rs).ren fun _ => none).low = res) : P0 P 0 rs [] res .ret st := Axr hc (by rw [<- h]; exact Le.low _)
theorem VW.z {P : Program} {n m : Nat} {st : St} {rs : List ResultVar} {res : AV} {K : Exit -> St -> Prop} (h : ((J0 P st rs).ren fun _ => none).low = res) (hk : P0 P 0 rs [] res .ret st -> K .ret st := by exact id) (hc : Tl P st rs := by simp [go_sem]) : VW P n m .ret st K := .ret (hk (Am7 hc h))
abbrev B6 := @VW.z
section
variable {P : Program} {d : Option Tmp} {os : List VO} {st : St} {K : St -> Prop} {KT : Tr -> St -> Prop} {tr : Tr}
theorem U5.lo {f : FuncId} {args args' Gt : List AV} {bor : Bool} {σr : List Ob} {res : AV} (hp : Ei P f [] args' σr res) (ha : Jn args = args') (hl : bor = true -> res.cln = true /\ σr.all Ob.cln = true) (h : runs P os (st.after d (res.shift st.ob.length) (Kv st.ob.length 0 σr)) K) : U5 P f args bor Gt d os st K := .by hp (by rw [<- ha]; exact LeL.low _) hl h
theorem U4.lo {f : FuncId} {args args' Gt : List AV} {bor : Bool} {σr : List Ob} {res : AV} {rd : List Nat} (hp : Ei P f [] args' σr res) (ha : Jn args = args') (hl : bor = true -> res.cln = true /\ σr.all Ob.cln = true) (h : F8 P os (st.after d (res.shift st.ob.length) (Kv st.ob.length 0 σr)) ((rd, (Kv st.ob.length 0 σr).map (·.1)) :: tr) KT) : U4 P f args bor Gt d os st rd tr KT := .by hp (by rw [<- ha]; exact LeL.low _) hl h
end
attribute [go_sem] AV.low Jn
theorem Ry {P : Program} {m : Nat} {sl : List (Nat × AV)} {ob : List Ob} {rs : List ResultVar} {σr : List Ob} {res : AV} (sel : List Nat) (hc : Tl P ⟨sl, ob⟩ rs) (hnd : sel.Nodup) (hm : ∀ id, id < m -> sel[id]? = some id) (h : ((J0 P ⟨sl, ob⟩ rs).ren fun id => idx id sel 0).low = res) (ho : OL (fun i => ob.getD i .gone) (fun id => idx id sel 0) sel σr) : P0 P m rs σr res .ret ⟨sl, ob⟩ :=
 ⟨.inr rfl, hc, sel, Ds hnd (.cons (by rw [<- h]; exact Le.low _) .nil) ho, hm⟩
theorem Ei.frozA {P : Program} {f : FuncId} {args : List AV} {ty k : Nat} {fr fz : Bool} {es : List (List T)} {res res' : AV} (h : Ei P f [] args [.row ty k fr fz es] res) (hr : ((res.melt fun i => [Ob.row ty k fr true es].getD i .gone).ren fun _ => none).low = res') : Ei P f [] args [] res' := by
 refine ⟨h.1, fun E β us hn ho hβ r => (h.2 E β us hn ho hβ r).mono ?_⟩
 rintro e w' ⟨v, β', rfl, r1⟩
 have r2 := (r1.freeze (id := 0) (ty := ty) (k := k) (fr := fr) (fz := fz) (es := es) rfl).1.melt
 obtain ⟨β2, r3⟩ := r2.weak (sel := []) (st' := ⟨[(0, res')], []⟩) ⟨.cons (by rw [<- hr]; exact Le.low _) .nil, fun j hj => by simp at hj, rfl, List.nodup_nil⟩ fun id hid => absurd (by show E.o0 id = _; rw [ho]; simp [St.o]) hid
 exact ⟨v, β2, rfl, r3⟩
section
variable {P : Program} {d : Option Tmp} {ty : TypeId} {os : List VO} {st : St} {K : St -> Prop} {KT : Tr -> St -> Prop} {tr : Tr}
structure Aaa (P : Program) (g : Bool) (f : FuncId) (args : List AV) (bor : Bool) (d : Option Tmp) (os : List VO) (st : St) (K : St -> Prop) : Prop where
  ex : ∃ σr res, (g = true -> Ei P f [] args σr res /\ (bor = true -> res.cln = true /\ σr.all Ob.cln = true)) /\ runs P os (st.after d (.gd g (res.shift st.ob.length)) (bif g then Kv st.ob.length 0 σr else [])) K
structure W4 (P : Program) (g : Bool) (f : FuncId) (args : List AV) (bor : Bool) (d : Option Tmp) (os : List VO) (st : St) (rd : List Nat) (tr : Tr) (K : Tr -> St -> Prop) : Prop where
  ex : ∃ σr res, (g = true -> Ei P f [] args σr res /\ (bor = true -> res.cln = true /\ σr.all Ob.cln = true)) /\ F8 P os (st.after d (.gd g (res.shift st.ob.length)) (bif g then Kv st.ob.length 0 σr else [])) ((rd, (Kv st.ob.length 0 σr).map (·.1)) :: tr) K
theorem Ao6 {f : FuncId} {xs : List Operand} {ts : Array TypeId} {v : AV} {want : Bool} (hv : Hh v.sv = true) (hb : (v.sb && (Ew v.sv == want)) = true -> (xs.all fun x => (st.raw x).sb) = true /\ I6 st.o (xs.map fun x => (st.raw x).sv))
 (h : Aaa P (v.sb && (Ew v.sv == want)) f (Jd st.o (xs.map fun x => (st.raw x).sv)) (R5 (xs.map fun x => (st.raw x).sv)) d os st K) : Wz P d (.call ⟨.value (.func f), xs.toArray, ts⟩) ty v want os st K := by
 obtain ⟨σr, res, h1, h2⟩ := h
 refine ⟨hv, (res.shift st.ob.length, Kv st.ob.length 0 σr), fun hg => ?_, h2⟩
 obtain ⟨q1, q2⟩ := hb hg
 obtain ⟨q3, q4⟩ := h1 hg
 exact ⟨⟨rfl, q1⟩, .inl ⟨f, [], σr, res, rfl, by simpa using q3, by simpa using q2, by simpa using q4, rfl⟩⟩
theorem RCG {f : FuncId} {xs : List Operand} {ts : Array TypeId} {v : AV} {want : Bool} (h : Aaa P (v.sb && (Ew v.sv == want)) f (Jd st.o (xs.map fun x => (st.raw x).sv)) (R5 (xs.map fun x => (st.raw x).sv)) d os st K) (hv : Hh v.sv = true := by simp [go_sem]) (hb : (v.sb && (Ew v.sv == want)) = true -> (xs.all fun x => (st.raw x).sb) = true /\ I6 st.o (xs.map fun x => (st.raw x).sv) := by simp [go_sem]) : Wz P d (.call ⟨.value (.func f), xs.toArray, ts⟩) ty v want os st K := Ao6 hv hb h
theorem Nl {f : FuncId} {xs : List Operand} {ts : Array TypeId} {v : AV} {want : Bool} (hv : Hh v.sv = true) (hb : (v.sb && (Ew v.sv == want)) = true -> (xs.all fun x => (st.raw x).sb) = true /\ I6 st.o (xs.map fun x => (st.raw x).sv))
 (h : W4 P (v.sb && (Ew v.sv == want)) f (Jd st.o (xs.map fun x => (st.raw x).sv)) (R5 (xs.map fun x => (st.raw x).sv)) d os st (E5 (.call ⟨.value (.func f), xs.toArray, ts⟩) st) tr KT) : Ah6 P d (.call ⟨.value (.func f), xs.toArray, ts⟩) ty v want os st tr KT := by
 obtain ⟨σr, res, h1, h2⟩ := h
 refine ⟨hv, (res.shift st.ob.length, Kv st.ob.length 0 σr), fun hg => ?_, h2⟩
 obtain ⟨q1, q2⟩ := hb hg
 obtain ⟨q3, q4⟩ := h1 hg
 exact ⟨⟨rfl, q1⟩, .inl ⟨f, [], σr, res, rfl, by simpa using q3, by simpa using q2, by simpa using q4, rfl⟩⟩
theorem Aaa.skip {f : FuncId} {args : List AV} {bor : Bool} (h : runs P os (st.after d (.gd false .any) []) K) : Aaa P false f args bor d os st K := ⟨[], .any, (fun e => by cases e), h⟩
theorem W4.skip {f : FuncId} {args : List AV} {bor : Bool} {rd : List Nat} (h : F8 P os (st.after d (.gd false .any) []) ((rd, []) :: tr) KT) : W4 P false f args bor d os st rd tr KT := ⟨[], .any, (fun e => by cases e), h⟩
theorem Aaa.lo {f : FuncId} {g : Bool} {args args' : List AV} {bor : Bool} {σr : List Ob} {res : AV} (hp : Ei P f [] args' σr res) (ha : Jn args = args') (hl : bor = true -> res.cln = true /\ σr.all Ob.cln = true) (h : runs P os (st.after d (.gd g (res.shift st.ob.length)) (bif g then Kv st.ob.length 0 σr else [])) K) : Aaa P g f args bor d os st K := ⟨σr, res, fun _ => ⟨hp.le (by rw [<- ha]; exact LeL.low _), hl⟩, h⟩
theorem W4.lo {f : FuncId} {g : Bool} {args args' : List AV} {bor : Bool} {σr : List Ob} {res : AV} {rd : List Nat} (hp : Ei P f [] args' σr res) (ha : Jn args = args') (hl : bor = true -> res.cln = true /\ σr.all Ob.cln = true) (h : F8 P os (st.after d (.gd g (res.shift st.ob.length)) (bif g then Kv st.ob.length 0 σr else [])) ((rd, (Kv st.ob.length 0 σr).map (·.1)) :: tr) KT) : W4 P g f args bor d os st rd tr KT := ⟨σr, res, fun _ => ⟨hp.le (by rw [<- ha]; exact LeL.low _), hl⟩, h⟩
end
theorem Aud (fr : Bool) : ∀ (t : T), (T.av fr t).ids = []
 | .lit v => by simp only [T.av, AV.ids]
 | .sl k es => by simp only [T.av, AV.ids]
 | .fn f cs off => by simp only [T.av, AV.ids, Gl]; rfl
theorem Ahi (fr : Bool) : ∀ (l : List T), Gl (l.map (T.av fr)) = []
 | [] => by simp only [List.map_nil, Gl]
 | t :: l => by simp only [List.map_cons, Gl, Aud, Ahi fr l, List.append_nil]
theorem Aon (n : Nat) (fr : Bool) (l : List T) : Gl ((l.map (T.av fr)).take n) = [] := by
 rw [<- List.map_take]; exact Ahi fr _
attribute [go_sem] Ahi Aon
def Ob.low : Ob -> Ob
 | .box ty cs => .box ty (Jn cs)
 | o => o
theorem Tm.low (o : Ob) : Tm o o.low := by
 cases o with
 | box ty cs => exact .box (LeL.low cs)
 | gone => exact .gone
 | row ty k fr fz es => exact Tm.refl _
theorem Ei.lowO {P : Program} {f : FuncId} {σa : List Ob} {args : List AV} {σr : List Ob} {res : AV} (h : Ei P f (σa.map Ob.low) (Jn args) σr res) : Ei P f σa args σr res := by
 refine ⟨h.1, fun E β us hn ho hβ r => ?_⟩
 have hlen : (Jn args).length = args.length := (LeL.length (LeL.low args)).symm
 have hC : ∀ sl sl' : List (Nat × AV), True := fun _ _ => trivial
 have hget : ∀ j, (St.mk [] (σa.map Ob.low)).o j = ((St.mk [] σa).o j).low := fun j => by
  show (σa.map Ob.low).getD j Ob.gone = (σa.getD j Ob.gone).low
  rw [Ad, Ad, Ap]
  cases σa[j]? <;> rfl
 have hlow : ∀ o : Ob, o.low ≠ .gone <-> o ≠ .gone := fun o => by cases o <;> simp [Ob.low]
 let E2 : Ent := { E with o0 := (St.mk [] (σa.map Ob.low)).o }
 have hM : E2.M = E.M := by
  funext b
  apply propext
  constructor
  ·rintro ⟨j, h1, h2⟩
   have h1 : (St.mk [] (σa.map Ob.low)).o j ≠ .gone := h1
   rw [hget, hlow] at h1
   exact ⟨j, by rw [ho]; exact h1, h2⟩
  rintro ⟨j, h1, h2⟩
  rw [ho] at h1
  exact ⟨j, by show (St.mk [] (σa.map Ob.low)).o j ≠ .gone; rw [hget, hlow]; exact h1, h2⟩
 have hlv : ∀ o : Ob, o.low.live <-> o.live := fun o => by cases o <;> simp [Ob.low, Ob.live]
 have hStep : ∀ C : VC, ∀ C' : VC, C'.h = C.h -> C'.β = C.β -> C'.B = C.B -> C'.M = C.M -> C'.im = C.im -> C'.fr = C.fr -> (∀ j, C'.ob j = (C.ob j).low) -> ∀ c u, Dv C c u -> Dv C' c u := fun C C' h1 h2 h3 h4 h5 h6 h7 c u hv => by
  refine hv.step ⟨h3, fun b hb => by rw [h4]; exact hb, fun b hb => by rw [h5]; exact hb, fun b hb => by rw [h6]; exact hb, by rw [h1]; exact Aj _, ?_, fun b _ _ => by rw [h1], fun id ty cs hc => ⟨⟨Jn cs, by rw [h7, hc]; rfl⟩, by rw [h2]⟩, fun id ty k fr fz es hc => ⟨fr, fz, es, by rw [h7, hc]; rfl, Aj _, fun _ => ⟨by rw [h2], fun b cur hb hcur => ⟨cur, by rw [h1]; exact hcur, rfl⟩⟩⟩⟩
  rintro b _ ⟨id, h8, h9⟩
  rw [h7, hlv] at h9
  exact ⟨id, by rw [<- h2]; exact h8, h9⟩
 have hCC : ∀ sl sl' : List (Nat × AV), ∀ c u, Dv (E.C β ⟨sl, σa⟩ E.w0) c u -> Dv (E2.C β ⟨sl', σa.map Ob.low⟩ E.w0) c u := fun sl sl' => hStep _ _ rfl rfl rfl hM rfl rfl hget
 have r2 : Rel E2 β ⟨Hc 0 (Jn args), σa.map Ob.low⟩ ⟨us, []⟩ E2.w0 := by
  refine ⟨r.sz, fun t => ?_, r.df, fun j => ?_, fun i j b hi hj => ?_, fun i b hi hb => ?_, Kp.refl _ _, ⟨fun id ty cs h => ⟨⟨cs, h⟩, congrFun hβ.symm id⟩, fun id ty k fr fz es h => ⟨fr, fz, es, h, Aj _, fun _ => ⟨congrFun hβ.symm id, fun b cur hb hc => ⟨cur, hc, rfl⟩⟩⟩⟩, r.kb, r.dk⟩
  ·have hr := r.sl t
   have hr : Dv (E.C β ⟨Hc 0 args, σa⟩ E.w0) (El (Hc 0 args) t) (us.getD t undef) := hr
   show Dv _ (El (Hc 0 (Jn args)) t) _
   rw [Kn, if_pos (Ae _), Ad] at hr ⊢
   cases hq : (Jn args)[t - 0]? with
   | none => exact .any _
   | some c' =>
    obtain ⟨c, g1, g2⟩ := (LeL.low args).get hq
    rw [g1] at hr
    exact g2 _ _ (hCC _ _ _ _ hr)
  ·have hr := r.ob j
   have hr : Jo (E.C β ⟨Hc 0 args, σa⟩ E.w0) j ((St.mk [] σa).o j) := hr
   show Jo _ j ((St.mk [] (σa.map Ob.low)).o j)
   rw [hget]
   cases hq : (St.mk [] σa).o j with
   | gone => trivial
   | box ty cs =>
    rw [hq] at hr
    obtain ⟨b, cur, q1, q2, q3, q4⟩ := hr
    refine ⟨b, cur, q1, q2, by rw [<- LeL.length (LeL.low cs)]; exact q3, fun i c u hc hu => ?_⟩
    obtain ⟨c0, g1, g2⟩ := (LeL.low cs).get hc
    exact ⟨g2 _ _ (hCC _ _ _ _ (q4 i c0 u g1 hu).1), (q4 i c0 u g1 hu).2⟩
   | row ty k fr fz es =>
    rw [hq] at hr
    obtain ⟨q1, q2⟩ := hr
    refine ⟨q1, ?_⟩
    have hb : (E2.C β ⟨Hc 0 (Jn args), σa.map Ob.low⟩ E.w0).β j = (E.C β ⟨Hc 0 args, σa⟩ E.w0).β j := rfl
    show match (E2.C β ⟨Hc 0 (Jn args), σa.map Ob.low⟩ E.w0).β j with | none => es = [] | some b => _
    rw [hb]
    cases hbb : (E.C β ⟨Hc 0 args, σa⟩ E.w0).β j with
    | none => rw [hbb] at q2; exact q2
    | some b =>
     rw [hbb] at q2
     obtain ⟨cur, c, g1, g2, g3, g4, g5⟩ := q2
     refine ⟨cur, c, g1, g2, g3, g4, fun i e j x he hx => ?_⟩
     obtain ⟨u, p1, p2⟩ := g5 i e j x he hx
     refine ⟨u, p1, p2.keep (fun _ _ => rfl) fun b hs => ⟨hs.1, fun ⟨id, h8, h9⟩ => hs.2.1 ⟨id, h8, ?_⟩, ?_⟩⟩
     ·have h9 : ((St.mk [] (σa.map Ob.low)).o id).live := h9
      rw [hget, hlv] at h9
      exact h9
     show E.w0.heap.size <= b \/ E2.M b \/ _
     rw [hM]
     exact hs.2.2
  ·exact r.inj i j b (by have hi : (St.mk [] (σa.map Ob.low)).o i ≠ .gone := hi; rw [hget, hlow] at hi; exact hi) (by have hj : (St.mk [] (σa.map Ob.low)).o j ≠ .gone := hj; rw [hget, hlow] at hj; exact hj)
  have := r.rng i b (by have hi : (St.mk [] (σa.map Ob.low)).o i ≠ .gone := hi; rw [hget, hlow] at hi; exact hi) hb
  exact ⟨this.1, by rw [hM]; exact this.2⟩
 refine (h.2 E2 β us (by rw [hlen]; exact hn) rfl hβ r2).mono ?_
 rintro e w' ⟨v, β', rfl, r3⟩
 refine ⟨v, β', rfl, ?_⟩
 have hC2 : ({ E2 with n := 1 } : Ent).C β' ⟨[(0, res)], σr⟩ w' = ({ E with n := 1 } : Ent).C β' ⟨[(0, res)], σr⟩ w' := by
  show VC.mk _ _ _ _ _ _ _ = VC.mk _ _ _ _ _ _ _
  congr 1
 refine ⟨r3.sz, fun t => by rw [<- hC2]; exact r3.sl t, r3.df, fun id => by rw [<- hC2]; exact r3.ob id, r3.inj, fun i b hi hb => ?_, ?_, ?_, r3.kb, r3.dk⟩
 ·have := r3.rng i b hi hb
  refine ⟨this.1, ?_⟩
  have h2 : E.w0.heap.size <= b \/ E2.M b := this.2
  rw [hM] at h2
  exact h2
 ·have := r3.kp
  refine ⟨this.os, this.tape, this.output, this.size, fun b hb hm => this.block b hb fun h => hm ?_⟩
  have h : E2.M b := h
  rw [hM] at h
  exact h
 rw [<- hC2]
 refine ⟨fun id ty cs hc => ?_, fun id ty k fr fz es hc => ?_⟩
 ·have hc : E.o0 id = _ := hc
  rw [ho] at hc
  exact r3.ct.box id ty (Jn cs) (by show (St.mk [] (σa.map Ob.low)).o id = _; rw [hget, hc]; rfl)
 have hc : E.o0 id = _ := hc
 rw [ho] at hc
 exact r3.ct.row id ty k fr fz es (by show (St.mk [] (σa.map Ob.low)).o id = _; rw [hget, hc]; rfl)
def Ad0 (Gt : List AV) (st : St) (sel : List Nat) (σr : List Ob) (res : AV) : Prop :=
 sel.Nodup /\ (∀ id ∈ sel, (st.o id).live) /\ I6 st.o Gt /\ (∀ id ∈ sel, (st.o id).passC st.o) /\ sel.length <= σr.length /\ (∀ id ∈ sel, id ∈ rdC st.o (Gl Gt) /\ ∀ x ∈ obI (st.o id), x ∈ rdC st.o (Gl Gt)) /\
  ((R4 (fun id => idx id sel 0) Gt || sel.any fun id => (st.o id).borR fun id => idx id sel 0) = true -> res.cln = true /\ σr.all Ob.cln = true)
section
variable {P : Program} {d : Option Tmp} {os : List VO} {st : St} {K : St -> Prop} {KT : Tr -> St -> Prop} {tr : Tr}
theorem Wb.of {f : FuncId} {args' Gt : List AV} {σa σr : List Ob} {res : AV} (sel : List Nat) (hp : Ei P f σa args' σr res) (hσ : (sel.map fun id => ((st.o id).passR st.o fun id => idx id sel 0).low) = σa) (ha : Jn (Gu st.o (fun id => idx id sel 0) Gt) = args') (hc : Ad0 Gt st sel σr res) (nid : Nat) : Wb P f Gt st.o nid sel σr res := by
 obtain ⟨h1, h2, h3, h4, h5, h6, h7⟩ := hc
 refine ⟨h1, h2, Ei.lowO ?_, h3, h4, h5, h6, h7⟩
 rw [ha, List.map_map]
 rw [<- hσ] at hp
 exact hp
theorem U5.ob {f : FuncId} {args args' Gt : List AV} {bor : Bool} {σa σr : List Ob} {res : AV} (sel : List Nat) (hp : Ei P f σa args' σr res) (hσ : (sel.map fun id => ((st.o id).passR st.o fun id => idx id sel 0).low) = σa) (ha : Jn (Gu st.o (fun id => idx id sel 0) Gt) = args') (hc : Ad0 Gt st sel σr res)
 (h : runs P os (st.after d (Oy sel st.ob.length σr res).1 (Oy sel st.ob.length σr res).2) K) : U5 P f args bor Gt d os st K := ⟨.inr ⟨sel, σr, res, .of sel hp hσ ha hc _, h⟩⟩
theorem U4.ob {f : FuncId} {args args' Gt : List AV} {bor : Bool} {σa σr : List Ob} {res : AV} {rd : List Nat} (sel : List Nat) (hp : Ei P f σa args' σr res) (hσ : (sel.map fun id => ((st.o id).passR st.o fun id => idx id sel 0).low) = σa) (ha : Jn (Gu st.o (fun id => idx id sel 0) Gt) = args') (hc : Ad0 Gt st sel σr res)
 (h : F8 P os (st.after d (Oy sel st.ob.length σr res).1 (Oy sel st.ob.length σr res).2) ((rd, (Oy sel st.ob.length σr res).2.map (·.1)) :: tr) KT) : U4 P f args bor Gt d os st rd tr KT := ⟨.inr ⟨sel, σr, res, .of sel hp hσ ha hc _, h⟩⟩
end
attribute [go_sem] Ob.low Gu AV.passR Ob.passR R4 AV.borR Ob.borR Ob.live Ob.passC Ad0 bkN Ahj Aex Oy AV.bk bkL Ob.bk
section
variable {P : Program}
mutual
theorem bk_id : ∀ (c : AV), c.bk (fun x => x) = c
 | .own id n => rfl
 | .sub id n lo m => rfl
 | .ptr id off => rfl
 | .rptr id n i off => rfl
 | .bsl id n => rfl
 | .agg cs => by simp only [AV.bk]; rw [Adl cs]
 | .tup cs => by simp only [AV.bk]; rw [Adl cs]
 | .fn f cs => by simp only [AV.bk]; rw [Adl cs]
 | .gd t v => by simp only [AV.bk]; rw [bk_id v]
 | .any => rfl
 | .lit v => rfl
 | .nil k => rfl
 | .imm fr k es => rfl
 | .iptr fr cs off => rfl
theorem Adl : ∀ (cs : List AV), bkL (fun x => x) cs = cs
 | [] => rfl
 | c :: cs => by simp only [bkL]; rw [bk_id c, Adl cs]
end
theorem Ob.bk_id (o : Ob) : o.bk (fun x => x) = o := by cases o <;> simp [Ob.bk, Adl]
theorem Dv.same {C C' : VC} (hh : C'.h = C.h) (ho : C'.ob = C.ob) (hβ : C'.β = C.β) (hS : ∀ fr b, C.S fr b -> C'.S fr b) {c : AV} {u : Value} (h : Dv C c u) : Dv C' c u := by
 have := Dv.bk (C1 := C) (C2 := C') (B := fun x => x) hh (fun j _ => ⟨by rw [ho, Ob.bk_id], by rw [hβ]⟩) false (fun fr b _ hb => hS fr b hb) h (fun e => by cases e)
 rwa [Go.Proofs.YtkkimgjinbaemaaGreat.bk_id] at this
theorem Jo.same {C C' : VC} (hh : C'.h = C.h) (ho : C'.ob = C.ob) (hβ : C'.β = C.β) (hS : ∀ fr b, C.S fr b -> C'.S fr b) {id : Nat} (h : Jo C id (C.ob id)) : Jo C' id (C.ob id) := by
 have := Jo.bk (C1 := C) (C2 := C') (B := fun x => x) hh (fun j _ => ⟨by rw [ho, Ob.bk_id], by rw [hβ]⟩) false (fun fr b _ hb => hS fr b hb) rfl h (fun e => by cases e)
 rwa [Ob.bk_id] at this
theorem Rel.grow {E : Ent} {β : Nat -> Option Nat} {st : St} {a : Act} {w w' : World} (r : Rel E β st a w) (k : Kp (fun _ => False) w w') : Rel E β st a w' := by
 have hk : ∀ b, b < w.heap.size -> w'.heap[b]? = w.heap[b]? := fun b hb => k.block b hb fun h => h
 have s : Ms (E.C β st w) (E.C β st w') := ⟨rfl, fun _ h => h, fun _ h => h, fun _ h => h, k.size, fun b _ h => h, fun b hb _ => hk b hb, fun id ty cs h => ⟨⟨cs, h⟩, rfl⟩, fun id ty k' fr fz es h => ⟨fr, fz, es, h, Aj _, fun _ => ⟨rfl, fun b cur hb hc => ⟨cur, (hk b (r.rng id b (by have h : st.o id = _ := h; rw [h]; simp) hb).1).trans hc, rfl⟩⟩⟩⟩
 refine r.move s rfl (fun id => ?_) r.inj (fun i b hi hb => ?_) ?_
 ·by_cases hg : st.o id = .gone
  ·rw [hg]; trivial
  exact (r.ob id).step s rfl fun b hb => hk b (r.rng id b hg hb).1
 ·have := r.rng i b hi hb
  have := k.size
  exact ⟨by omega, by have h2 := r.rng i b hi hb; exact h2.2⟩
 have h1 := r.kp
 have h2 := h1.size
 exact ⟨k.os.trans h1.os, k.tape.trans h1.tape, k.output.trans h1.output, Ak h1.size k.size, fun b hb hm => (hk b (by omega)).trans (h1.block b hb hm)⟩
theorem Rel.putK {E : Ent} {β : Nat -> Option Nat} {st : St} {a : Act} {w : World} (r : Rel E β st a w) {l : Nat} {o o' : Obj} (hl : E.kb l = some o) (ho' : Y9 o' = false) (hld : l ∉ E.ds) (hge : E.w0.heap.size <= l) :
 Rel { E with kb := fun b => if b = l then some o' else E.kb b } β st a (w.putObj l o') := by
 obtain ⟨hlw, hlo⟩ := r.kb l o hl
 have hlt : l < w.heap.size := (Aw.1 hlw).1
 have hsz : (w.putObj l o').heap.size = w.heap.size := by simp [World.putObj]
 have hfar : ∀ b, b ≠ l -> (w.putObj l o').heap[b]? = w.heap[b]? := fun b hb => World.putObj_heap_other hb
 have hcell : ∀ b cur ty fz, w.heap[b]? = some (.cells cur ty fz) -> b ≠ l := fun b cur ty fz h e => by
  subst e
  rw [h] at hlw
  rw [show o = .cells cur ty fz from (Option.some.inj hlw).symm] at hlo
  cases hlo
 have s : U1 (E.C β st w) (E.C β st (w.putObj l o')) :=
  ⟨rfl, fun _ h => h, fun _ h => h, fun _ h => h, Nat.le_of_eq hsz.symm, fun b _ h => h, fun b cur ty fz _ _ h => (hfar b (hcell b _ _ _ h)).trans h, fun id ty cs h => ⟨⟨cs, h⟩, rfl⟩, fun id ty k fr fz es h => ⟨fr, fz, es, h, Aj _, fun _ => ⟨rfl, fun b cur hb hc => ⟨cur, (hfar b (hcell b _ _ _ hc)).trans hc, rfl⟩⟩⟩⟩
 refine ⟨r.sz, fun t => (r.sl t).stepW s, r.df, fun id => ?_, r.inj, fun i b hi hb => ?_, ?_, r.ct.stepW s, fun b o h => ?_, r.dk.1, fun D hD => ?_⟩
 ·have hr := r.ob id
  cases hq : st.o id with
  | gone => trivial
  | box ty cs =>
   rw [hq] at hr
   refine hr.stepW s rfl fun b hb => ?_
   obtain ⟨b', cur, q1, q2, _⟩ := hr
   have q1 : β id = some b' := q1
   have hb : β id = some b := hb
   rw [hb] at q1
   injection q1 with q1
   subst q1
   exact hfar b (hcell b _ _ _ q2)
  | row ty k fr fz es =>
   rw [hq] at hr
   refine hr.stepW s rfl fun b hb => ?_
   have h2 := hr.2
   rw [hb] at h2
   obtain ⟨cur, c, q2, _⟩ := h2
   exact hfar b (hcell b _ _ _ q2)
 ·have := r.rng i b hi hb
  exact ⟨by rw [hsz]; exact this.1, this.2⟩
 ·have h := r.kp
  exact ⟨h.os, h.tape, h.output, by have h3 := h.size; show E.w0.heap.size <= (w.putObj l o').heap.size; rw [hsz]; exact h3, fun b hb hm => (hfar b (by have hb : b < E.w0.heap.size := hb; omega)).trans (h.block b hb hm)⟩
 ·have h : (if b = l then some o' else E.kb b) = some o := h
  by_cases e : b = l
  ·rw [if_pos e] at h
   injection h with h
   subst h
   rw [e]
   exact ⟨World.putObj_heap_same hlt, ho'⟩
  rw [if_neg e] at h
  exact ⟨(hfar b e).trans (r.kb b o h).1, (r.kb b o h).2⟩
 have := r.dk.2 D hD
 refine ⟨?_, this.2⟩
 show (if D = l then some o' else E.kb D) = _
 rw [if_neg fun e => hld (by rw [<- e]; exact hD)]
 exact this.1
def Ent.under (E : Ent) (β : Nat -> Option Nat) (st : St) (W : World) : Ent := ⟨W, st.o, β, fun b => (E.C β st W).S false b, fun b => (E.C β st W).S true b, E.n, [], E.kb⟩
theorem Rel.inner {E : Ent} {β : Nat -> Option Nat} {st : St} {a : Act} {W : World} (r : Rel E β st a W) {sl : List (Nat × AV)} {tmps : Array Value} (hsz : tmps.size = E.n) (hsl : ∀ t, Dv (E.C β st W) (El sl t) (tmps.getD t undef)) : Rel (E.under β st W) β ⟨sl, st.ob⟩ ⟨tmps, []⟩ W := by
 have hS : ∀ sl' fr b, (E.C β st W).S fr b -> ((E.under β st W).C β ⟨sl', st.ob⟩ W).S fr b := fun sl' fr b h => ⟨h.1, h.2.1, .inr (.inr ⟨VC.S_weak h, fun e => by rw [e] at h; exact h⟩)⟩
 refine ⟨hsz, fun t => Dv.same (C := E.C β st W) (C' := (E.under β st W).C β ⟨sl, st.ob⟩ W) rfl rfl rfl (hS _) (hsl t), rfl, fun id => Jo.same (C := E.C β st W) (C' := (E.under β st W).C β ⟨sl, st.ob⟩ W) rfl rfl rfl (hS _) (r.ob id), r.inj, fun i b hi hb => ⟨(r.rng i b hi hb).1, .inr ⟨i, hi, hb⟩⟩, Kp.refl _ _, ⟨fun id ty cs h => ⟨⟨cs, h⟩, rfl⟩, fun id ty k fr fz es h => ⟨fr, fz, es, h, Aj _, fun _ => ⟨rfl, fun b cur hb hc => ⟨cur, hc, rfl⟩⟩⟩⟩, r.kb, List.nodup_nil, fun D h => by cases h⟩
theorem Rel.outer {E : Ent} {β : Nat -> Option Nat} {st : St} {a : Act} {W : World} (r : Rel E β st a W) (hlive : ∀ id, st.o id ≠ .gone -> (st.o id).live) {E3 : Ent} (hle : G4 (E.under β st W) E3) {β3 : Nat -> Option Nat} {sl3 : List (Nat × AV)} {ob3 : List Ob} {a3 : Act} {W3 : World} (r3 : Rel E3 β3 ⟨sl3, ob3⟩ a3 W3) :
 Rel E β3 ⟨st.sl, ob3⟩ a W3 /\ (∀ b, b < W.heap.size -> ¬ (E.C β st W).lives b -> W3.heap[b]? = W.heap[b]? /\ ¬ (E.C β3 ⟨st.sl, ob3⟩ W3).lives b) /\ W.heap.size <= W3.heap.size := by
 obtain ⟨⟨ds3, kb3, rfl⟩, hkb⟩ := hle
 have hMl : ∀ b, (E.under β st W).M b -> (E.C β st W).lives b := fun b ⟨id, h1, h2⟩ => ⟨id, h2, hlive id h1⟩
 have hkeep : ∀ b, b < W.heap.size -> ¬ (E.under β st W).M b -> W3.heap[b]? = W.heap[b]? := fun b hb hm => r3.kp.block b hb hm
 have hsz : W.heap.size <= W3.heap.size := r3.kp.size
 have hlv : ∀ b, b < W.heap.size -> (E.C β3 ⟨st.sl, ob3⟩ W3).lives b -> (E.C β st W).lives b := fun b hb ⟨i, h1, h2⟩ => by
  have h2 : ((St.mk sl3 ob3).o i).live := h2
  rcases (r3.rng i b (fun e => by rw [e] at h2; exact h2) h1).2 with h3 | h3
  ·have h3 : W.heap.size <= b := h3
   omega
  exact hMl b h3
 have s : Ms (E.C β st W) (E.C β3 ⟨st.sl, ob3⟩ W3) := by
  refine ⟨rfl, fun _ h => h, fun _ h => h, fun _ h => h, hsz, hlv, fun b hb hn => hkeep b hb fun hm => hn (hMl b hm), fun id ty cs h => r3.ct.box id ty cs h, fun id ty k fr fz es h => r3.ct.row id ty k fr fz es h⟩
 have hS : ∀ fr b, (({ E.under β st W with ds := ds3, kb := kb3 } : Ent).C β3 ⟨sl3, ob3⟩ W3).S fr b -> (E.C β3 ⟨st.sl, ob3⟩ W3).S fr b := fun fr b h => by
  refine ⟨h.1, h.2.1, ?_⟩
  have h3 : W.heap.size <= b \/ (E.under β st W).M b \/ ((E.C β st W).S false b /\ (fr = true -> (E.C β st W).S true b)) := h.2.2
  show E.w0.heap.size <= b \/ E.M b \/ _
  rcases h3 with h3 | ⟨id, h3, h4⟩ | ⟨h3, h4⟩
  ·have := r.kp.size
   exact .inl (by omega)
  ·rcases (r.rng id b h3 h4).2 with h5 | h5
   ·exact .inl h5
   exact .inr (.inl h5)
  cases fr with
  | true => exact (h4 rfl).2.2
  | false => exact h3.2.2
 refine ⟨⟨r.sz, fun t => (r.sl t).step s, r.df, fun id => Jo.same (C := ({ E.under β st W with ds := ds3, kb := kb3 } : Ent).C β3 ⟨sl3, ob3⟩ W3) (C' := E.C β3 ⟨st.sl, ob3⟩ W3) rfl rfl rfl hS (r3.ob id), r3.inj, fun i b hi hb => ?_, ?_, r.ct.step s, fun b o h => ?_, r.dk⟩, fun b hb hn => ⟨hkeep b hb fun hm => hn (hMl b hm), fun h => hn (hlv b hb h)⟩, hsz⟩
 ·have h1 := r3.rng i b hi hb
  refine ⟨h1.1, ?_⟩
  have h2 : W.heap.size <= b \/ (E.under β st W).M b := h1.2
  rcases h2 with h2 | ⟨id, h3, h4⟩
  ·have := r.kp.size
   exact .inl (by omega)
  exact (r.rng id b h3 h4).2
 ·have h := r.kp
  refine ⟨r3.kp.os.trans h.os, r3.kp.tape.trans h.tape, r3.kp.output.trans h.output, Ak h.size hsz, fun b hb hm => ?_⟩
  have := h.size
  refine (hkeep b (by omega) fun ⟨id, h3, h4⟩ => ?_).trans (h.block b hb hm)
  rcases (r.rng id b h3 h4).2 with h5 | h5
  ·omega
  exact hm h5
 exact r3.kb b o (hkb b o h)
noncomputable def VCZ (W0 : Nat) (Z L : Nat -> Prop) (W : World) : VC := ⟨W.heap, fun id => (open Classical in if L id then .box 0 [] else .gone), some, W0, fun _ => False, Z, fun _ => False⟩
theorem Af6 {W0 : Nat} {Z L : Nat -> Prop} {W : World} {b : Nat} : (VCZ W0 Z L W).lives b <-> L b := by
 constructor
 ·rintro ⟨id, h1, h2⟩
  have h1 : some id = some b := h1
  injection h1 with h1
  subst h1
  have h2 : (open Classical in if L id then Ob.box 0 [] else Ob.gone).live := h2
  apply Classical.byContradiction
  intro h
  rw [if_neg h] at h2
  exact h2
 intro h
 refine ⟨b, rfl, ?_⟩
 show (open Classical in if L b then Ob.box 0 [] else Ob.gone).live
 rw [if_pos h]; trivial
def Ah5 (J : Nat -> Bool -> (Nat -> Prop) -> World -> Prop) (i : Nat) (L : Nat -> Prop) (W1 : World) : Ending -> World -> Prop := fun e W' => ∃ s L', e = .returned (.bool (!s)) /\ J (i + 1) s L' W' /\ (∀ b, L' b -> b < W'.heap.size) /\ W1.heap.size <= W'.heap.size /\
 (∀ b cur ty fz, ¬ L b -> W1.heap[b]? = some (.cells cur ty fz) -> W'.heap[b]? = some (.cells cur ty fz)) /\ ∀ b, b < W1.heap.size -> ¬ L b -> ¬ L' b
def Wa (P : Program) (gf : FuncId) (caps : List AV) (items : List (List AV)) : Prop :=
 Adz P gf /\ ∀ (C : VC) (lb : Array Value) (W : World), C.h.size <= W.heap.size -> (∀ b, C.S false b -> W.heap[b]? = C.h[b]?) -> Dv C (.fn gf caps) (.func (.func gf) #[] lb) ->
  ∀ (l : Nat) (L0 : Nat -> Prop) (J : Nat -> Bool -> (Nat -> Prop) -> World -> Prop), (∀ b, L0 b -> b < W.heap.size) -> (∀ b, C.S false b -> ¬ L0 b) -> (∀ i s L W1 W2, J i s L W1 -> Kp (fun _ => False) W1 W2 -> J i s L W2) ->
  (∀ i L W1 vs us, J i false L W1 -> (∀ b, L b -> b < W1.heap.size) -> items[i]? = some vs -> us.size = vs.length -> (∀ (j : Nat) (v : AV) (u : Value), vs[j]? = some v -> us[j]? = some u -> Dv (VCZ W.heap.size (C.S false) L W1) v u) ->
   YieldAt Fence.wide 0 P l us W1 (Ah5 J i L W1)) ->
  J 0 false L0 W -> Calls P gf (#[.func (.yield l) #[] #[]] ++ lb) W fun e W' => (∃ v, e = .returned v) /\ ∃ i s L', J i s L' W' /\ (s = false -> i = items.length)
def Atd (n : Nat) (l : List Oper) : Bool := l.all fun o => match o with
 | ⟨some d, .assign (.tmp s), _, _, _, none⟩ => decide (d < n)
 | _ => false
def Adm : List Oper -> St -> St
 | [], st => st
 | ⟨some d, .assign (.tmp s), _, _, _, none⟩ :: l, st => Adm l (st.put (some d) (El st.sl s))
 | _ :: l, st => Adm l st
theorem Arp {E : Ent} {F : Fence} (hF : FOk E F) {β : Nat -> Option Nat} {ops : Array Oper} {Q : Exit -> Act -> World -> Prop} : ∀ (l : List Oper), Atd E.n l = true -> ∀ (st : St) (a : Act) (w : World), Rel E β st a w -> (∀ a', Rel E β (Adm l st) a' w -> Q .normal a' w) -> wpListIn F 0 P ops Q l a w
 | [], _, st, a, w, r, h => h a r
 | o :: l, hb, st, a, w, r, h => by
  simp only [Atd, List.all_cons, Ah] at hb
  obtain ⟨h1, h2⟩ := hb
  split at h1
  ·rename_i d s ty p af
   refine wpListIn_plain rfl fun K hK => Pk hF (by intro c h; cases h) ?_
   have e1 : (execOp a.eval ⟨some d, .assign (.tmp s), ty, p, af, none⟩).run P w = .ok (.value (a.tmps.getD s undef)) w := rfl
   unfold Oper.wp
   rw [e1]
   refine hK _ _ (Arp hF l h2 (st.put (some d) (El st.sl s)) _ w (r.put (r.sl s) (some d) fun x hx => ?_) h)
   injection hx with hx
   subst hx
   simpa using h1
  cases h1
def Rb : List Tmp -> List AV -> List (Nat × AV) -> List (Nat × AV)
 | p :: ps, v :: vs, sl => Rb ps vs ((p, v) :: sl)
 | _, _, sl => sl
theorem Aql {C : VC} {n : Nat} : ∀ (ps : List Tmp) (vs : List AV) (us : List Value) (sl : List (Nat × AV)) (tmps : Array Value), tmps.size = n -> (∀ p ∈ ps, p < n) -> ps.length = vs.length -> us.length = vs.length -> (∀ (j : Nat) (v : AV) (u : Value), vs[j]? = some v -> us[j]? = some u -> Dv C v u) -> (∀ t, Dv C (El sl t) (tmps.getD t undef)) ->
 ((ps.zip us).foldl (fun t (p, v) => t.setIfInBounds p v) tmps).size = n /\ ∀ t, Dv C (El (Rb ps vs sl) t) (((ps.zip us).foldl (fun t (p, v) => t.setIfInBounds p v) tmps).getD t undef)
 | [], vs, us, sl, tmps, hn, _, _, _, _, hsl => ⟨hn, hsl⟩
 | p :: ps, v :: vs, u :: us, sl, tmps, hn, hp, h1, h2, hv, hsl => by
  simp only [List.zip_cons_cons, List.foldl_cons, Rb]
  refine Aql ps vs us ((p, v) :: sl) _ (by simp [hn]) (fun q hq => hp q (by simp [hq])) (by simpa using h1) (by simpa using h2) (fun j v' u' h3 h4 => hv (j + 1) v' u' (by simpa using h3) (by simpa using h4)) fun t => ?_
  have hlt : p < tmps.size := by rw [hn]; exact hp p (by simp)
  simp only [El]
  by_cases e : p = t
  ·subst e
   rw [show (p == p) = true by simp]
   simp only [cond_true]
   rw [Av, Array.getElem?_setIfInBounds_self_of_lt hlt]
   exact hv 0 v u rfl rfl
  rw [show (p == t) = false by simp [e]]
  simp only [cond_false]
  rw [Av, Array.getElem?_setIfInBounds_ne e, <- Av]
  exact hsl t
 | p :: ps, [], us, sl, tmps, hn, hp, h1, h2, hv, hsl => by cases h1
 | p :: ps, v :: vs, [], sl, tmps, hn, hp, h1, h2, hv, hsl => by cases h2
theorem Rel.lay {E : Ent} {β : Nat -> Option Nat} {st : St} {a : Act} {w : World} (r : Rel E β st a w) {o : Obj} (ho : Y9 o = false) :
 Rel { E with kb := fun b => if b = w.heap.size then some o else E.kb b } β st a (w.alloc o) /\ G4 E { E with kb := fun b => if b = w.heap.size then some o else E.kb b } := by
 have hk : Kp (fun _ => False) w (w.alloc o) := ⟨rfl, rfl, rfl, by simp, fun b hb _ => Below.heap_alloc _ _ _ hb⟩
 have r2 := r.grow hk
 have hn : ∀ b o', E.kb b = some o' -> b ≠ w.heap.size := fun b o' h => by
  have := (Aw.1 (r.kb b o' h).1).1
  omega
 refine ⟨⟨r2.sz, r2.sl, r2.df, r2.ob, r2.inj, r2.rng, r2.kp, r2.ct, fun b o' h => ?_, r2.dk.1, fun D hD => ?_⟩, ⟨⟨_, _, rfl⟩, fun b o' h => ?_⟩⟩
 ·have h : (if b = w.heap.size then some o else E.kb b) = some o' := h
  by_cases e : b = w.heap.size
  ·rw [if_pos e] at h
   injection h with h
   subst h
   rw [e]
   exact ⟨World.alloc_heap_new w _, ho⟩
  rw [if_neg e] at h
  exact r2.kb b o' h
 ·have := r2.dk.2 D hD
  exact ⟨by show (if D = w.heap.size then some o else E.kb D) = _; rw [if_neg (hn D _ this.1)]; exact this.1, this.2⟩
 show (if b = w.heap.size then some o else E.kb b) = _
 rw [if_neg (hn b o' h)]
 exact h
theorem Rel.mark {E : Ent} {β : Nat -> Option Nat} {st : St} {a : Act} {w : World} (r : Rel E β st a w) {D : Nat} (hD : E.kb D = some (.deferred (some []))) (hn : D ∉ E.ds) (hge : E.w0.heap.size <= D) :
 Rel { E with ds := D :: E.ds } β st { a with defers := [dmk D] ++ a.defers } w :=
 ⟨r.sz, r.sl, by show [dmk D] ++ a.defers = dmk D :: E.ds.map dmk; rw [r.df]; rfl, r.ob, r.inj, r.rng, r.kp, r.ct, r.kb, List.nodup_cons.2 ⟨hn, r.dk.1⟩, fun D' h => by
  cases h with
  | head => exact ⟨hD, hge⟩
  | tail _ h => exact r.dk.2 D' h⟩
def Aut (c : Code) (e : Exit) : Prop := (c = .ret /\ e = .ret) \/ (∃ id, c = .exit id /\ e = .exit id) \/ ∃ t, c = .goto t /\ e = .goto t
def I8 (k : Nat) (sl : List (Nat × AV)) (o : List Ob) (I : Prop) (K : Exit -> St -> Prop) : Exit -> St -> Prop
 | .normal, s => WkE k s ⟨[], o⟩ /\ I
 | .ret, s => ∃ ob', WkE k s ⟨[], ob'⟩ /\ K .ret ⟨sl, ob'⟩
 | .exit id, s => ∃ ob', WkE k s ⟨[], ob'⟩ /\ K (.exit id) ⟨sl, ob'⟩
 | .goto t, s => ∃ ob', WkE k s ⟨[], ob'⟩ /\ K (.goto t) ⟨sl, ob'⟩
 | _, _ => False
def Ob.liveB : Ob -> Bool
 | .gone => true
 | .box _ _ => true
 | .row _ _ _ fz _ => !fz
theorem Qn {sl : List (Nat × AV)} : ∀ {l : List Ob}, l.all Ob.liveB = true -> ∀ id, (St.mk sl l).o id ≠ .gone -> ((St.mk sl l).o id).live := by
 intro l h id hid
 have hq : (St.mk sl l).o id = l.getD id .gone := rfl
 rw [hq] at hid ⊢
 cases hx : l[id]? with
 | none => rw [Ad, hx] at hid; exact absurd rfl hid
 | some o =>
  rw [Ad, hx] at hid ⊢
  have := Am.1 h o (Ac hx)
  simp only [Bh] at hid ⊢
  cases o with
  | gone => exact absurd rfl hid
  | box ty cs => trivial
  | row ty k fr fz es =>
   simp only [Ob.liveB] at this
   show fz = false
   simpa using this
theorem Fu {k : Nat} {sel : List Nat} (h : sel.take k = List.range k) : ∀ id, id < k -> sel[id]? = some id := fun id hid => by
 have : (sel.take k)[id]? = some id := by rw [h, List.getElem?_range hid]
 rwa [Ag hid] at this
theorem D0 {α β : Type} {g : α -> β} {l : List α} {i : Nat} {y : β} (h : (l.map g)[i]? = some y) : ∃ a, l[i]? = some a /\ g a = y := by
 rw [Ap] at h
 cases hq : l[i]? with
 | none => rw [hq] at h; cases h
 | some a => rw [hq] at h; exact ⟨a, rfl, by simpa using h⟩
attribute [go_sem] Adm Rb
end
section
variable {P : Program} {n m : Nat} {st s' : St} {K : Exit -> St -> Prop} {id : Nat} {l : List Oper} {y : Code}
theorem VW.R (h : VW P n m y s' K) (hr : ∀ K1 : St -> Prop, K1 s' -> runs P (Fy l) st K1 := by intro K k; simp [go_sem]; exact k) (hd : Ff n l = true := by rfl) : VW P n m (.seq (.region id l.toArray false) y) st K := .region_seq hd fun K1 h1 => hr K1 (h1 _ h)
abbrev Bw := @VW.R
theorem VW.R1 (h : K .normal s') (hr : ∀ K1 : St -> Prop, K1 s' -> runs P (Fy l) st K1 := by intro K k; simp [go_sem]; exact k) (hd : Ff n l = true := by rfl) : VW P n m (.region id l.toArray false) st K := .region1 hd fun K1 h1 => hr K1 (h1 _ h)
abbrev Cl := @VW.R1
theorem VW.S (hr : ∀ K1 : St -> Prop, K1 s' -> runs P (Fy l) st K1) (h : VW P n m y s' K) (hd : Ff n l = true := by rfl) : VW P n m (.seq (.region id l.toArray false) y) st K := .region_seq hd fun K1 h1 => hr K1 (h1 _ h)
abbrev Ce := @VW.S
theorem VW.S1 (hr : ∀ K1 : St -> Prop, K1 s' -> runs P (Fy l) st K1) (h : K .normal s') (hd : Ff n l = true := by rfl) : VW P n m (.region id l.toArray false) st K := .region1 hd fun K1 h1 => hr K1 (h1 _ h)
theorem VW.C {c : Operand} {x : Code} (ht : Ew (st.raw c).sv = true -> VW P n m x st K) (hf : Ew (st.raw c).sv = false -> VW P n m y st K) (hb : Hh (st.raw c).sv = true := by simp [go_sem]) (hs : (st.raw c).sb = true := by simp [go_sem]) : VW P n m (.cond c x y) st K := .cond hb hs ht hf
abbrev C7 := @VW.C
theorem VW.Q {c : Operand} {x : Code} {p q : Prop} (ht : p -> VW P n m x st K) (hf : q -> VW P n m y st K) (hp : (Ew (st.raw c).sv = true) = p := by simp [go_sem]; exact Iff.rfl) (hq : (Ew (st.raw c).sv = false) = q := by simp [go_sem]; exact Iff.rfl) (hb : Hh (st.raw c).sv = true := by simp [go_sem]) (hs : (st.raw c).sb = true := by simp [go_sem]) : VW P n m (.cond c x y) st K := .cond hb hs (fun h => ht (hp ▸ h)) fun h => hf (hq ▸ h)
abbrev B7 := @VW.Q
end
section
variable {P : Program} {d : Option Tmp} {ty : TypeId} {os : List VO} {st : St} {K : St -> Prop} {KT : Tr -> St -> Prop} {tr : Tr} {f : FuncId} {args args' Gt : List AV} {bor g : Bool} {σa σr : List Ob} {res : AV} {rd : List Nat}
theorem U5.l (hp : Ei P f [] args' σr res) (h : runs P os (st.after d (res.shift st.ob.length) (Kv st.ob.length 0 σr)) K) (ha : Jn args = args' := by rfl) (hl : bor = true -> res.cln = true /\ σr.all Ob.cln = true := by simp [AV.cln, Ez]) : U5 P f args bor Gt d os st K := .lo hp ha hl h
theorem U4.l (hp : Ei P f [] args' σr res) (h : F8 P os (st.after d (res.shift st.ob.length) (Kv st.ob.length 0 σr)) ((rd, (Kv st.ob.length 0 σr).map (·.1)) :: tr) KT) (ha : Jn args = args' := by rfl) (hl : bor = true -> res.cln = true /\ σr.all Ob.cln = true := by simp [AV.cln, Ez]) : U4 P f args bor Gt d os st rd tr KT := .lo hp ha hl h
theorem Aaa.l (hp : Ei P f [] args' σr res) (h : runs P os (st.after d (.gd g (res.shift st.ob.length)) (bif g then Kv st.ob.length 0 σr else [])) K) (ha : Jn args = args' := by rfl) (hl : bor = true -> res.cln = true /\ σr.all Ob.cln = true := by simp [AV.cln, Ez]) : Aaa P g f args bor d os st K := .lo hp ha hl h
theorem W4.l (hp : Ei P f [] args' σr res) (h : F8 P os (st.after d (.gd g (res.shift st.ob.length)) (bif g then Kv st.ob.length 0 σr else [])) ((rd, (Kv st.ob.length 0 σr).map (·.1)) :: tr) KT) (ha : Jn args = args' := by rfl) (hl : bor = true -> res.cln = true /\ σr.all Ob.cln = true := by simp [AV.cln, Ez]) : W4 P g f args bor d os st rd tr KT := .lo hp ha hl h
theorem U5.o (sel : List Nat) (hp : Ei P f σa args' σr res) (h : runs P os (st.after d (Oy sel st.ob.length σr res).1 (Oy sel st.ob.length σr res).2) K) (hσ : (sel.map fun id => ((st.o id).passR st.o fun id => idx id sel 0).low) = σa := by simp [go_sem]) (ha : Jn (Gu st.o (fun id => idx id sel 0) Gt) = args' := by simp [go_sem]) (hc : Ad0 Gt st sel σr res := by constructor <;> simp [go_sem]) : U5 P f args bor Gt d os st K := .ob sel hp hσ ha hc h
theorem U4.o (sel : List Nat) (hp : Ei P f σa args' σr res) (h : F8 P os (st.after d (Oy sel st.ob.length σr res).1 (Oy sel st.ob.length σr res).2) ((rd, (Oy sel st.ob.length σr res).2.map (·.1)) :: tr) KT) (hσ : (sel.map fun id => ((st.o id).passR st.o fun id => idx id sel 0).low) = σa := by simp [go_sem]) (ha : Jn (Gu st.o (fun id => idx id sel 0) Gt) = args' := by simp [go_sem]) (hc : Ad0 Gt st sel σr res := by constructor <;> simp [go_sem]) : U4 P f args bor Gt d os st rd tr KT := .ob sel hp hσ ha hc h
end
theorem aK {a b : Prop} (hb : b) (ha : a := by intros; (repeat' refine Ax ?_ ?_) <;> omega) : a /\ b := ⟨ha, hb⟩
theorem gx {α : Type} (l : List α) (i : Nat) (h : i < l.length := by first | omega | (simp; omega)) : ∃ e, l[i]? = some e := ⟨_, Aa h⟩
theorem Ar9 {ρ : Nat -> Option Nat} {l l' : List (Nat × AV)} {t : Nat} {c' : AV} : LeS ρ l ((t, c') :: l') = (Le ((El l t).ren ρ) c' /\ LeS ρ l l') := propext ⟨fun h => by cases h with | cons h1 h2 => exact ⟨h1, h2⟩, fun h => .cons h.1 h.2⟩
theorem Ati {ρ : Nat -> Option Nat} {l : List (Nat × AV)} : LeS ρ l [] = True := eq_true .nil
theorem Ath {o : Nat -> Ob} {ρ : Nat -> Option Nat} {id : Nat} {ids : List Nat} {x : Ob} {xs : List Ob} : OL o ρ (id :: ids) (x :: xs) = (Tm ((o id).ren ρ) x /\ OL o ρ ids xs) := propext ⟨fun h => by cases h with | cons h1 h2 => exact ⟨h1, h2⟩, fun h => .cons h.1 h.2⟩
theorem Aus {o : Nat -> Ob} {ρ : Nat -> Option Nat} : OL o ρ [] [] = True := eq_true .nil
attribute [go_sem] Ar9 Ati Ath Aus
section
variable {P : Program} {n m : Nat} {st s' : St} {K : Exit -> St -> Prop} {id : Nat} {l : List Oper} {y : Code}
theorem VW.H {p : Prop} (e : p) (h : VW P n m y s' K) (hr : ∀ K1 : St -> Prop, p -> K1 s' -> runs P (Fy l) st K1 := by intro K e k; simp [go_sem, e]; (repeat first | exact k | refine aK ?_)) (hd : Ff n l = true := by rfl) : VW P n m (.seq (.region id l.toArray false) y) st K := .region_seq hd fun K1 h1 => hr K1 e (h1 _ h)
theorem VW.L {p : Prop} {f : FuncId} {args : List AV} {σr : List Ob} {res : AV} (e : p) (c : Ei P f [] args σr res) (h : VW P n m y s' K) (hr : ∀ K1 : St -> Prop, p -> Ei P f [] args σr res -> K1 s' -> runs P (Fy l) st K1 := by intro K e c k; simp [go_sem, e]; (repeat refine aK ?_); refine .l c ?_; simp [go_sem, e]; (repeat first | exact k | refine aK ?_)) (hd : Ff n l = true := by rfl) : VW P n m (.seq (.region id l.toArray false) y) st K := .region_seq hd fun K1 h1 => hr K1 e c (h1 _ h)
abbrev Df := @VW.L
theorem VW.H1 {p : Prop} (e : p) (h : K .normal s') (hr : ∀ K1 : St -> Prop, p -> K1 s' -> runs P (Fy l) st K1 := by intro K e k; simp [go_sem, e]; (repeat first | exact k | refine aK ?_)) (hd : Ff n l = true := by rfl) : VW P n m (.region id l.toArray false) st K := .region1 hd fun K1 h1 => hr K1 e (h1 _ h)
theorem VW.L1 {p : Prop} {f : FuncId} {args : List AV} {σr : List Ob} {res : AV} (e : p) (c : Ei P f [] args σr res) (h : K .normal s') (hr : ∀ K1 : St -> Prop, p -> Ei P f [] args σr res -> K1 s' -> runs P (Fy l) st K1 := by intro K e c k; simp [go_sem, e]; (repeat refine aK ?_); refine .l c ?_; simp [go_sem, e]; (repeat first | exact k | refine aK ?_)) (hd : Ff n l = true := by rfl) : VW P n m (.region id l.toArray false) st K := .region1 hd fun K1 h1 => hr K1 e c (h1 _ h)
theorem wk {sl sl' : List (Nat × AV)} {ob ob' : List Ob} {p : Prop} (e : p) (sel : List Nat) (h1 : p -> LeS (fun id => idx id sel 0) sl sl' := by intro e; simp [go_sem, e]) (h2 : p -> OL (fun i => ob.getD i .gone) (fun id => idx id sel 0) sel ob' := by intro e; simp [go_sem, e]) (hnd : sel.Nodup := by decide) (hs : ∀ id, id < m -> sel[id]? = some id := by first | exact Fu rfl | simp) : WkE m ⟨sl, ob⟩ ⟨sl', ob'⟩ := ⟨sel, Ds hnd (h1 e) (h2 e), hs⟩
end
theorem ok0 : True := trivial
theorem cj2 {a b : Prop} (ha : a) (hb : b) : a /\ b := ⟨ha, hb⟩
theorem cj3 {a b c : Prop} (ha : a) (hb : b) (hc : c) : a /\ b /\ c := ⟨ha, hb, hc⟩
theorem cj4 {a b c d : Prop} (ha : a) (hb : b) (hc : c) (hd : d) : a /\ b /\ c /\ d := ⟨ha, hb, hc, hd⟩
theorem cj5 {a b c d e : Prop} (ha : a) (hb : b) (hc : c) (hd : d) (he : e) : a /\ b /\ c /\ d /\ e := ⟨ha, hb, hc, hd, he⟩
theorem cj6 {a b c d e f : Prop} (ha : a) (hb : b) (hc : c) (hd : d) (he : e) (hf : f) : a /\ b /\ c /\ d /\ e /\ f := ⟨ha, hb, hc, hd, he, hf⟩
section
variable {P : Program} {n m : Nat} {st s' : St} {K : Exit -> St -> Prop} {y : Code}
theorem rL {rs : List ResultVar} {res : AV} {p : Prop} (e : p) (h : p -> ((J0 P st rs).ren fun _ => none).low = res := by intro e; simp [go_sem, e]) (hc : Tl P st rs := by simp [go_sem]) : P0 P 0 rs [] res .ret st := Am7 hc (h e)
theorem rW {sl : List (Nat × AV)} {ob : List Ob} {rs : List ResultVar} {σr : List Ob} {res : AV} {p : Prop} (e : p) (sel : List Nat) (hc : Tl P ⟨sl, ob⟩ rs := by simp [go_sem]) (hnd : sel.Nodup := by decide) (hm : ∀ id, id < m -> sel[id]? = some id := by first | exact Fu rfl | simp) (h : p -> ((J0 P ⟨sl, ob⟩ rs).ren fun id => idx id sel 0).low = res := by intro e; simp [go_sem, e]) (ho : p -> OL (fun i => ob.getD i .gone) (fun id => idx id sel 0) sel σr := by intro e; simp [go_sem, e]) : P0 P m rs σr res .ret ⟨sl, ob⟩ := Ry sel hc hnd hm (h e) (ho e)
end
theorem Eb {P : Program} {f : FuncId} {fn : Func} {c : Code} {args : List AV} {σa σr : List Ob} {res : AV} {rs : List ResultVar} (hf : P.funcs[f]? = some fn) (h : VW P fn.ntmps σa.length c ⟨Hc 0 args, σa⟩ (P0 P σa.length rs σr res)) (hb : fn.body = some c := by rfl) (hn : (fn.name == "runtime.NumGoroutine") = false := by rfl) (hrs : fn.results = rs.toArray := by rfl) (hk : args.length <= fn.ntmps := by exact Nat.le_of_ble_eq_true rfl) : Ei P f σa args σr res := Abm hf hb hn hrs hk h
section
variable {P : Program} {n m : Nat} {st s' : St} {K : Exit -> St -> Prop} {id : Nat} {l : List Oper} {y : Code}
theorem VW.D {tr : Tr} (h : VW P n m y s' K) (hr : ∀ K1 : Tr -> St -> Prop, K1 tr s' -> F8 P (Fy l) st [] K1 := by intro K k; simp [go_sem]; exact k) (hm : P.follows .mixedOrders = true := by kernel_rfl) (hd : Ff n l = true := by rfl) (hs : Iu l = true := by kernel_rfl) (hi : P7 l tr = true := by kernel_rfl) : VW P n m (.seq (.region id l.toArray true) y) st K := .draw_seq hm hd hs fun K1 h1 => hr K1 (h1 _ _ hi h)
theorem VW.E {tr : Tr} (hr : ∀ K1 : Tr -> St -> Prop, K1 tr s' -> F8 P (Fy l) st [] K1) (h : VW P n m y s' K) (hm : P.follows .mixedOrders = true := by kernel_rfl) (hd : Ff n l = true := by rfl) (hs : Iu l = true := by kernel_rfl) (hi : P7 l tr = true := by kernel_rfl) : VW P n m (.seq (.region id l.toArray true) y) st K := .draw_seq hm hd hs fun K1 h1 => hr K1 (h1 _ _ hi h)
theorem VW.E1 {tr : Tr} (hr : ∀ K1 : Tr -> St -> Prop, K1 tr s' -> F8 P (Fy l) st [] K1) (h : K .normal s') (hm : P.follows .mixedOrders = true := by kernel_rfl) (hd : Ff n l = true := by rfl) (hs : Iu l = true := by kernel_rfl) (hi : P7 l tr = true := by kernel_rfl) : VW P n m (.region id l.toArray true) st K := .draw1 hm hd hs fun K1 h1 => hr K1 (h1 _ _ hi h)
theorem VW.G {tr : Tr} {p : Prop} (e : p) (h : VW P n m y s' K) (hr : ∀ K1 : Tr -> St -> Prop, p -> K1 tr s' -> F8 P (Fy l) st [] K1 := by intro K e k; simp [go_sem, e]; (repeat first | exact k | refine aK ?_)) (hm : P.follows .mixedOrders = true := by kernel_rfl) (hd : Ff n l = true := by rfl) (hs : Iu l = true := by kernel_rfl) (hi : P7 l tr = true := by kernel_rfl) : VW P n m (.seq (.region id l.toArray true) y) st K := .draw_seq hm hd hs fun K1 h1 => hr K1 e (h1 _ _ hi h)
theorem VW.G1 {tr : Tr} {p : Prop} (e : p) (h : K .normal s') (hr : ∀ K1 : Tr -> St -> Prop, p -> K1 tr s' -> F8 P (Fy l) st [] K1 := by intro K e k; simp [go_sem, e]; (repeat first | exact k | refine aK ?_)) (hm : P.follows .mixedOrders = true := by kernel_rfl) (hd : Ff n l = true := by rfl) (hs : Iu l = true := by kernel_rfl) (hi : P7 l tr = true := by kernel_rfl) : VW P n m (.region id l.toArray true) st K := .draw1 hm hd hs fun K1 h1 => hr K1 e (h1 _ _ hi h)
theorem VW.M {tr : Tr} {p : Prop} {f : FuncId} {args : List AV} {σr : List Ob} {res : AV} (e : p) (c : Ei P f [] args σr res) (h : VW P n m y s' K) (hr : ∀ K1 : Tr -> St -> Prop, p -> Ei P f [] args σr res -> K1 tr s' -> F8 P (Fy l) st [] K1 := by intro K e c k; simp [go_sem, e]; (repeat refine aK ?_); refine .l c ?_; simp [go_sem, e]; (repeat first | exact k | refine aK ?_)) (hm : P.follows .mixedOrders = true := by kernel_rfl) (hd : Ff n l = true := by rfl) (hs : Iu l = true := by kernel_rfl) (hi : P7 l tr = true := by kernel_rfl) : VW P n m (.seq (.region id l.toArray true) y) st K := .draw_seq hm hd hs fun K1 h1 => hr K1 e c (h1 _ _ hi h)
theorem VW.M1 {tr : Tr} {p : Prop} {f : FuncId} {args : List AV} {σr : List Ob} {res : AV} (e : p) (c : Ei P f [] args σr res) (h : K .normal s') (hr : ∀ K1 : Tr -> St -> Prop, p -> Ei P f [] args σr res -> K1 tr s' -> F8 P (Fy l) st [] K1 := by intro K e c k; simp [go_sem, e]; (repeat refine aK ?_); refine .l c ?_; simp [go_sem, e]; (repeat first | exact k | refine aK ?_)) (hm : P.follows .mixedOrders = true := by kernel_rfl) (hd : Ff n l = true := by rfl) (hs : Iu l = true := by kernel_rfl) (hi : P7 l tr = true := by kernel_rfl) : VW P n m (.region id l.toArray true) st K := .draw1 hm hd hs fun K1 h1 => hr K1 e c (h1 _ _ hi h)
end
end Go.Proofs.YtkkimgjinbaemaaGreat
