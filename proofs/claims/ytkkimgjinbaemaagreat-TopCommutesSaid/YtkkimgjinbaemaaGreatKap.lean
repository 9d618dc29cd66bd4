/- The walk. -/
import Derived.Test.YtkkimgjinbaemaaGreatKao
namespace Go.Proofs.YtkkimgjinbaemaaGreat
open Go.RowKit
set_option linter.unusedVariables false
set_option linter.unusedSimpArgs false
set_option maxRecDepth 100000
set_option maxHeartbeats 4000000
section
variable {P : Program} {n m : Nat} {st : St} {K : Exit -> St -> Prop}
theorem Yk (d : Nat) {ty el : TypeId} {A : Option Addr} {nn c : Nat} {w : World} (hu : P.underlying ty = some (.slice el)) : (Op.equalIn (d + 1) ty (.slice A nn c) (.slice none 0 0)).run P w = .ok A.isNone w := by
 cases A <;> simp [Op.equalIn, run_underlying hu]
theorem VW.isnil {id d1 d2 t0 : Nat} {ty : TypeId} {p1 p2 : String} {a1 a2 : Array Edge} {ty2 : TypeId} {y : Code} {fr : Bool} {k : Nat} {es : List (List T)} (ht : Ce st.sl t0 = .imm fr k es) (h1 : d1 < n) (h2 : d2 < n)
 (hs : Ex P ty = true) (hn : es = [] -> VW P n m y ((st.put (some d1) (.imm fr k es)).put (some d2) (.lit (.bool true))) K) (hy : VW P n m y ((st.put (some d1) (.imm fr k es)).put (some d2) (.lit (.bool false))) K) :
  VW P n m (.seq (.region id #[⟨some d1, .move (.tmp t0), ty, p1, a1, none⟩, ⟨some d2, .binOp .eql ty (.tmp d1) (.const (.slice none 0 0)) ty, ty2, p2, a2, none⟩] false) y) st K := by
 refine .seq fun E F hE hF β a w r => ?_
 refine wpIn_region_lit (l := [⟨some d1, .move (.tmp t0), ty, p1, a1, none⟩, ⟨some d2, .binOp .eql ty (.tmp d1) (.const (.slice none 0 0)) ty, ty2, p2, a2, none⟩]) ?_
 have hr := r.sl t0
 rw [ht] at hr
 have r1 := r.put hr (some d1) (fun x hx => by injection hx with hx; subst hx; rw [hE.1]; exact h1)
 have hu := Cy hs
 have hsz : d1 < a.tmps.size := by rw [r.sz, hE.1]; exact h1
 have hcase : ∃ A nn c, a.tmps.getD t0 undef = .slice A nn c /\ (A = none -> es = []) := by
  generalize a.tmps.getD t0 undef = u at hr
  cases hr with
  | imm fr k es u h => cases h with
   | nil k A c => exact ⟨A, 0, c, rfl, fun _ => rfl⟩
   | sl k es b off c cur ty fz us => exact ⟨_, _, c, rfl, fun e => by cases e⟩
 obtain ⟨A, nn, c, hu0, hA⟩ := hcase
 refine wpListIn_plain rfl fun K1 hK1 => Na hF (by intro c h; cases h) ?_
 have e1 : (execOp a.eval ⟨some d1, .move (.tmp t0), ty, p1, a1, none⟩).run P w = .ok (.value (a.tmps.getD t0 undef)) w := rfl
 unfold Oper.wp
 rw [e1]
 refine hK1 _ _ ?_
 refine wpListIn_plain rfl fun K2 hK2 => Na hF (by intro c h; cases h) ?_
 have e2 : (execOp (a.put (some d1) (a.tmps.getD t0 undef)).eval ⟨some d2, .binOp .eql ty (.tmp d1) (.const (.slice none 0 0)) ty, ty2, p2, a2, none⟩).run P w = .ok (.value (.bool A.isNone)) w := by
  have e3 : (a.put (some d1) (a.tmps.getD t0 undef)).eval (.tmp d1) = .slice A nn c := by
   simp only [Act.eval, Act.put]
   rw [<- hu0, Av, Array.getElem?_setIfInBounds_self_of_lt hsz]; rfl
  have e6 : (a.put (some d1) (a.tmps.getD t0 undef)).eval (.const (.slice none 0 0)) = .slice none 0 0 := rfl
  simp only [execOp, e3, e6]
  have e4 : (eqGuard .eql ty (.tmp d1) (.const (.slice none 0 0)) (.slice A nn c) (.slice none 0 0)).run P w = .ok () w := rfl
  have e5 : (binOp .eql ty (.slice A nn c) (.slice none 0 0)).run P w = .ok (.bool A.isNone) w := by
   have : binOp .eql ty (.slice A nn c) (.slice none 0 0) = (do pure (.bool (<- Op.equal ty (.slice A nn c) (.slice none 0 0)))) := rfl
   have e7 : (Op.equal ty (.slice A nn c) (.slice none 0 0)).run P w = .ok A.isNone w := Yk 9999 hu
   rw [this]
   simp only [Sem.run_bind, e7, Result.andThen_ok, Sem.run_pure]
  simp only [Sem.run_bind, e4, e5, Result.andThen_ok, Sem.run_pure]
 unfold Oper.wp
 rw [e2]
 refine hK2 _ _ ?_
 have r2 := fun b : Bool => r1.put (v := .lit (.bool b)) (u := .bool b) (.lit _) (some d2) (fun x hx => by injection hx with hx; subst hx; rw [hE.1]; exact h2)
 cases hb : A with
 | none => exact ⟨E, _, β, Ej.refl E, hn (hA hb), r2 true⟩
 | some x => exact ⟨E, _, β, Ej.refl E, hy, r2 false⟩
end
def Akz : Ob -> Bool
 | .row _ _ _ fz _ => fz
 | _ => false
def St.fresh (st : St) (id : Nat) : St := st.set id (.row (U5 (st.o id)) (O2 (st.o id)) true (Akz (st.o id)) (Ik (st.o id)))
section
variable {P : Program} {n m : Nat} {st : St} {K : Exit -> St -> Prop} {c : Code}
theorem VW.fresh (id : Nat) (h : Db (st.o id) = true) (hp : (Ik (st.o id)).all (fun e => e.all T.plain) = true) (hv : VW P n m c (st.fresh id) K) : VW P n m c st K := fun E F hE hF β a w r => by
 refine hv E F hE hF β a w ?_
 unfold St.fresh
 cases hq : st.o id with
 | row ty k fr fz es =>
  rw [hq] at hp
  exact (r.flag hq (fun _ => .inr hp) fun e => e).1
 | _ => rw [hq] at h; exact absurd h (by simp [Db])
theorem VX.fresh (id : Nat) (h : Db (st.o id) = true) (hp : (Ik (st.o id)).all (fun e => e.all T.plain) = true) (hv : VX P n m c (st.fresh id) K) : VX P n m c st K := by
 obtain ⟨e, s, h1, h2⟩ := hv
 exact ⟨e, s, .fresh id h hp h1, h2⟩
end
theorem Aot {sl : List (Nat × AV)} {ob : List Ob} {id : Nat} : (St.mk sl ob).fresh id = St.mk sl (Ly ob id (.row (U5 (ob.getD id .gone)) (O2 (ob.getD id .gone)) true (Akz (ob.getD id .gone)) (Ik (ob.getD id .gone)))) := rfl
theorem Lz {P : Program} {st : St} {rs : List ResultVar} {res : AV} {o : Ob} (hc : S9 P st rs) (h : Le ((Jk P st rs).ren fun id => idx id [0] 0) res) (ho : Sm ((st.o 0).ren fun id => idx id [0] 0) o) : Pu P 0 rs [o] res .ret st :=
 ⟨.inr rfl, hc, [0], ⟨.cons h .nil, fun j hj => by
  have : j = 0 := by simpa using hj
  subst this
  exact ho, rfl, by simp⟩, fun id hid => by omega⟩
theorem Are {sl : List (Nat × AV)} {ob : List Ob} {d : Tmp} {v : AV} : (St.mk sl ob).put (some d) v = ⟨(d, v) :: sl, ob⟩ := rfl
theorem Ard {sl : List (Nat × AV)} {ob : List Ob} {i : Nat} {x : Ob} : (St.mk sl ob).set i x = ⟨sl, Ly ob i x⟩ := rfl
theorem Anm {o : Nat -> Ob} {id n : Nat} : (AV.own id n).melt o = match o id with | .row _ k fr true es => if n = es.length then .imm fr k es else .own id n | _ => .own id n := rfl
theorem Ap4 {sl : List (Nat × AV)} {ob : List Ob} : (St.mk sl ob).melt = ⟨Xl (fun i => ob.getD i .gone) sl, Xm (fun i => ob.getD i .gone) ob⟩ := rfl
theorem Al0 {sl : List (Nat × AV)} {ob : List Ob} {id : Nat} : (St.mk sl ob).freeze id = (St.mk sl (Ly ob id (.row (U5 (ob.getD id .gone)) (O2 (ob.getD id .gone)) (Am6 (ob.getD id .gone)) true (Ik (ob.getD id .gone))))).melt := rfl
attribute [go_sem] Hh AV.pass Ha AV.passC Ql AV.bor AV.shift Lc Ob.shift Hr AV.cln Cp Ob.cln Ob.ren idx Aot Akz Are Ard Ap4 Al0 Xl Xm Ob.melt Anm AV.melt Of U5 Am6
section
variable {P : Program} {d : Option Tmp} {ty : TypeId} {os : List VO} {st : St} {K : St -> Prop} {KT : Tr -> St -> Prop} {tr : Tr}
def Aod (v : AV) (F : FuncId -> List AV -> Prop) : Prop := match v with
 | .fn f caps => F f caps
 | _ => False
theorem Aoc {f : FuncId} {caps : List AV} {F : FuncId -> List AV -> Prop} : Aod (.fn f caps) F = F f caps := rfl
structure Pw (P : Program) (f : FuncId) (args : List AV) (bor : Bool) (Dt : List AV) (d : Option Tmp) (os : List VO) (st : St) (K : St -> Prop) : Prop where
  ex : (∃ σr res, B8 P f [] args σr res /\ (bor = true -> res.cln = true /\ σr.all Ob.cln = true) /\ runs P os (st.after d (res.shift st.ob.length) (Hr st.ob.length 0 σr)) K) \/
    ∃ sel σr res, Tw P f Dt st.o st.ob.length sel σr res /\ runs P os (st.after d (J2 sel st.ob.length σr res).1 (J2 sel st.ob.length σr res).2) K
structure Pv (P : Program) (f : FuncId) (args : List AV) (bor : Bool) (Dt : List AV) (d : Option Tmp) (os : List VO) (st : St) (rd : List Nat) (tr : Tr) (K : Tr -> St -> Prop) : Prop where
  ex : (∃ σr res, B8 P f [] args σr res /\ (bor = true -> res.cln = true /\ σr.all Ob.cln = true) /\ Dj P os (st.after d (res.shift st.ob.length) (Hr st.ob.length 0 σr)) ((rd, (Hr st.ob.length 0 σr).map (·.1)) :: tr) K) \/
    ∃ sel σr res, Tw P f Dt st.o st.ob.length sel σr res /\ Dj P os (st.after d (J2 sel st.ob.length σr res).1 (J2 sel st.ob.length σr res).2) ((rd, (J2 sel st.ob.length σr res).2.map (·.1)) :: tr) K
theorem Aow {fo : Operand} {xs : List Operand} {ts : Array TypeId} : Aox P d (.call ⟨.value fo, xs.toArray, ts⟩) ty os st K = (((st.raw fo).sb = true /\ (xs.all fun x => (st.raw x).sb) = true) /\
 Aod (st.raw fo).sv fun f caps => Ha st.o (xs.map (fun x => (st.raw x).sv) ++ caps) /\ Pw P f (Hh st.o (xs.map (fun x => (st.raw x).sv) ++ caps)) (Ql (xs.map (fun x => (st.raw x).sv) ++ caps)) (xs.map (fun x => (st.raw x).sv) ++ caps) d os st K) := by
 apply propext
 constructor
 ·rintro ⟨e, ⟨h1, ⟨f, caps, σr, res, h2, h3, h4, h5, rfl⟩ | ⟨f, caps, sel, σr, res, h2, h3, rfl⟩⟩, h6⟩
  ·exact ⟨h1, by rw [h2]; exact ⟨h4, ⟨.inl ⟨σr, res, h3, h5, h6⟩⟩⟩⟩
  exact ⟨h1, by rw [h2]; exact ⟨h3.args, ⟨.inr ⟨sel, σr, res, h3, h6⟩⟩⟩⟩
 rintro ⟨h1, h2⟩
 cases hv : (st.raw fo).sv with
 | fn f caps =>
  rw [hv] at h2
  rcases h2 with ⟨h4, ⟨⟨σr, res, h3, h5, h6⟩ | ⟨sel, σr, res, h3, h6⟩⟩⟩
  ·exact ⟨_, ⟨h1, .inl ⟨f, caps, σr, res, hv, h3, h4, h5, rfl⟩⟩, h6⟩
  exact ⟨_, ⟨h1, .inr ⟨f, caps, sel, σr, res, hv, h3, rfl⟩⟩, h6⟩
 | _ => rw [hv] at h2; exact h2.elim
theorem Al1 {fo : Operand} {xs : List Operand} {ts : Array TypeId} : Ajo P d (.call ⟨.value fo, xs.toArray, ts⟩) ty os st tr KT = (((st.raw fo).sb = true /\ (xs.all fun x => (st.raw x).sb) = true) /\
 Aod (st.raw fo).sv fun f caps => Ha st.o (xs.map (fun x => (st.raw x).sv) ++ caps) /\ Pv P f (Hh st.o (xs.map (fun x => (st.raw x).sv) ++ caps)) (Ql (xs.map (fun x => (st.raw x).sv) ++ caps)) (xs.map (fun x => (st.raw x).sv) ++ caps) d os st (Cs (.call ⟨.value fo, xs.toArray, ts⟩) st) tr KT) := by
 apply propext
 constructor
 ·rintro ⟨e, ⟨h1, ⟨f, caps, σr, res, h2, h3, h4, h5, rfl⟩ | ⟨f, caps, sel, σr, res, h2, h3, rfl⟩⟩, h6⟩
  ·exact ⟨h1, by rw [h2]; exact ⟨h4, ⟨.inl ⟨σr, res, h3, h5, h6⟩⟩⟩⟩
  exact ⟨h1, by rw [h2]; exact ⟨h3.args, ⟨.inr ⟨sel, σr, res, h3, h6⟩⟩⟩⟩
 rintro ⟨h1, h2⟩
 cases hv : (st.raw fo).sv with
 | fn f caps =>
  rw [hv] at h2
  rcases h2 with ⟨h4, ⟨⟨σr, res, h3, h5, h6⟩ | ⟨sel, σr, res, h3, h6⟩⟩⟩
  ·exact ⟨_, ⟨h1, .inl ⟨f, caps, σr, res, hv, h3, h4, h5, rfl⟩⟩, h6⟩
  exact ⟨_, ⟨h1, .inr ⟨f, caps, sel, σr, res, hv, h3, rfl⟩⟩, h6⟩
 | _ => rw [hv] at h2; exact h2.elim
theorem Aht {op : Op} {want : Bool} {v : AV} (hv : F7 v.sv = true /\ (v.sb && (C4 v.sv == want)) = true) (h : ∃ e : AV × List (Nat × Ob), Qq P op ty st st.ob.length e /\ runs P os (st.after d (.gd true e.1) e.2) K) : Wx P d op ty v want os st K := by
 obtain ⟨e, h1, h2⟩ := h
 exact ⟨hv.1, e, fun _ => h1, by rw [hv.2]; exact h2⟩
theorem Vq {op : Op} {want : Bool} {v : AV} (hv : F7 v.sv = true /\ (v.sb && (C4 v.sv == want)) = false) (h : runs P os (st.after d (.gd false .any) []) K) : Wx P d op ty v want os st K :=
 ⟨hv.1, (.any, []), (fun hb => by rw [hv.2] at hb; cases hb), by rw [hv.2]; exact h⟩
theorem Pw.by {f : FuncId} {args args' Dt : List AV} {bor : Bool} {σr : List Ob} {res : AV} (hp : B8 P f [] args' σr res) (ha : LeL args args') (hl : bor = true -> res.cln = true /\ σr.all Ob.cln = true) (h : runs P os (st.after d (res.shift st.ob.length) (Hr st.ob.length 0 σr)) K) : Pw P f args bor Dt d os st K := ⟨.inl ⟨σr, res, hp.le ha, hl, h⟩⟩
theorem Pv.by {f : FuncId} {args args' Dt : List AV} {bor : Bool} {σr : List Ob} {res : AV} {rd : List Nat} (hp : B8 P f [] args' σr res) (ha : LeL args args') (hl : bor = true -> res.cln = true /\ σr.all Ob.cln = true) (h : Dj P os (st.after d (res.shift st.ob.length) (Hr st.ob.length 0 σr)) ((rd, (Hr st.ob.length 0 σr).map (·.1)) :: tr) KT) : Pv P f args bor Dt d os st rd tr KT := ⟨.inl ⟨σr, res, hp.le ha, hl, h⟩⟩
end
attribute [go_sem] Aow Al1 Aoc List.append_nil List.nil_append List.cons_append
theorem B8.froz {P : Program} {f : FuncId} {args : List AV} {ty k : Nat} {fr fz : Bool} {es : List (List T)} (h : B8 P f [] args [.row ty k fr fz es] (.own 0 es.length)) : B8 P f [] args [] (.imm fr k es) := by
 refine ⟨h.1, fun E β us hn ho hβ r => (h.2 E β us hn ho hβ r).mono ?_⟩
 rintro e w' ⟨v, β', rfl, r1⟩
 have r2 := (r1.freeze (id := 0) (ty := ty) (k := k) (fr := fr) (fz := fz) (es := es) rfl).1.melt
 obtain ⟨β2, r3⟩ := r2.weak (sel := []) (st' := ⟨[(0, .imm fr k es)], []⟩) ⟨.cons (by simp [St.melt, St.set, Ly, St.o, Xl, Ce, AV.melt, AV.ren]; exact Le.refl _) .nil, fun j hj => by simp at hj, rfl, List.nodup_nil⟩ fun id hid => absurd (by show E.o0 id = _; rw [ho]; simp [St.o]) hid
 exact ⟨v, β2, rfl, r3⟩
inductive OL (o : Nat -> Ob) (ρ : Nat -> Option Nat) : List Nat -> List Ob -> Prop
  | nil : OL o ρ [] []
  | cons {id : Nat} {ids : List Nat} {x : Ob} {xs : List Ob} : Sm ((o id).ren ρ) x -> OL o ρ ids xs -> OL o ρ (id :: ids) (x :: xs)
theorem OL.out {o : Nat -> Ob} {ρ : Nat -> Option Nat} {ids : List Nat} {xs : List Ob} (h : OL o ρ ids xs) : xs.length = ids.length /\ ∀ j, j < ids.length -> Sm ((o (ids.getD j 0)).ren ρ) (xs.getD j .gone) := by
 induction h with
 | nil => exact ⟨rfl, fun j hj => by simp at hj⟩
 | cons h1 _ ih =>
  refine ⟨by simp [ih.1], fun j hj => ?_⟩
  cases j with
  | zero => exact h1
  | succ j => simpa using ih.2 j (by simpa using hj)
theorem Bp {sl sl' : List (Nat × AV)} {ob ob' : List Ob} {sel : List Nat} (hnd : sel.Nodup) (h1 : LeS (fun id => idx id sel 0) sl sl') (h2 : OL (fun i => ob.getD i .gone) (fun id => idx id sel 0) sel ob') : Acf ⟨sl, ob⟩ sel ⟨sl', ob'⟩ :=
 ⟨h1, fun j hj => h2.out.2 j hj, h2.out.1, hnd⟩
def WkE (m : Nat) (s s' : St) : Prop := ∃ sel, Acf s sel s' /\ ∀ id, id < m -> sel[id]? = some id
theorem Qn {c : AV} : Le c c = True := by simp [Le.refl]
theorem Al2 {o : Ob} : Sm o o = True := by simp [Sm.refl]
theorem Aoy {ty k : Nat} {fr fz fr' fz' : Bool} {es : List (List T)} : Sm (.row ty k fr fz es) (.row ty k fr' fz' es) = ((fr' = true -> fr = true) /\ (fz' = false -> fz = false)) := by
 apply propext
 constructor
 ·intro h; cases h with | row h1 h2 => exact ⟨h1, h2⟩
 rintro ⟨h1, h2⟩; exact .row h1 h2
attribute [go_sem] Qn Al2 Aoy
section
variable {P : Program} {n m : Nat} {st : St} {K : Exit -> St -> Prop} {c : Code}
theorem VW.wkE {s' : St} (h : WkE m st s') (hv : VW P n m c s' K) : VW P n m c st K := by
 obtain ⟨sel, h1, h2⟩ := h
 exact .weak h1 h2 hv
theorem VX.wkE {s' : St} (h : WkE m st s') (hv : VX P n m c s' K) : VX P n m c st K := by
 obtain ⟨sel, h1, h2⟩ := h
 exact .weak h1 h2 hv
theorem VW.loop_w (I : Nat -> St -> Prop) (h0 : ∃ z, Afb m st (I z)) (round : ∀ z s, I z s -> VW P n m c s (Exit.vthen (fun s' => ∃ z', z' < z /\ Afb m s' (I z')) K)) : VW P n m (.loop c) st K := by
 obtain ⟨z, h0⟩ := h0
 refine .loop (fun z s => Afb m s (I z)) z h0 fun z s ⟨sel, s', h1, h2, h3⟩ => ?_
 exact .weak h1 h2 (round z s' h3)
theorem VW.range (N : Nat) (f : Nat -> St) (h0 : WkE m st (f 0)) (round : ∀ i, i <= N -> VW P n m c (f i) (Exit.vthen (fun s' => i < N /\ WkE m s' (f (i + 1))) K)) : VW P n m (.loop c) st K := by
 obtain ⟨sel, h1, h2⟩ := h0
 refine .loop_w (fun z s => ∃ i, i + z = N /\ s = f i) ⟨N, sel, f 0, h1, h2, 0, by omega, rfl⟩ ?_
 rintro z s ⟨i, hi, rfl⟩
 refine (round i (by omega)).mono fun e s => ?_
 cases e with
 | normal =>
  rintro ⟨h3, sel, h4, h5⟩
  exact ⟨z - 1, by omega, sel, _, h4, h5, i + 1, by omega, rfl⟩
 | _ => exact fun h => h
theorem VX.range (N : Nat) (f : Nat -> St) (h0 : WkE m st (f 0)) (round : ∀ i, i <= N -> VX P n m c (f i) (Exit.vthen (fun s' => i < N /\ WkE m s' (f (i + 1))) K)) : VX P n m (.loop c) st K := by
 obtain ⟨sel, h1, h2⟩ := h0
 refine .loop_w (fun z s => ∃ i, i + z = N /\ s = f i) ⟨N, sel, f 0, h1, h2, 0, by omega, rfl⟩ ?_
 rintro z s ⟨i, hi, rfl⟩
 refine (round i (by omega)).mono fun e s => ?_
 cases e with
 | normal =>
  rintro ⟨h3, sel, h4, h5⟩
  exact ⟨z - 1, by omega, sel, _, h4, h5, i + 1, by omega, rfl⟩
 | _ => exact fun h => h
theorem VW.region1 {id : Nat} {l : List Oper} (hd : Cw n l = true) (h : ∀ K1 : St -> Prop, (∀ s, K .normal s -> K1 s) -> runs P (Dg l) st K1) : VW P n m (.region id l.toArray false) st K := .region hd (h _ fun _ h => h)
end
mutual
def AV.low : AV -> AV
 | .imm _ k es => .imm false k es
 | .nil k => .imm false k []
 | .iptr _ cs off => .iptr false cs off
 | .agg cs => .agg (Gk cs)
 | .tup cs => .tup (Gk cs)
 | .fn f cs => .fn f (Gk cs)
 | .any => .any
 | .lit v => .lit v
 | .own id n => .own id n
 | .sub id n lo m => .sub id n lo m
 | .ptr id off => .ptr id off
 | .rptr id n i off => .rptr id n i off
 | .bsl id n => .bsl id n
 | .gd t v => .gd t v
def Gk : List AV -> List AV
 | [] => []
 | c :: cs => c.low :: Gk cs
end
theorem Le.iptr (fr : Bool) (cs : List T) (off : Nat) : Le (.iptr fr cs off) (.iptr false cs off) := fun C u h => by
 cases h with
 | iptr fr cs off b o cur ty fz us h1 h2 h3 => exact .iptr _ _ _ _ _ _ _ _ us h1 (VC.S_weak h2) fun j x hx => ⟨(h3 j x hx).1, VC.T_weak (h3 j x hx).2 fun e => by cases e⟩
theorem Le.fn {f : FuncId} {cs cs' : List AV} (h : LeL cs cs') : Le (.fn f cs) (.fn f cs') := fun C u hr => by
 cases hr with
 | fn f cs us h1 h2 =>
  refine .fn _ _ _ (by rw [<- h.length]; exact h1) fun i c u hc hu => ?_
  obtain ⟨c0, g1, g2⟩ := h.get hc
  exact g2 C u (h2 i c0 u g1 hu)
mutual
theorem Le.low : ∀ (c : AV), Le c c.low
 | .imm fr k es => by simp only [AV.low]; exact Le.imm (fun e => by cases e) k es
 | .nil k => by simp only [AV.low]; exact Le.nil k false k
 | .iptr fr cs off => by simp only [AV.low]; exact Le.iptr fr cs off
 | .agg cs => by simp only [AV.low]; exact Le.agg (LeL.low cs)
 | .tup cs => by simp only [AV.low]; exact Le.tup (LeL.low cs)
 | .fn f cs => by simp only [AV.low]; exact Le.fn (LeL.low cs)
 | .any => by simp only [AV.low]; exact Le.refl _
 | .lit v => by simp only [AV.low]; exact Le.refl _
 | .own id n => by simp only [AV.low]; exact Le.refl _
 | .sub id n lo m => by simp only [AV.low]; exact Le.refl _
 | .ptr id off => by simp only [AV.low]; exact Le.refl _
 | .rptr id n i off => by simp only [AV.low]; exact Le.refl _
 | .bsl id n => by simp only [AV.low]; exact Le.refl _
 | .gd t v => by simp only [AV.low]; exact Le.refl _
theorem LeL.low : ∀ (cs : List AV), LeL cs (Gk cs)
 | [] => .nil
 | c :: cs => .cons (Le.low c) (LeL.low cs)
end
theorem B2 {P : Program} {st : St} {rs : List ResultVar} {res : AV} (hc : S9 P st rs) (h : ((Jk P st rs).ren fun _ => none).low = res) : Pu P 0 rs [] res .ret st := At6 hc (by rw [<- h]; exact Le.low _)
section
variable {P : Program} {d : Option Tmp} {os : List VO} {st : St} {K : St -> Prop} {KT : Tr -> St -> Prop} {tr : Tr}
theorem Pw.lo {f : FuncId} {args args' Dt : List AV} {bor : Bool} {σr : List Ob} {res : AV} (hp : B8 P f [] args' σr res) (ha : Gk args = args') (hl : bor = true -> res.cln = true /\ σr.all Ob.cln = true) (h : runs P os (st.after d (res.shift st.ob.length) (Hr st.ob.length 0 σr)) K) : Pw P f args bor Dt d os st K := .by hp (by rw [<- ha]; exact LeL.low _) hl h
theorem Pv.lo {f : FuncId} {args args' Dt : List AV} {bor : Bool} {σr : List Ob} {res : AV} {rd : List Nat} (hp : B8 P f [] args' σr res) (ha : Gk args = args') (hl : bor = true -> res.cln = true /\ σr.all Ob.cln = true) (h : Dj P os (st.after d (res.shift st.ob.length) (Hr st.ob.length 0 σr)) ((rd, (Hr st.ob.length 0 σr).map (·.1)) :: tr) KT) : Pv P f args bor Dt d os st rd tr KT := .by hp (by rw [<- ha]; exact LeL.low _) hl h
end
attribute [go_sem] AV.low Gk
theorem Nx {P : Program} {m : Nat} {sl : List (Nat × AV)} {ob : List Ob} {rs : List ResultVar} {σr : List Ob} {res : AV} (sel : List Nat) (hc : S9 P ⟨sl, ob⟩ rs) (hnd : sel.Nodup) (hm : ∀ id, id < m -> sel[id]? = some id) (h : ((Jk P ⟨sl, ob⟩ rs).ren fun id => idx id sel 0).low = res) (ho : OL (fun i => ob.getD i .gone) (fun id => idx id sel 0) sel σr) : Pu P m rs σr res .ret ⟨sl, ob⟩ :=
 ⟨.inr rfl, hc, sel, Bp hnd (.cons (by rw [<- h]; exact Le.low _) .nil) ho, hm⟩
theorem B8.frozA {P : Program} {f : FuncId} {args : List AV} {ty k : Nat} {fr fz : Bool} {es : List (List T)} {res res' : AV} (h : B8 P f [] args [.row ty k fr fz es] res) (hr : ((res.melt fun i => [Ob.row ty k fr true es].getD i .gone).ren fun _ => none).low = res') : B8 P f [] args [] res' := by
 refine ⟨h.1, fun E β us hn ho hβ r => (h.2 E β us hn ho hβ r).mono ?_⟩
 rintro e w' ⟨v, β', rfl, r1⟩
 have r2 := (r1.freeze (id := 0) (ty := ty) (k := k) (fr := fr) (fz := fz) (es := es) rfl).1.melt
 obtain ⟨β2, r3⟩ := r2.weak (sel := []) (st' := ⟨[(0, res')], []⟩) ⟨.cons (by rw [<- hr]; exact Le.low _) .nil, fun j hj => by simp at hj, rfl, List.nodup_nil⟩ fun id hid => absurd (by show E.o0 id = _; rw [ho]; simp [St.o]) hid
 exact ⟨v, β2, rfl, r3⟩
section
variable {P : Program} {d : Option Tmp} {ty : TypeId} {os : List VO} {st : St} {K : St -> Prop} {KT : Tr -> St -> Prop} {tr : Tr}
structure Vr (P : Program) (g : Bool) (f : FuncId) (args : List AV) (bor : Bool) (d : Option Tmp) (os : List VO) (st : St) (K : St -> Prop) : Prop where
  ex : ∃ σr res, (g = true -> B8 P f [] args σr res /\ (bor = true -> res.cln = true /\ σr.all Ob.cln = true)) /\ runs P os (st.after d (.gd g (res.shift st.ob.length)) (bif g then Hr st.ob.length 0 σr else [])) K
structure Qp (P : Program) (g : Bool) (f : FuncId) (args : List AV) (bor : Bool) (d : Option Tmp) (os : List VO) (st : St) (rd : List Nat) (tr : Tr) (K : Tr -> St -> Prop) : Prop where
  ex : ∃ σr res, (g = true -> B8 P f [] args σr res /\ (bor = true -> res.cln = true /\ σr.all Ob.cln = true)) /\ Dj P os (st.after d (.gd g (res.shift st.ob.length)) (bif g then Hr st.ob.length 0 σr else [])) ((rd, (Hr st.ob.length 0 σr).map (·.1)) :: tr) K
theorem Bz {f : FuncId} {xs : List Operand} {ts : Array TypeId} {v : AV} {want : Bool} (hv : F7 v.sv = true) (hb : (v.sb && (C4 v.sv == want)) = true -> (xs.all fun x => (st.raw x).sb) = true /\ Ha st.o (xs.map fun x => (st.raw x).sv))
 (h : Vr P (v.sb && (C4 v.sv == want)) f (Hh st.o (xs.map fun x => (st.raw x).sv)) (Ql (xs.map fun x => (st.raw x).sv)) d os st K) : Wx P d (.call ⟨.value (.func f), xs.toArray, ts⟩) ty v want os st K := by
 obtain ⟨σr, res, h1, h2⟩ := h
 refine ⟨hv, (res.shift st.ob.length, Hr st.ob.length 0 σr), fun hg => ?_, h2⟩
 obtain ⟨q1, q2⟩ := hb hg
 obtain ⟨q3, q4⟩ := h1 hg
 exact ⟨⟨rfl, q1⟩, .inl ⟨f, [], σr, res, rfl, by simpa using q3, by simpa using q2, by simpa using q4, rfl⟩⟩
theorem Jq {f : FuncId} {xs : List Operand} {ts : Array TypeId} {v : AV} {want : Bool} (hv : F7 v.sv = true) (hb : (v.sb && (C4 v.sv == want)) = true -> (xs.all fun x => (st.raw x).sb) = true /\ Ha st.o (xs.map fun x => (st.raw x).sv))
 (h : Qp P (v.sb && (C4 v.sv == want)) f (Hh st.o (xs.map fun x => (st.raw x).sv)) (Ql (xs.map fun x => (st.raw x).sv)) d os st (Cs (.call ⟨.value (.func f), xs.toArray, ts⟩) st) tr KT) : Afd P d (.call ⟨.value (.func f), xs.toArray, ts⟩) ty v want os st tr KT := by
 obtain ⟨σr, res, h1, h2⟩ := h
 refine ⟨hv, (res.shift st.ob.length, Hr st.ob.length 0 σr), fun hg => ?_, h2⟩
 obtain ⟨q1, q2⟩ := hb hg
 obtain ⟨q3, q4⟩ := h1 hg
 exact ⟨⟨rfl, q1⟩, .inl ⟨f, [], σr, res, rfl, by simpa using q3, by simpa using q2, by simpa using q4, rfl⟩⟩
theorem Vr.skip {f : FuncId} {args : List AV} {bor : Bool} (h : runs P os (st.after d (.gd false .any) []) K) : Vr P false f args bor d os st K := ⟨[], .any, (fun e => by cases e), h⟩
theorem Qp.skip {f : FuncId} {args : List AV} {bor : Bool} {rd : List Nat} (h : Dj P os (st.after d (.gd false .any) []) ((rd, []) :: tr) KT) : Qp P false f args bor d os st rd tr KT := ⟨[], .any, (fun e => by cases e), h⟩
theorem Vr.lo {f : FuncId} {g : Bool} {args args' : List AV} {bor : Bool} {σr : List Ob} {res : AV} (hp : B8 P f [] args' σr res) (ha : Gk args = args') (hl : bor = true -> res.cln = true /\ σr.all Ob.cln = true) (h : runs P os (st.after d (.gd g (res.shift st.ob.length)) (bif g then Hr st.ob.length 0 σr else [])) K) : Vr P g f args bor d os st K := ⟨σr, res, fun _ => ⟨hp.le (by rw [<- ha]; exact LeL.low _), hl⟩, h⟩
theorem Qp.lo {f : FuncId} {g : Bool} {args args' : List AV} {bor : Bool} {σr : List Ob} {res : AV} {rd : List Nat} (hp : B8 P f [] args' σr res) (ha : Gk args = args') (hl : bor = true -> res.cln = true /\ σr.all Ob.cln = true) (h : Dj P os (st.after d (.gd g (res.shift st.ob.length)) (bif g then Hr st.ob.length 0 σr else [])) ((rd, (Hr st.ob.length 0 σr).map (·.1)) :: tr) KT) : Qp P g f args bor d os st rd tr KT := ⟨σr, res, fun _ => ⟨hp.le (by rw [<- ha]; exact LeL.low _), hl⟩, h⟩
end
theorem Aq0 (fr : Bool) : ∀ (t : T), (T.av fr t).ids = []
 | .lit v => by simp only [T.av, AV.ids]
 | .sl k es => by simp only [T.av, AV.ids]
 | .fn f cs off => by simp only [T.av, AV.ids, Ef]; rfl
theorem Aes (fr : Bool) : ∀ (l : List T), Ef (l.map (T.av fr)) = []
 | [] => by simp only [List.map_nil, Ef]
 | t :: l => by simp only [List.map_cons, Ef, Aq0, Aes fr l, List.append_nil]
theorem Alj (n : Nat) (fr : Bool) (l : List T) : Ef ((l.map (T.av fr)).take n) = [] := by
 rw [<- List.map_take]; exact Aes fr _
attribute [go_sem] Aes Alj
def Ob.low : Ob -> Ob
 | .box ty cs => .box ty (Gk cs)
 | o => o
theorem Sm.low (o : Ob) : Sm o o.low := by
 cases o with
 | box ty cs => exact .box (LeL.low cs)
 | gone => exact .gone
 | row ty k fr fz es => exact Sm.refl _
theorem B8.lowO {P : Program} {f : FuncId} {σa : List Ob} {args : List AV} {σr : List Ob} {res : AV} (h : B8 P f (σa.map Ob.low) (Gk args) σr res) : B8 P f σa args σr res := by
 refine ⟨h.1, fun E β us hn ho hβ r => ?_⟩
 have hlen : (Gk args).length = args.length := (LeL.length (LeL.low args)).symm
 have hC : ∀ sl sl' : List (Nat × AV), True := fun _ _ => trivial
 have hget : ∀ j, (St.mk [] (σa.map Ob.low)).o j = ((St.mk [] σa).o j).low := fun j => by
  show (σa.map Ob.low).getD j Ob.gone = (σa.getD j Ob.gone).low
  rw [Ad, Ad, Ap]
  cases σa[j]? <;> rfl
 have hlow : ∀ o : Ob, o.low ≠ .gone <-> o ≠ .gone := fun o => by cases o <;> simp [Ob.low]
 let E2 : Ent := { E with o0 := (St.mk [] (σa.map Ob.low)).o }
 have hM : E2.M = E.M := by
  funext b
  apply propext
  constructor
  ·rintro ⟨j, h1, h2⟩
   have h1 : (St.mk [] (σa.map Ob.low)).o j ≠ .gone := h1
   rw [hget, hlow] at h1
   exact ⟨j, by rw [ho]; exact h1, h2⟩
  rintro ⟨j, h1, h2⟩
  rw [ho] at h1
  exact ⟨j, by show (St.mk [] (σa.map Ob.low)).o j ≠ .gone; rw [hget, hlow]; exact h1, h2⟩
 have hlv : ∀ o : Ob, o.low.live <-> o.live := fun o => by cases o <;> simp [Ob.low, Ob.live]
 have hStep : ∀ C : VC, ∀ C' : VC, C'.h = C.h -> C'.β = C.β -> C'.B = C.B -> C'.M = C.M -> C'.im = C.im -> C'.fr = C.fr -> (∀ j, C'.ob j = (C.ob j).low) -> ∀ c u, Br C c u -> Br C' c u := fun C C' h1 h2 h3 h4 h5 h6 h7 c u hv => by
  refine hv.step ⟨h3, fun b hb => by rw [h4]; exact hb, fun b hb => by rw [h5]; exact hb, fun b hb => by rw [h6]; exact hb, by rw [h1]; exact Aj _, ?_, fun b _ _ => by rw [h1], fun id ty cs hc => ⟨⟨Gk cs, by rw [h7, hc]; rfl⟩, by rw [h2]⟩, fun id ty k fr fz es hc => ⟨fr, fz, es, by rw [h7, hc]; rfl, Aj _, fun _ => ⟨by rw [h2], fun b cur hb hcur => ⟨cur, by rw [h1]; exact hcur, rfl⟩⟩⟩⟩
  rintro b _ ⟨id, h8, h9⟩
  rw [h7, hlv] at h9
  exact ⟨id, by rw [<- h2]; exact h8, h9⟩
 have hCC : ∀ sl sl' : List (Nat × AV), ∀ c u, Br (E.C β ⟨sl, σa⟩ E.w0) c u -> Br (E2.C β ⟨sl', σa.map Ob.low⟩ E.w0) c u := fun sl sl' => hStep _ _ rfl rfl rfl hM rfl rfl hget
 have r2 : Rel E2 β ⟨E8 0 (Gk args), σa.map Ob.low⟩ ⟨us, []⟩ E2.w0 := by
  refine ⟨r.sz, fun t => ?_, r.df, fun j => ?_, fun i j b hi hj => ?_, fun i b hi hb => ?_, Kp.refl _ _, ⟨fun id ty cs h => ⟨⟨cs, h⟩, congrFun hβ.symm id⟩, fun id ty k fr fz es h => ⟨fr, fz, es, h, Aj _, fun _ => ⟨congrFun hβ.symm id, fun b cur hb hc => ⟨cur, hc, rfl⟩⟩⟩⟩, r.kb, r.dk⟩
  ·have hr := r.sl t
   have hr : Br (E.C β ⟨E8 0 args, σa⟩ E.w0) (Ce (E8 0 args) t) (us.getD t undef) := hr
   show Br _ (Ce (E8 0 (Gk args)) t) _
   rw [Iq, if_pos (Ae _), Ad] at hr ⊢
   cases hq : (Gk args)[t - 0]? with
   | none => exact .any _
   | some c' =>
    obtain ⟨c, g1, g2⟩ := (LeL.low args).get hq
    rw [g1] at hr
    exact g2 _ _ (hCC _ _ _ _ hr)
  ·have hr := r.ob j
   have hr : Hi (E.C β ⟨E8 0 args, σa⟩ E.w0) j ((St.mk [] σa).o j) := hr
   show Hi _ j ((St.mk [] (σa.map Ob.low)).o j)
   rw [hget]
   cases hq : (St.mk [] σa).o j with
   | gone => trivial
   | box ty cs =>
    rw [hq] at hr
    obtain ⟨b, cur, q1, q2, q3, q4⟩ := hr
    refine ⟨b, cur, q1, q2, by rw [<- LeL.length (LeL.low cs)]; exact q3, fun i c u hc hu => ?_⟩
    obtain ⟨c0, g1, g2⟩ := (LeL.low cs).get hc
    exact ⟨g2 _ _ (hCC _ _ _ _ (q4 i c0 u g1 hu).1), (q4 i c0 u g1 hu).2⟩
   | row ty k fr fz es =>
    rw [hq] at hr
    obtain ⟨q1, q2⟩ := hr
    refine ⟨q1, ?_⟩
    have hb : (E2.C β ⟨E8 0 (Gk args), σa.map Ob.low⟩ E.w0).β j = (E.C β ⟨E8 0 args, σa⟩ E.w0).β j := rfl
    show match (E2.C β ⟨E8 0 (Gk args), σa.map Ob.low⟩ E.w0).β j with | none => es = [] | some b => _
    rw [hb]
    cases hbb : (E.C β ⟨E8 0 args, σa⟩ E.w0).β j with
    | none => rw [hbb] at q2; exact q2
    | some b =>
     rw [hbb] at q2
     obtain ⟨cur, c, g1, g2, g3, g4, g5⟩ := q2
     refine ⟨cur, c, g1, g2, g3, g4, fun i e j x he hx => ?_⟩
     obtain ⟨u, p1, p2⟩ := g5 i e j x he hx
     refine ⟨u, p1, p2.keep (fun _ _ => rfl) fun b hs => ⟨hs.1, fun ⟨id, h8, h9⟩ => hs.2.1 ⟨id, h8, ?_⟩, ?_⟩⟩
     ·have h9 : ((St.mk [] (σa.map Ob.low)).o id).live := h9
      rw [hget, hlv] at h9
      exact h9
     show E.w0.heap.size <= b \/ E2.M b \/ _
     rw [hM]
     exact hs.2.2
  ·exact r.inj i j b (by have hi : (St.mk [] (σa.map Ob.low)).o i ≠ .gone := hi; rw [hget, hlow] at hi; exact hi) (by have hj : (St.mk [] (σa.map Ob.low)).o j ≠ .gone := hj; rw [hget, hlow] at hj; exact hj)
  have := r.rng i b (by have hi : (St.mk [] (σa.map Ob.low)).o i ≠ .gone := hi; rw [hget, hlow] at hi; exact hi) hb
  exact ⟨this.1, by rw [hM]; exact this.2⟩
 refine (h.2 E2 β us (by rw [hlen]; exact hn) rfl hβ r2).mono ?_
 rintro e w' ⟨v, β', rfl, r3⟩
 refine ⟨v, β', rfl, ?_⟩
 have hC2 : ({ E2 with n := 1 } : Ent).C β' ⟨[(0, res)], σr⟩ w' = ({ E with n := 1 } : Ent).C β' ⟨[(0, res)], σr⟩ w' := by
  show VC.mk _ _ _ _ _ _ _ = VC.mk _ _ _ _ _ _ _
  congr 1
 refine ⟨r3.sz, fun t => by rw [<- hC2]; exact r3.sl t, r3.df, fun id => by rw [<- hC2]; exact r3.ob id, r3.inj, fun i b hi hb => ?_, ?_, ?_, r3.kb, r3.dk⟩
 ·have := r3.rng i b hi hb
  refine ⟨this.1, ?_⟩
  have h2 : E.w0.heap.size <= b \/ E2.M b := this.2
  rw [hM] at h2
  exact h2
 ·have := r3.kp
  refine ⟨this.os, this.tape, this.output, this.size, fun b hb hm => this.block b hb fun h => hm ?_⟩
  have h : E2.M b := h
  rw [hM] at h
  exact h
 rw [<- hC2]
 refine ⟨fun id ty cs hc => ?_, fun id ty k fr fz es hc => ?_⟩
 ·have hc : E.o0 id = _ := hc
  rw [ho] at hc
  exact r3.ct.box id ty (Gk cs) (by show (St.mk [] (σa.map Ob.low)).o id = _; rw [hget, hc]; rfl)
 have hc : E.o0 id = _ := hc
 rw [ho] at hc
 exact r3.ct.row id ty k fr fz es (by show (St.mk [] (σa.map Ob.low)).o id = _; rw [hget, hc]; rfl)
def Vs (Dt : List AV) (st : St) (sel : List Nat) (σr : List Ob) (res : AV) : Prop :=
 sel.Nodup /\ (∀ id ∈ sel, (st.o id).live) /\ Ha st.o Dt /\ (∀ id ∈ sel, (st.o id).passC st.o) /\ sel.length <= σr.length /\ (∀ id ∈ sel, id ∈ rdC st.o (Ef Dt) /\ ∀ x ∈ obI (st.o id), x ∈ rdC st.o (Ef Dt)) /\
  ((Pt (fun id => idx id sel 0) Dt || sel.any fun id => (st.o id).borR fun id => idx id sel 0) = true -> res.cln = true /\ σr.all Ob.cln = true)
section
variable {P : Program} {d : Option Tmp} {os : List VO} {st : St} {K : St -> Prop} {KT : Tr -> St -> Prop} {tr : Tr}
theorem Tw.of {f : FuncId} {args' Dt : List AV} {σa σr : List Ob} {res : AV} (sel : List Nat) (hp : B8 P f σa args' σr res) (hσ : (sel.map fun id => ((st.o id).passR st.o fun id => idx id sel 0).low) = σa) (ha : Gk (D0 st.o (fun id => idx id sel 0) Dt) = args') (hc : Vs Dt st sel σr res) (nid : Nat) : Tw P f Dt st.o nid sel σr res := by
 obtain ⟨h1, h2, h3, h4, h5, h6, h7⟩ := hc
 refine ⟨h1, h2, B8.lowO ?_, h3, h4, h5, h6, h7⟩
 rw [ha, List.map_map]
 rw [<- hσ] at hp
 exact hp
theorem Pw.ob {f : FuncId} {args args' Dt : List AV} {bor : Bool} {σa σr : List Ob} {res : AV} (sel : List Nat) (hp : B8 P f σa args' σr res) (hσ : (sel.map fun id => ((st.o id).passR st.o fun id => idx id sel 0).low) = σa) (ha : Gk (D0 st.o (fun id => idx id sel 0) Dt) = args') (hc : Vs Dt st sel σr res)
 (h : runs P os (st.after d (J2 sel st.ob.length σr res).1 (J2 sel st.ob.length σr res).2) K) : Pw P f args bor Dt d os st K := ⟨.inr ⟨sel, σr, res, .of sel hp hσ ha hc _, h⟩⟩
theorem Pv.ob {f : FuncId} {args args' Dt : List AV} {bor : Bool} {σa σr : List Ob} {res : AV} {rd : List Nat} (sel : List Nat) (hp : B8 P f σa args' σr res) (hσ : (sel.map fun id => ((st.o id).passR st.o fun id => idx id sel 0).low) = σa) (ha : Gk (D0 st.o (fun id => idx id sel 0) Dt) = args') (hc : Vs Dt st sel σr res)
 (h : Dj P os (st.after d (J2 sel st.ob.length σr res).1 (J2 sel st.ob.length σr res).2) ((rd, (J2 sel st.ob.length σr res).2.map (·.1)) :: tr) KT) : Pv P f args bor Dt d os st rd tr KT := ⟨.inr ⟨sel, σr, res, .of sel hp hσ ha hc _, h⟩⟩
end
attribute [go_sem] Ob.low D0 AV.passR Ob.passR Pt AV.borR Ob.borR Ob.live Ob.passC Vs bkN Aet Ab6 J2 AV.bk bkL Ob.bk
end Go.Proofs.YtkkimgjinbaemaaGreat
