/- The walk. -/
import Derived.Test.YtkkimgjinbaemaaGreatKbe
namespace Go.Proofs.YtkkimgjinbaemaaGreat
open Go.RowKit
set_option linter.unusedVariables false
set_option linter.unusedSimpArgs false
set_option maxRecDepth 100000
set_option maxHeartbeats 4000000
theorem Pz (l : List Int) (x : Int) (h : l.length <= 1000000) : Ct 248 [.mI l, .li x] (fun d : Int => .li d) (fun d => 0 <= d -> x ∈ l) := by
 refine Cb Tryz.func248 ?_
 refine VX.R <| .seq ?_
 refine VX.R <| .block ?_
 refine VX.rangeE l.length (fun i1 (y1 : Unit) => ⟨[(0, .mI l), (1, .li x), (7, .li l.length), (8, .li i1)], []⟩) (fun i1 y1 => True) () (wk ok0 []) (trivial) fun i1 y1 hi1 hy1 => ?_
 refine VX.R <| .seq ?_
 refine VX.C ?_ ?_ <;> intro h9 <;> simp [go_sem] at h9
 ·refine VX.skip <| .seq <| .block <| .R ?_
  obtain ⟨e1, H1⟩ := gx l i1
  refine VX.H H1 ?_
  refine VX.C ?_ ?_ <;> intro h16 <;> simp [go_sem] at h16
  ·refine VX.H H1 ?_
   exact .ret (fin H1 i1 (by first | exact fun h => absurd h (by decide) | exact fun _ => h16 ▸ Ac H1))
  refine VX.skip <| .H1 H1 ?_
  exact ⟨by omega, (), trivial, wk (cj2 (Bq ((i1 : Int) + 1)) H1) []⟩
 refine VX.exit <| .R ?_
 exact .ret (fin ok0 (-1) (by first | exact fun h => absurd h (by decide) | exact fun _ => h16 ▸ Ac H1))
noncomputable def Qd (l : List Int) (x : Int) (h : l.length <= 1000000) : Int := (got (Pz l x h)).choose
theorem Ad3 (l : List Int) (x : Int) (h : l.length <= 1000000) : PP 248 [] [.mI l, .li x] [] (.li (Qd l x h)) := (got (Pz l x h)).choose_spec.1
theorem Aen (l : List Int) (x : Int) (h : l.length <= 1000000) : 0 <= (Qd l x h) -> x ∈ l := (got (Pz l x h)).choose_spec.2
theorem Xw (l : List Int) (x : Int) (h : l.length <= 1000000) : Ct 223 [.mI l, .li x] (fun d : Bool => .lb d) (fun d => d = true -> x ∈ l) := by
 refine Cb Tryz.func223 ?_
 refine VX.R ?_
 refine VX.L ok0 (Ad3 l x (by first | assumption | omega)) ?_
 exact .ret (fin ok0 (decide ((0 : Int) <= (Qd l x (by first | assumption | omega)))) (fun h2 => Aen l x h (by simpa using h2)))
theorem S2 (c : List Int) (l : List Int) (h : l.length <= 1000000) (hc : c.length <= 1000000) : Ct 177 [.mI c, .mI l] (fun d : Bool => .lb d) (fun d => True) := by
 refine Cb Tryz.func177 ?_
 refine VX.R ?_
 refine VX.scope ?_
 refine VX.R <| .seq ?_
 refine VX.label ?_
 refine VX.seq <| .R <| .block ?_
 refine VX.rangeE l.length (fun i1 (y1 : Bool) => ⟨[(0, .mI c), (1, .mI l), (5, .lb y1), (10, .mI l), (11, .li l.length), (12, .li i1)], []⟩) (fun i1 y1 => True) (false) (wk ok0 []) (trivial) fun i1 y1 hi1 hy1 => ?_
 refine VX.R <| .seq ?_
 refine VX.C ?_ ?_ <;> intro h13 <;> simp [go_sem] at h13
 ·refine VX.skip <| .seq <| .block ?_
  obtain ⟨e1, H1⟩ := gx l i1
  refine VX.H H1 <| .seq ?_
  obtain ⟨Y1, cY1, qY1⟩ := got (Pe e1)
  refine VX.L H1 cY1 ?_
  refine VX.C ?_ ?_ <;> intro h19 <;> simp [go_sem] at h19
  ·refine VX.exit <| .H1 H1 ?_
   exact ⟨by omega, (y1), trivial, wk (cj2 (Bq ((i1 : Int) + 1)) H1) []⟩
  refine VX.skip <| .H H1 <| .block ?_
  refine VX.rangeE l.length (fun i2 (y2 : Bool) => ⟨[(0, .mI c), (1, .mI l), (5, .lb y2), (6, .li i1), (10, .mI l), (11, .li l.length), (12, .li i1), (20, .mI l), (21, .li l.length), (22, .li i2)], []⟩) (fun i2 y2 => True) (y1) (wk H1 []) (trivial) fun i2 y2 hi2 hy2 => ?_
  refine VX.H H1 <| .seq ?_
  refine VX.C ?_ ?_ <;> intro h23 <;> simp [go_sem] at h23
  ·refine VX.skip <| .seq <| .block ?_
   obtain ⟨e2, H2⟩ := gx l i2
   refine VX.H (cj2 H1 H2) ?_
   refine VX.region_seq (by rfl) fun K1 hK1 => ?_
   simp [go_sem, H1, H2]
   obtain ⟨Y2, cY2, qY2⟩ := got (Pe e2)
   refine .l cY2 ?_
   simp [go_sem, H1, H2]
   refine Bz (by simp [go_sem]) (by simp [go_sem]) ?_
   simp [go_sem, H1, H2]
   first | refine .lo (Fe c i1 i2 (by first | assumption | omega)) rfl (by simp [AV.cln, Cp]) ?_ | refine .skip ?_
   simp [go_sem, H1, H2]
   refine hK1 _ ?_; clear hK1
   refine VX.C ?_ ?_ <;> intro h34 <;> simp [go_sem] at h34
   ·refine VX.H (cj2 H1 H2) <| .exit ?_
    refine VX.H (cj2 H1 H2) ?_
    exact .ret (fin (cj2 H1 H2) true trivial)
   refine VX.skip <| .H1 (cj2 H1 H2) ?_
   exact ⟨by omega, (y2), trivial, wk (cj3 (Bq ((i2 : Int) + 1)) H1 H2) []⟩
  refine VX.exit <| .H1 H1 ?_
  exact ⟨by omega, (y2), trivial, wk (cj2 (Bq ((i1 : Int) + 1)) H1) []⟩
 refine VX.exit <| .R ?_
 exact .ret (fin ok0 y1 trivial)
section
variable {P : Program}
def Aou {γ : Type} (M : Nat) (sl : List (Nat × AV)) (f : γ -> List Ob) (I : γ -> Prop) (K : Exit -> St -> Prop) : Exit -> St -> Prop
 | .normal, s => ∃ x', I x' /\ WkE M s ⟨[], f x'⟩
 | .ret, s => ∃ ob', WkE M s ⟨[], ob'⟩ /\ K .ret ⟨sl, ob'⟩
 | .exit id, s => ∃ ob', WkE M s ⟨[], ob'⟩ /\ K (.exit id) ⟨sl, ob'⟩
 | .goto t, s => ∃ ob', WkE M s ⟨[], ob'⟩ /\ K (.goto t) ⟨sl, ob'⟩
 | _, _ => False
theorem Gh.mono {k : Nat} {sl : List (Nat × AV)} {o : List Ob} {I I' : Prop} {K K' : Exit -> St -> Prop} (hI : I -> I') (hK : ∀ e s, K e s -> K' e s) {e : Exit} {s : St} (h : Gh k sl o I K e s) : Gh k sl o I' K' e s := by
 cases e with
 | normal => exact ⟨h.1, hI h.2⟩
 | ret => obtain ⟨ob, h1, h2⟩ := h; exact ⟨ob, h1, hK _ _ h2⟩
 | exit id => obtain ⟨ob, h1, h2⟩ := h; exact ⟨ob, h1, hK _ _ h2⟩
 | goto t => obtain ⟨ob, h1, h2⟩ := h; exact ⟨ob, h1, hK _ _ h2⟩
 | _ => exact h
theorem Gh.jump {k : Nat} {sl : List (Nat × AV)} {o o' : List Ob} {I : Prop} {K : Exit -> St -> Prop} {e : Exit} {s : St} (h : Gh k sl o False K e s) : Gh k sl o' I K e s := by
 cases e with
 | normal => exact h.2.elim
 | _ => exact h
theorem VX.rangeFn {n m : Nat} {γ : Type} {sl : List (Nat × AV)} {K : Exit -> St -> Prop} {g : Tmp} {ps : List Tmp} {al : List Oper} {aid : Nat} {body : Code} {gf : FuncId} {caps : List AV} {items : List (List AV)} (hit : Sn P gf caps items) (f : γ -> List Ob) (M : Nat) (hM : ∀ x, (f x).length = M) (hg : Ce sl g = .fn gf caps)
    (hlive : ∀ x id, (St.mk sl (f x)).o id ≠ .gone -> ((St.mk sl (f x)).o id).live) (hps : ∀ p ∈ ps, p < n) (hal : Aoh n al = true) (hcl : ∀ vs ∈ items, vs.length = ps.length /\ Il (fun _ => none) vs = vs)
    (Inv : Nat -> γ -> Prop) (x0 : γ) (hI0 : Inv 0 x0) (hround : ∀ i vs x, items[i]? = some vs -> Inv i x -> VX P n M body (Nz al ⟨I3 ps vs sl, f x⟩) (Aou M sl f (Inv (i + 1)) K)) (hdone : ∀ x, Inv items.length x -> K .normal ⟨sl, f x⟩) :
    VX P n m (.rangeFunc (.tmp g) ps.toArray (.region aid al.toArray false) body) ⟨sl, f x0⟩ K := by
  have key : ∀ (k i : Nat) (x : γ), i + k = items.length -> Inv i x -> ∃ e s, K e s /\ ∃ (xs : Nat -> γ) (stop : Nat), xs i = x /\ i <= stop /\ stop <= items.length /\
      (∀ j vs, i <= j -> j < stop -> items[j]? = some vs -> VW P n M body (Nz al ⟨I3 ps vs sl, f (xs j)⟩) (Gh M sl (f (xs (j + 1))) True fun _ _ => False)) /\
      (stop = items.length -> e = .normal /\ s = ⟨sl, f (xs stop)⟩) /\ (∀ vs, items[stop]? = some vs -> VW P n M body (Nz al ⟨I3 ps vs sl, f (xs stop)⟩) (Gh M sl [] False fun e' s' => e' = e /\ s' = s)) := by
    intro k
    induction k with
    | zero =>
      intro i x hi hI
      refine ⟨.normal, ⟨sl, f x⟩, hdone x (by have : i = items.length := by omega
                                              rw [<- this]; exact hI), fun _ => x, i, rfl, Aj _, by omega, fun j vs h1 h2 => by omega, fun _ => ⟨rfl, rfl⟩, fun vs h => ?_⟩
      have := (Ab.1 h).1
      omega
    | succ k ih =>
      intro i x hi hI
      obtain ⟨vs, hvs⟩ : ∃ vs, items[i]? = some vs := ⟨_, Aa (by omega)⟩
      obtain ⟨e1, s1, h1, h2⟩ := hround i vs x hvs hI
      have other : ∀ (e : Exit) (s : St), K e s -> Gh M sl [] False (fun e' s' => e' = e /\ s' = s) e1 s1 -> ∃ e s, K e s /\ ∃ (xs : Nat -> γ) (stop : Nat), xs i = x /\ i <= stop /\ stop <= items.length /\
          (∀ j vs, i <= j -> j < stop -> items[j]? = some vs -> VW P n M body (Nz al ⟨I3 ps vs sl, f (xs j)⟩) (Gh M sl (f (xs (j + 1))) True fun _ _ => False)) /\
          (stop = items.length -> e = .normal /\ s = ⟨sl, f (xs stop)⟩) /\ (∀ vs, items[stop]? = some vs -> VW P n M body (Nz al ⟨I3 ps vs sl, f (xs stop)⟩) (Gh M sl [] False fun e' s' => e' = e /\ s' = s)) := by
        intro e s hK hR
        refine ⟨e, s, hK, fun _ => x, i, rfl, Aj _, by omega, fun j vs h1 h2 => by omega, fun h => by omega, fun vs' h => ?_⟩
        rw [hvs] at h
        injection h with h
        subst h
        refine h1.mono ?_
        rintro e' s' ⟨rfl, rfl⟩
        exact hR
      cases e1 with
      | normal =>
        obtain ⟨x', h3, h4⟩ := h2
        obtain ⟨e, s, hK, xs, stop, q1, q2, q3, q4, q5, q6⟩ := ih (i + 1) x' (by omega) h3
        refine ⟨e, s, hK, fun j => if j = i then x else xs j, stop, if_pos rfl, by omega, q3, fun j vs' hj1 hj2 hjv => ?_, fun h => ?_, fun vs' h => ?_⟩
        · by_cases e0 : j = i
          · subst e0
            rw [hvs] at hjv
            injection hjv with hjv
            subst hjv
            simp only [if_true]
            rw [if_neg (by omega), q1]
            refine h1.mono ?_
            rintro e' s' ⟨rfl, rfl⟩
            exact ⟨h4, trivial⟩
          · simp only
            rw [if_neg e0, if_neg (by omega)]
            exact q4 j vs' (by omega) hj2 hjv
        · obtain ⟨g1, g2⟩ := q5 h
          exact ⟨g1, by simp only; rw [if_neg (by omega)]; exact g2⟩
        · simp only
          rw [if_neg (by omega)]
          exact q6 vs' h
      | ret => obtain ⟨ob, h3, h4⟩ := h2; exact other _ _ h4 ⟨ob, h3, rfl, rfl⟩
      | exit id => obtain ⟨ob, h3, h4⟩ := h2; exact other _ _ h4 ⟨ob, h3, rfl, rfl⟩
      | goto t => obtain ⟨ob, h3, h4⟩ := h2; exact other _ _ h4 ⟨ob, h3, rfl, rfl⟩
      | panic ch => exact h2.elim
      | outgrown => exact h2.elim
  obtain ⟨e, s, hK, xs, stop, q1, q2, q3, q4, q5, q6⟩ := key items.length 0 x0 (by omega) hI0
  refine ⟨e, s, ?_, hK⟩
  have := VW.rangeFn (m := m) (K := fun e' s' => e' = e /\ s' = s) (body := body) (al := al) (aid := aid) (ps := ps) (n := n) (sl := sl) (g := g) hit (fun j => f (xs j)) hg (fun j id => hlive (xs j) id) hps hal hcl (fun j => j <= stop) (Ae _) (fun j vs hj hI => ?_) (fun hI => ?_)
  · simp only [q1] at this
    exact this
  · rw [hM]
    by_cases e0 : j = stop
    · subst e0
      exact (q6 vs hj).mono fun e' s' h => h.jump
    · exact (q4 j vs (Ae _) (by omega) hj).mono fun e' s' h => h.mono (fun _ => by omega) fun _ _ h => h.elim
  · have hs : stop = items.length := by omega
    obtain ⟨g1, g2⟩ := q5 hs
    rw [hs] at g2
    exact ⟨g1.symm, g2.symm⟩
def St.dull (st : St) (id : Nat) : St := st.set id (.row (U5 (st.o id)) (O2 (st.o id)) false (Akz (st.o id)) (Ik (st.o id)))
theorem VX.dull {n m : Nat} {st : St} {K : Exit -> St -> Prop} {c : Code} (id : Nat) (h : Db (st.o id) = true) (hv : VX P n m c (st.dull id) K) : VX P n m c st K := by
 obtain ⟨e, s, h1, h2⟩ := hv
 refine ⟨e, s, fun E F hE hF β a w r => h1 E F hE hF β a w ?_, h2⟩
 unfold St.dull
 cases hq : st.o id with
 | row ty k fr fz es => exact (r.flag hq (fun e => by cases e) fun e => e).1
 | _ => rw [hq] at h; exact absurd h (by simp [Db])
theorem Ap5 {sl : List (Nat × AV)} {ob : List Ob} {id : Nat} : (St.mk sl ob).dull id = St.mk sl (Ly ob id (.row (U5 (ob.getD id .gone)) (O2 (ob.getD id .gone)) false (Akz (ob.getD id .gone)) (Ik (ob.getD id .gone)))) := rfl
attribute [go_sem] Ap5
theorem Aeh {m : Nat} {sl : List (Nat × AV)} {ob : List Ob} {rs : List ResultVar} {σr : List Ob} {res : AV} (sel : List Nat) (hc : S9 P ⟨sl, ob⟩ rs) (hnd : sel.Nodup) (hm : ∀ id, id < m -> sel[id]? = some id) (h : ((Jk P ⟨sl, ob⟩ rs).ren fun id => idx id sel 0).low = res) (ho : OL (fun i => ob.getD i .gone) (fun id => idx id sel 0) sel σr) : Pu P m rs σr res .normal ⟨sl, ob⟩ :=
 ⟨.inl rfl, hc, sel, Bp hnd (.cons (by rw [<- h]; exact Le.low _) .nil) ho, hm⟩
end
def Gr (r : Int) : List C9 -> Nat -> List Int
 | [], _ => []
 | p :: l, i => if p.ring = r then (i : Int) :: Gr r l (i + 1) else Gr r l (i + 1)
def Acx (l : List C9) (r : Int) : List Int := Gr r l 0
theorem Aaa (r : Int) : ∀ (l1 l2 : List C9) (i : Nat), Gr r (l1 ++ l2) i = Gr r l1 i ++ Gr r l2 (i + l1.length)
 | [], l2, i => by simp [Gr]
 | p :: l1, l2, i => by
  simp only [List.cons_append, Gr, A6, Aaa r l1 l2 (i + 1)]
  rw [show i + 1 + l1.length = i + (l1.length + 1) by omega]
  split <;> rfl
theorem Uc (r : Int) : ∀ (l : List C9) (i : Nat) (x : Int), x ∈ Gr r l i -> (i : Int) <= x /\ x < i + l.length
 | [], i, x, h => by simp [Gr] at h
 | p :: l, i, x, h => by
  unfold Gr at h
  split at h
  ·rcases List.mem_cons.1 h with rfl | h
   ·simp only [A6]; omega
   have := Uc r l (i + 1) x h; simp only [A6]; omega
  have := Uc r l (i + 1) x h; simp only [A6]; omega
theorem Wh {l : List C9} {r x : Int} (h : x ∈ Acx l r) : 0 <= x /\ x < l.length := by
 have := Uc r l 0 x h
 omega
def rgN (l : List C9) (r : Int) (k : Nat) : Nat := (Gr r (l.take k) 0).length
theorem Aj5 {l : List C9} {r : Int} {k : Nat} {p : C9} (h : l[k]? = some p) : Gr r l 0 = Gr r (l.take k) 0 ++ ((if p.ring = r then [(k : Int)] else []) ++ Gr r (l.drop (k + 1)) (k + 1)) := by
 have hk := (Ab.1 h).1
 have e : l = l.take k ++ p :: l.drop (k + 1) := by
  have h1 := List.take_append_drop k l
  rw [List.drop_eq_getElem_cons hk, (Ab.1 h).2] at h1
  exact h1.symm
 have e2 : Gr r l 0 = Gr r (l.take k ++ p :: l.drop (k + 1)) 0 := congrArg (fun l => Gr r l 0) e
 rw [e2, Aaa, Gr]
 have hl : (l.take k).length = k := by rw [A5]; omega
 rw [hl, Bm]
 congr 1
 split <;> rfl
theorem Agm {l : List C9} {r : Int} {k : Nat} {p : C9} (h : l[k]? = some p) : rgN l r (k + 1) = rgN l r k + if p.ring = r then 1 else 0 := by
 have hk := (Ab.1 h).1
 unfold rgN
 have h2 : (l.take (k + 1))[k]? = some p := by rw [Ag (by omega)]; exact h
 rw [Aj5 h2, List.take_take, Nat.min_eq_left (by omega)]
 have h3 : (l.take (k + 1)).drop (k + 1) = [] := List.drop_of_length_le (by rw [A5]; omega)
 rw [h3]
 simp only [Gr, List.append_nil, Bo]
 split <;> rfl
theorem Aqs {l : List C9} {r : Int} {k : Nat} {p : C9} (h : l[k]? = some p) (hp : p.ring = r) : (Acx l r)[rgN l r k]? = some (k : Int) := by
 unfold Acx rgN
 rw [Aj5 h, if_pos hp, Ao (Aj _), Nat.sub_self]
 rfl
theorem Apc (l : List C9) (r : Int) {k : Nat} (h : l.length <= k) : rgN l r k = (Acx l r).length := by
 unfold rgN Acx
 rw [Bf h]
theorem Rs (j : Df) (r : Int) (h : j.phs.length <= 1000000) : Sn Tryz.prog 182 [.iptr false [.sl 8 (Nk j.phs), .sl 1 (tI j.con), .li j.start] 0, .iptr false [.li r] 0] ((Acx j.phs r).map fun a => [.li a]) := by
 refine Y7 Tryz.func182 rfl rfl rfl (by simp [Tryz.ntmps182]) rfl fun yl => ?_
 refine VI.region_seq (by rfl) fun K1 hK1 => ?_
 simp [go_sem]
 refine hK1 _ ?_; clear hK1
 refine VI.block ?_
 refine VI.range j.phs.length (fun k => ⟨[(0, .lit (.func (.yield yl) #[] #[])), (2, .iptr false [.li r] 0), (7, .mPhase j.phs), (8, .li j.phs.length), (9, .li k)], []⟩) (fun k => rgN j.phs r k)
  (fun k => True) ⟨[], Bp (by decide) ?_ ?_, by simp⟩ ⟨rfl, rfl, trivial⟩ fun k hk _ => ?_
 ·simp [go_sem]
 ·simp [go_sem]
 refine VI.region_seq (by rfl) fun K1 hK1 => ?_
 simp [go_sem]
 refine hK1 _ ?_; clear hK1
 refine VI.seq ?_
 refine VI.cond (by simp [go_sem]) (by simp [go_sem]) (fun h10 => ?_) (fun h10 => ?_) <;> simp [go_sem] at h10
 ·refine VI.skip ?_
  refine VI.seq ?_
  refine VI.block ?_
  obtain ⟨e1, hx⟩ : ∃ e, j.phs[k]? = some e := ⟨_, Aa (by omega)⟩
  refine VI.region_seq (by rfl) fun K1 hK1 => ?_
  simp [go_sem, hx]
  repeat' with_reducible refine Ax ?_ ?_
  all_goals try (intros; (repeat' refine Ax ?_ ?_) <;> omega)
  refine hK1 _ ?_; clear hK1
  refine VI.seq (VI.region ?_)
  refine VIL.first 7 (by rfl) fun K1 hK1 => ?_
  by_cases hr : e1.ring = r
  ·have hit := Aqs hx hr
   have hnx := Agm (r := r) hx
   rw [if_pos hr] at hnx
   simp [go_sem, hr]
   refine hK1 _ ?_; clear hK1
   refine VIL.yield (vs := [.li k]) (by simp [go_sem]) (by simp [go_sem]) (by decide) (by simp [go_sem]) (by simp [go_sem]) (by simp [go_sem]) (by simp [hit]) (by simp [go_sem]) rfl fun b => ?_
   refine VIL.rest (by rfl) fun K1 hK1 => ?_
   cases b with
   | true =>
    simp [go_sem]
    refine hK1 _ ?_; clear hK1
    refine VI.cond (by simp [go_sem]) (by simp [go_sem]) (fun h17 => ?_) (fun h17 => ?_) <;> simp [go_sem] at h17
    exact VI.ret ⟨.inr rfl, fun h => by cases h⟩
   | false =>
    simp [go_sem]
    refine hK1 _ ?_; clear hK1
    refine VI.cond (by simp [go_sem]) (by simp [go_sem]) (fun h17 => ?_) (fun h17 => ?_) <;> simp [go_sem] at h17
    refine VI.skip ?_
    refine VI.region1 (by rfl) fun K1 hK1 => ?_
    simp [go_sem]
    refine hK1 _ ?_; clear hK1
    refine ⟨by omega, hnx.symm, rfl, trivial, [], Bp (by decide) ?_ ?_, by simp⟩
    ·simp [go_sem, Bq ((k : Int) + 1)]
    simp [go_sem]
  have hnx := Agm (r := r) hx
  rw [if_neg hr, Nat.add_zero] at hnx
  have hrb : (e1.ring == r) = false := by simpa using hr
  simp [go_sem, hrb]
  refine hK1 _ ?_; clear hK1
  refine VIL.noyield (d := 21) rfl (by simp [go_sem]) (by simp [go_sem]) (by decide) ?_
  refine VIL.rest (by rfl) fun K1 hK1 => ?_
  simp [go_sem, hrb]
  refine hK1 _ ?_; clear hK1
  refine VI.cond (by simp [go_sem]) (by simp [go_sem]) (fun h17 => ?_) (fun h17 => ?_) <;> simp [go_sem] at h17
  refine VI.skip ?_
  refine VI.region1 (by rfl) fun K1 hK1 => ?_
  simp [go_sem]
  refine hK1 _ ?_; clear hK1
  refine ⟨by omega, hnx.symm, rfl, trivial, [], Bp (by decide) ?_ ?_, by simp⟩
  ·simp [go_sem, Bq ((k : Int) + 1)]
  simp [go_sem]
 refine VI.exit ?_
 exact ⟨.inl rfl, fun _ => by rw [Apc _ _ (by omega)]; simp⟩
theorem Ow (j : Df) (r : Int) : PP 164 [] [.agg (Df.a false j), .li r] [] (.fn 182 [.iptr false [.sl 8 (Nk j.phs), .sl 1 (tI j.con), .li j.start] 0, .iptr false [.li r] 0]) := by
 refine B8.boxes (σr := [.box 88 [.mPhase j.phs, .mI j.con, .li j.start], .box 3 [.li r]]) (res := .fn 182 [.ptr 0 0, .ptr 1 0]) ?_ (by simp [go_sem, St.o])
 refine B0 Tryz.func164 ?_
 iterate 2 refine VW.R ?_
 exact .ret (rW ok0 [0, 1])
theorem Xc {l : List Dc} : ∀ (n : Nat) (s x : Int), x ∈ Ng l n s -> Ee l x = true
 | 0, s, x, h => by simp [Ng] at h
 | n + 1, s, x, h => by
  unfold Ng at h
  split at h
  ·rename_i hu
   rcases List.mem_cons.1 h with rfl | h
   ·exact hu
   exact Xc n _ x h
  cases h
theorem Aid {l : List Dc} {s x : Int} (h : x ∈ Q4 l s) : Ee l x = true := Xc 8 s x h
theorem K3 (j : Df) (r : Int) (g : Int) (f : Int) (h : j.phs.length <= 1000000) : Ct 144 [j.g, .li r, .li g, .li f] (fun d : Int => .li d) (fun d => d = -1 \/ (0 <= d /\ d < j.phs.length)) := by
 refine Cb Tryz.func144 ?_
 refine VX.R <| .seq ?_
 refine VX.L ok0 (Ow j r) <| .block ?_
 refine VX.wkE (s' := ⟨[(4, .ptr 0 0), (6, .ptr 1 0), (7, .ptr 2 0), (8, .ptr 3 0), (12, .fn 182 [.iptr false [.sl 8 (Nk j.phs), .sl 1 (tI j.con), .li j.start] 0, .iptr false [.li r] 0])], (fun (y1 : Int) => [.box 88 [.mPhase j.phs, .mI j.con, .li j.start], .box 3 [.li g], .box 3 [.li f], .box 3 [.li y1]]) (0)⟩) ⟨[0, 1, 2, 3], Bp (by decide) ?_ ?_, by simp⟩ ?_
 ·simp [go_sem]
 ·simp [go_sem]
 refine VX.rangeFn (Rs j r h) (fun (y1 : Int) => [.box 88 [.mPhase j.phs, .mI j.con, .li j.start], .box 3 [.li g], .box 3 [.li f], .box 3 [.li y1]]) 4 (fun _ => rfl) (by rfl) (fun _ => Og rfl) (by decide) (by rfl) ?_ (fun j1 y1 => True) (0) (trivial) (fun j1 vs y1 hj1 hy1 => ?_) (fun y1 hy1 => ?_)
 ·intro vs hvs
  obtain ⟨a, _, rfl⟩ := A4.1 hvs
  simp [go_sem]
 ·
  obtain ⟨a1, ha1, rfl⟩ := Bw hj1
  have hm := Wh (Ac ha1)
  refine VX.block ?_
  obtain ⟨e1, H1⟩ := gx j.phs a1.toNat
  refine VX.G H1 ?_
  refine VX.C ?_ ?_ <;> intro h26 <;> simp [go_sem] at h26
  ·refine VX.H H1 ?_
   refine VX.ret ⟨[.box 88 [.mPhase j.phs, .mI j.con, .li j.start], .box 3 [.li g], .box 3 [.li f], .box 3 [.li a1]], ⟨[0, 1, 2, 3], Bp (by decide) ?_ ?_, Dd rfl⟩, ?_⟩
   ·simp [go_sem]
   ·simp [go_sem, H1]
   refine (Am7 (by simp [go_sem]) ?_)
   simp [go_sem, H1]
   exact ⟨a1, by first | rfl | simp [go_sem], (by first | exact .inl rfl | exact .inr hm)⟩
  refine VX.skip ?_
  refine ⟨(y1), ?_, ⟨[0, 1, 2, 3], Bp (by decide) ?_ ?_, Dd rfl⟩⟩
  ·trivial
  ·simp [go_sem]
  simp [go_sem, H1]
 -- done
 refine VX.R ?_
 exact .ret (fin ok0 (-1) (by first | exact .inl rfl | exact .inr hm))
theorem Lv (j : Df) (c : Kr) (r : Int) (h : j.phs.length <= 1000000) (hl : c.lights.length = j.phs.length) : Ct 226 [j.g, c.g, .li r] (fun d : Bool => .lb d) (fun d => True) := by
 refine Cb Tryz.func226 ?_
 refine VX.R <| .seq ?_
 refine VX.L ok0 (Ow j r) <| .block ?_
 refine VX.wkE (s' := ⟨[(4, .ptr 0 0), (6, .ptr 1 0), (10, .fn 182 [.iptr false [.sl 8 (Nk j.phs), .sl 1 (tI j.con), .li j.start] 0, .iptr false [.li r] 0])], (fun (y1 : Bool) => [.box 133 [.mLight c.lights, .li c.grp, .mI c.nxt, .li c.wt], .box 4 [.lb y1]]) (false)⟩) ⟨[1, 2], Bp (by decide) ?_ ?_, by simp⟩ ?_
 ·simp [go_sem]
 ·simp [go_sem]
 refine VX.rangeFn (Rs j r h) (fun (y1 : Bool) => [.box 133 [.mLight c.lights, .li c.grp, .mI c.nxt, .li c.wt], .box 4 [.lb y1]]) 2 (fun _ => rfl) (by rfl) (fun _ => Og rfl) (by decide) (by rfl) ?_ (fun j1 y1 => True) (false) (trivial) (fun j1 vs y1 hj1 hy1 => ?_) (fun y1 hy1 => ?_)
 ·intro vs hvs
  obtain ⟨a, _, rfl⟩ := A4.1 hvs
  simp [go_sem]
 ·
  obtain ⟨a1, ha1, rfl⟩ := Bw hj1
  have hm := Wh (Ac ha1)
  refine VX.block ?_
  obtain ⟨e1, H1⟩ := gx c.lights a1.toNat
  refine VX.H H1 ?_
  refine VX.C ?_ ?_ <;> intro h18 <;> simp [go_sem] at h18
  ·refine VX.H H1 ?_
   refine VX.ret ⟨[.box 133 [.mLight c.lights, .li c.grp, .mI c.nxt, .li c.wt], .box 4 [.lb false]], ⟨[0, 1], Bp (by decide) ?_ ?_, Dd rfl⟩, ?_⟩
   ·simp [go_sem]
   ·simp [go_sem, H1]
   refine (Am7 (by simp [go_sem]) ?_)
   simp [go_sem, H1]
   exact ⟨false, by first | rfl | simp [go_sem], trivial⟩
  refine VX.skip ?_
  refine ⟨(y1), ?_, ⟨[0, 1], Bp (by decide) ?_ ?_, Dd rfl⟩⟩
  ·trivial
  ·simp [go_sem]
  simp [go_sem, H1]
 -- done
 refine VX.R ?_
 exact .ret (fin ok0 true trivial)
theorem Pd (j : Df) (c : Kr) (r : Int) (t : Int) (h : j.phs.length <= 1000000) (hn : c.nxt.length = 2) (hr : 0 <= r /\ r < 2) (hc : j.con.length <= 1000000) : Ct 227 [j.g, c.g, .li r, .li t] (fun d : Int => .li d) (fun d => d = -1 \/ (0 <= d /\ d < j.phs.length)) := by
 refine Cb Tryz.func227 ?_
 refine VX.R ?_
 refine VX.R <| .seq ?_
 refine VX.L ok0 (Ow j r) <| .block ?_
 refine VX.wkE (s' := ⟨[(4, .ptr 0 0), (5, .ptr 1 0), (6, .ptr 2 0), (7, .ptr 3 0), (8, .ptr 4 0), (9, .ptr 5 0), (13, .fn 182 [.iptr false [.sl 8 (Nk j.phs), .sl 1 (tI j.con), .li j.start] 0, .iptr false [.li r] 0])], (fun (y1 : Int × Int) => [.box 88 [.mPhase j.phs, .mI j.con, .li j.start], .box 133 [.mLight c.lights, .li c.grp, .mI c.nxt, .li c.wt], .box 3 [.li r], .box 3 [.li t], .box 3 [.li y1.1], .box 3 [.li y1.2]]) (0, (-1))⟩) ⟨[0, 1, 2, 3, 4, 5], Bp (by decide) ?_ ?_, by simp⟩ ?_
 ·simp [go_sem]
 ·simp [go_sem]
 refine VX.rangeFn (Rs j r h) (fun (y1 : Int × Int) => [.box 88 [.mPhase j.phs, .mI j.con, .li j.start], .box 133 [.mLight c.lights, .li c.grp, .mI c.nxt, .li c.wt], .box 3 [.li r], .box 3 [.li t], .box 3 [.li y1.1], .box 3 [.li y1.2]]) 6 (fun _ => rfl) (by rfl) (fun _ => Og rfl) (by decide) (by rfl) ?_ (fun j1 y1 => y1.2 = -1 \/ (0 <= y1.2 /\ y1.2 < j.phs.length)) (0, (-1)) (.inl rfl) (fun j1 vs y1 hj1 hy1 => ?_) (fun y1 hy1 => ?_)
 ·intro vs hvs
  obtain ⟨a, _, rfl⟩ := A4.1 hvs
  simp [go_sem]
 ·
  obtain ⟨a1, ha1, rfl⟩ := Bw hj1
  have hm := Wh (Ac ha1)
  refine VX.block <| .seq <| .L ok0 (Fe j.con a1 t (by first | assumption | omega)) ?_
  refine VX.C ?_ ?_ <;> intro h19 <;> simp [go_sem] at h19
  ·refine VX.exit ?_
   refine ⟨(y1.1, y1.2), ?_, ⟨[0, 1, 2, 3, 4, 5], Bp (by decide) ?_ ?_, Dd rfl⟩⟩
   ·first | exact hy1 | exact .inr hm
   all_goals simp [go_sem]
  refine VX.skip <| .seq ?_
  obtain ⟨e1, H1⟩ := gx c.nxt r.toNat
  refine VX.H H1 ?_
  refine VX.C ?_ ?_ <;> intro h34 <;> simp [go_sem] at h34
  ·refine VX.H H1 ?_
   refine VX.ret ⟨[.box 88 [.mPhase j.phs, .mI j.con, .li j.start], .box 133 [.mLight c.lights, .li c.grp, .mI c.nxt, .li c.wt], .box 3 [.li r], .box 3 [.li t], .box 3 [.li a1], .box 3 [.li y1.2]], ⟨[0, 1, 2, 3, 4, 5], Bp (by decide) ?_ ?_, Dd rfl⟩, ?_⟩
   ·simp [go_sem]
   ·simp [go_sem, H1]
   refine (Am7 (by simp [go_sem]) ?_)
   simp [go_sem, H1]
   exact ⟨a1, by first | rfl | simp [go_sem], (by first | exact .inl rfl | exact .inr hm | exact hy1)⟩
  refine VX.skip <| .H H1 ?_
  refine VX.C ?_ ?_ <;> intro h37 <;> simp [go_sem] at h37
  ·refine VX.H1 H1 ?_
   refine ⟨(y1.1, a1), ?_, ⟨[0, 1, 2, 3, 4, 5], Bp (by decide) ?_ ?_, Dd rfl⟩⟩
   ·first | exact hy1 | exact .inr hm
   ·simp [go_sem]
   simp [go_sem, H1]
  refine VX.skip ?_
  refine ⟨(y1.1, y1.2), ?_, ⟨[0, 1, 2, 3, 4, 5], Bp (by decide) ?_ ?_, Dd rfl⟩⟩
  ·first | exact hy1 | exact .inr hm
  ·simp [go_sem]
  simp [go_sem, H1]
 -- done
 refine VX.R ?_
 exact .ret (fin ok0 y1.2 (by first | exact .inl rfl | exact .inr hm | exact hy1))
theorem M3 (l : List Dc) (n : Int) (hl : l.length <= 1000000) (ht : ∀ t ∈ l, t.sec.length <= 1000000) : Ct 166 [.mTok l, .li n] (fun d : List Dc => .mTok d) (fun d => d.length = l.length /\ ∀ t ∈ d, t.sec.length <= 1000000) := by
 refine Cb Tryz.func166 ?_
 refine VX.R ?_
 refine VX.L ok0 (I9 l hl ht) <| .seq ?_
 refine VX.R <| .block ?_
 refine VX.rangeE l.length (fun i1 (y1 : (List Dc)) => ⟨[(2, .ptr 0 0), (3, .ptr 1 0), (5, .ptr 3 0), (11, .li l.length), (12, .li i1)], [.box 61 [.mTok l], .box 3 [.li n], .row 73 6 false false (Ni y1), .box 61 [.own 2 y1.length]]⟩) (fun i1 y1 => y1.length = l.length /\ ∀ t ∈ y1, t.sec.length <= 1000000) (l) (wk ok0 [0, 1, 2, 3]) (⟨rfl, ht⟩) fun i1 y1 hi1 hy1 => ?_
 refine VX.R <| .seq ?_
 refine VX.C ?_ ?_ <;> intro h13 <;> simp [go_sem] at h13
 ·refine VX.skip <| .seq <| .block <| .R ?_
  refine VX.L ok0 (N4 l i1) <| .block ?_
  refine VX.wkE (s' := ⟨[(2, .ptr 0 0), (3, .ptr 1 0), (5, .ptr 3 0), (6, .ptr 4 0), (11, .li l.length), (12, .li i1), (17, .fn 206 [.iptr false [.li i1] 0, .iptr false [.sl 6 (Ni l)] 0])], (fun (y2 : (List Dc)) => [.box 61 [.mTok l], .box 3 [.li n], .row 73 6 false false (Ni y2), .box 61 [.own 2 y2.length], .box 3 [.li i1]]) (y1)⟩) ⟨[0, 1, 2, 3, 4], Bp (by decide) ?_ ?_, by simp⟩ ?_
  ·simp [go_sem]
  ·simp [go_sem]
  refine VX.rangeFn (Rt l i1) (fun (y2 : (List Dc)) => [.box 61 [.mTok l], .box 3 [.li n], .row 73 6 false false (Ni y2), .box 61 [.own 2 y2.length], .box 3 [.li i1]]) 5 (fun _ => rfl) (by rfl) (fun _ => Og rfl) (by decide) (by rfl) ?_ (fun j2 y2 => y2.length = l.length /\ ∀ t ∈ y2, t.sec.length <= 1000000) (y1) (hy1) (fun j2 vs y2 hj2 hy2 => ?_) (fun y2 hy2 => ?_)
  ·intro vs hvs
   obtain ⟨a, _, rfl⟩ := A4.1 hvs
   simp [go_sem]
  ·
   obtain ⟨a2, ha2, rfl⟩ := Bw hj2
   obtain ⟨hp0, tp, hp1, hp2⟩ := Nd (Aid (Ac ha2))
   have hp3 := (Ab.1 hp1).1
   refine VX.block ?_
   obtain ⟨e1, H1⟩ := gx l a2.toNat
   refine VX.M H1 (Qw e1 n) ?_
   refine VX.C ?_ ?_ <;> intro h24 <;> simp [go_sem] at h24
   ·obtain ⟨e2, H2⟩ := gx y2 i1
    refine VX.M (cj2 H1 H2) (P4) ?_
    refine VX.exit ⟨[.box 61 [.mTok l], .box 3 [.li n], .row 73 6 false false (Ni ((y2).set i1 Nf)), .box 61 [.own 2 y2.length], .box 3 [.li i1]], ⟨[0, 1, 2, 3, 4], Bp (by decide) ?_ ?_, Dd rfl⟩, ?_⟩
    ·simp [go_sem]
    ·simp [go_sem, H1, H2]
    refine VX.H1 (cj2 H1 H2) ?_
    refine ⟨by omega, ((y2).set i1 Nf), ?_, wk (cj3 (Bq ((i1 : Int) + 1)) H1 H2) [0, 1, 2, 3]⟩
    first | exact hy2 | exact ⟨(List.length_set ..).trans hy2.1, Ib hy2.2 (by simp [Nf])⟩
   refine VX.skip ?_
   refine ⟨(y2), ?_, ⟨[0, 1, 2, 3, 4], Bp (by decide) ?_ ?_, Dd rfl⟩⟩
   ·exact hy2
   ·simp [go_sem]
   simp [go_sem, H1]
  -- done
  refine VX.R1 ?_
  refine ⟨by omega, (y2), ?_, wk (Bq ((i1 : Int) + 1)) [0, 1, 2, 3]⟩
  first | exact hy2 | exact ⟨(List.length_set ..).trans hy2.1, Ib hy2.2 (by simp [Nf])⟩
 refine VX.exit <| .R ?_
 refine VX.Z ok0 2 ?_
 exact .ret (fin ok0 y1 hy1)
noncomputable def Gs (l : List Dc) (n : Int) (hl : l.length <= 1000000) (ht : ∀ t ∈ l, t.sec.length <= 1000000) : List Dc := (got (M3 l n hl ht)).choose
theorem Zo (l : List Dc) (n : Int) (hl : l.length <= 1000000) (ht : ∀ t ∈ l, t.sec.length <= 1000000) : PP 166 [] [.mTok l, .li n] [] (.mTok (Gs l n hl ht)) := (got (M3 l n hl ht)).choose_spec.1
theorem Aac (l : List Dc) (n : Int) (hl : l.length <= 1000000) (ht : ∀ t ∈ l, t.sec.length <= 1000000) : (Gs l n hl ht).length = l.length /\ ∀ t ∈ (Gs l n hl ht), t.sec.length <= 1000000 := (got (M3 l n hl ht)).choose_spec.2
structure Ln (j : Df) : Prop where
  len : j.phs.length <= 1000000
  pos : 1 <= j.phs.length
  con : j.con.length <= 1000000
  ring : ∀ p ∈ j.phs, 0 <= p.ring /\ p.ring < 2
  grp : ∀ p ∈ j.phs, 0 <= p.grp /\ p.grp <= 3
structure O8 (j : Df) (l : List Int) : Prop where
  len : l.length = 2
  ok : ∀ x ∈ l, x = -1 \/ (0 <= x /\ x < j.phs.length)
theorem O8.set {j : Df} {l : List Int} (h : O8 j l) (i : Nat) {x : Int} (hx : x = -1 \/ (0 <= x /\ x < j.phs.length)) : O8 j (l.set i x) := ⟨by rw [List.length_set]; exact h.len, fun y hy => by
 rcases Bi hy with h1 | h1
 ·exact h.ok y h1
 subst h1; exact hx⟩
theorem M6 (j : Df) (c : Kr) (g : Int) (hj : Ln j) : Cx 113 [.box 133 [.own 1 c.lights.length, .li c.grp, .own 2 c.nxt.length, .li c.wt], .row 185 2 false false (Fj c.lights), .row 3 1 false false (tI c.nxt)] [j.g, .ptr 0 0, .li g] (fun d : Kr × (List Int) => [.box 133 [.own 1 d.1.lights.length, .li d.1.grp, .own 3 d.1.nxt.length, .li d.1.wt], .row 185 2 false false (Fj d.1.lights), .row 3 1 false false (tI d.2), .row 3 1 false false (tI d.1.nxt)]) (fun d => .tup []) (fun d => d.1.lights = c.lights /\ d.1.grp = g /\ d.1.wt = c.wt /\ O8 j d.1.nxt) := by
 refine Pr Tryz.func113 ?_
 iterate 2 refine VX.R ?_
 refine VX.H ok0 ?_
 refine VX.R <| .block ?_
 refine VX.rangeE 2 (fun i1 (y1 : (List Cz) × (List Int) × (List Int)) => ⟨[(1, .ptr 0 0), (2, .li g), (3, .ptr 3 0), (19, .li 2), (20, .li i1)], [.box 133 [.own 1 y1.1.length, .li g, .own 4 y1.2.2.length, .li c.wt], .row 185 2 false false (Fj y1.1), .row 3 1 false false (tI y1.2.1), .box 88 [.mPhase j.phs, .mI j.con, .li j.start], .row 3 1 false false (tI y1.2.2)]⟩) (fun i1 y1 => y1.1 = c.lights /\ O8 j y1.2.2) (c.lights, c.nxt, List.replicate 2 0) (wk ok0 [0, 1, 2, 3, 4]) (⟨rfl, by simp, fun x hx => by have := hj.pos; simp at hx; omega⟩) fun i1 y1 hi1 hy1 => ?_
 refine VX.R <| .seq ?_
 refine VX.C ?_ ?_ <;> intro h21 <;> simp [go_sem] at h21
 ·refine VX.skip <| .seq <| .block <| .R ?_
  have hl2 := hy1.2.len
  obtain ⟨e1, H1⟩ := gx y1.2.2 i1
  obtain ⟨Y1, cY1, qY1⟩ := got (K3 j i1 g 0 hj.len)
  refine VX.M1 H1 cY1 ?_
  refine VX.H1 H1 ?_
  refine ⟨by omega, (y1.1, y1.2.1, (y1.2.2).set i1 Y1), ?_, [0, 1, 2, 3, 4], Bp (by decide) ?_ ?_, Dd rfl⟩
  ·exact ⟨hy1.1, hy1.2.set _ qY1⟩
  all_goals simp [go_sem, Bq ((i1 : Int) + 1), H1, hy1.2.len]
 refine VX.exit ?_
 refine ⟨(⟨y1.1, g, y1.2.2, c.wt⟩, y1.2.1), Aeh [0, 1, 2, 4] (by simp [go_sem]) (by decide) (Dd rfl) (by simp [go_sem]) ?_, ⟨hy1.1, rfl, rfl, hy1.2⟩⟩
 repeat' (first | exact .nil | refine .cons (by simp [go_sem]) ?_)
theorem Fx (j : Df) (c : Kr) (p : Int) (hj : Ln j) (hl : c.lights.length = j.phs.length) (hn : O8 j c.nxt) (h0 : 0 <= p) (h1 : p < j.phs.length) : Cx 228 [.box 133 [.own 1 c.lights.length, .li c.grp, .own 2 c.nxt.length, .li c.wt], .row 185 2 false false (Fj c.lights), .row 3 1 false false (tI c.nxt)] [j.g, .ptr 0 0, .li p] (fun d : Kr × Bool × (List Int) => (bif d.2.1 then [.box 133 [.own 1 d.1.lights.length, .li d.1.grp, .own 3 d.1.nxt.length, .li d.1.wt], .row 185 2 false false (Fj d.1.lights), .row 3 1 false false (tI d.2.2), .row 3 1 false false (tI d.1.nxt)] else [.box 133 [.own 1 d.1.lights.length, .li d.1.grp, .own 2 d.1.nxt.length, .li d.1.wt], .row 185 2 false false (Fj d.1.lights), .row 3 1 false false (tI d.1.nxt)])) (fun d => .tup []) (fun d => d.1.lights.length = c.lights.length /\ d.1.wt = c.wt /\ O8 j d.1.nxt) := by
 refine Pr Tryz.func228 ?_
 have hjl := hj.len
 have hjc := hj.con
 have hnl := hn.len
 refine VX.R <| .seq ?_
 refine VX.R <| .block ?_
 refine VX.rangeE c.lights.length (fun i1 (y1 : Unit) => ⟨[(1, .ptr 0 0), (2, .li p), (3, .ptr 3 0), (12, .own 1 c.lights.length), (13, .li c.lights.length), (14, .li i1)], [.box 133 [.own 1 c.lights.length, .li c.grp, .own 2 c.nxt.length, .li c.wt], .row 185 2 false false (Fj c.lights), .row 3 1 false false (tI c.nxt), .box 88 [.mPhase j.phs, .mI j.con, .li j.start]]⟩) (fun i1 y1 => True) () (wk ok0 [0, 1, 2, 3]) (trivial) fun i1 y1 hi1 hy1 => ?_
 refine VX.R <| .seq ?_
 refine VX.C ?_ ?_ <;> intro h15 <;> simp [go_sem] at h15
 ·refine VX.skip <| .seq <| .block ?_
  obtain ⟨e1, H1⟩ := gx c.lights i1
  refine VX.H H1 ?_
  refine VX.region_seq (by rfl) fun K1 hK1 => ?_
  simp [go_sem, H1]
  refine Bz (by simp [go_sem]) (by simp [go_sem]) ?_
  simp [go_sem, H1]
  first | refine .lo (Fe j.con p i1 (by first | assumption | omega)) rfl (by simp [AV.cln, Cp]) ?_ | refine .skip ?_
  simp [go_sem, H1]
  refine hK1 _ ?_; clear hK1
  refine VX.C ?_ ?_ <;> intro h28 <;> simp [go_sem] at h28
  ·exact .ret ⟨(⟨c.lights, c.grp, c.nxt, c.wt⟩, false, []), rW H1 [0, 1, 2], ⟨rfl, rfl, hn⟩⟩
  refine VX.skip <| .H1 H1 ?_
  exact ⟨by omega, (), trivial, wk (cj2 (Bq ((i1 : Int) + 1)) H1) [0, 1, 2, 3]⟩
 refine VX.exit ?_
 obtain ⟨e2, H2⟩ := gx j.phs p.toNat
 refine VX.H H2 ?_
 have hrg := hj.ring e2 (Ac H2)
 obtain ⟨e3, H3⟩ := gx c.lights p.toNat
 refine VX.H (cj2 H2 H3) <| .seq ?_
 refine VX.G (cj2 H2 H3) ?_
 refine VX.C ?_ ?_ <;> intro h48 <;> simp [go_sem] at h48
 ·obtain ⟨N, hN, hqN⟩ := M6 j ⟨(c.lights).set p.toNat ⟨1, 0⟩, c.grp, c.nxt, c.wt⟩ e2.grp hj
  refine VX.S1 (fun K kk => by simp [go_sem, H2, H3]; refine .o [0, 1, 2] (hN) ?_; simp [go_sem, H2, H3]; exact kk) ?_
  (try have hnl2 := hqN.2.2.2.len)
  have hw4 := Bq (p + 1 : Int)
  obtain ⟨e5, H5⟩ := gx N.1.nxt e2.ring.toNat
  obtain ⟨Y1, cY1, qY1⟩ := got (K3 j e2.ring e2.grp (p + 1) hj.len)
  refine VX.M1 (cj4 H2 H3 hw4 H5) cY1 ?_
  refine ⟨(⟨N.1.lights, N.1.grp, (N.1.nxt).set e2.ring.toNat Y1, N.1.wt⟩, true, N.2), Aeh [0, 1, 2, 5] (by simp [go_sem]) (by decide) (Dd rfl) (by simp [go_sem, H2, H3, hw4, H5]) ?_, ⟨by dsimp only; rw [hqN.1]; simp, hqN.2.2.1, hqN.2.2.2.set _ qY1⟩⟩
  repeat' (first | exact .nil | refine .cons (by simp [go_sem, H2, H3, hw4, H5]) ?_)
 refine VX.skip ?_
 (try have hnl2 := hqN.2.2.2.len)
 have hw6 := Bq (p + 1 : Int)
 obtain ⟨e7, H7⟩ := gx c.nxt e2.ring.toNat
 obtain ⟨Y2, cY2, qY2⟩ := got (K3 j e2.ring e2.grp (p + 1) hj.len)
 refine VX.M1 (cj4 H2 H3 hw6 H7) cY2 ?_
 refine ⟨(⟨(c.lights).set p.toNat ⟨1, 0⟩, c.grp, (c.nxt).set e2.ring.toNat Y2, c.wt⟩, false, []), Aeh [0, 1, 2] (by simp [go_sem]) (by decide) (Dd rfl) (by simp [go_sem, H2, H3, hw6, H7]) ?_, ⟨by simp, rfl, hn.set _ qY2⟩⟩
 repeat' (first | exact .nil | refine .cons (by simp [go_sem, H2, H3, hw6, H7]) ?_)
end Go.Proofs.YtkkimgjinbaemaaGreat
