/- The walk. -/
import Derived.Test.YtkkimgjinbaemaaGreatKbr
namespace Go.Proofs.YtkkimgjinbaemaaGreat
open Go.RowKit
set_option linter.unusedVariables false
set_option linter.unusedSimpArgs false
set_option maxRecDepth 100000
set_option maxHeartbeats 4000000
section
variable {P : Program}
theorem VX.rangeFnA {n m : Nat} {γ : Type} {sl : List (Nat × AV)} {K : Exit -> St -> Prop} {g : Tmp} {ps : List Tmp} {asg : Code} {body : Code} {gf : FuncId} {caps : List AV} {items : List (List AV)} (hit : Sn P gf caps items) (f : γ -> List Ob) (M : Nat) (hM : ∀ x, (f x).length = M) (hg : Ce sl g = .fn gf caps)
    (hlive : ∀ x id, (St.mk sl (f x)).o id ≠ .gone -> ((St.mk sl (f x)).o id).live) (hps : ∀ p ∈ ps, p < n) (hcl : ∀ vs ∈ items, vs.length = ps.length /\ Il (fun _ => none) vs = vs)
    (Inv : Nat -> γ -> Prop) (x0 : γ) (hI0 : Inv 0 x0) (hround : ∀ i vs x, items[i]? = some vs -> Inv i x -> VX P n M asg ⟨I3 ps vs sl, f x⟩ (fun e s => e = .normal /\ VX P n M body s (Aou M sl f (Inv (i + 1)) K))) (hdone : ∀ x, Inv items.length x -> K .normal ⟨sl, f x⟩) :
    VX P n m (.rangeFunc (.tmp g) ps.toArray (asg) body) ⟨sl, f x0⟩ K := by
  have key : ∀ (k i : Nat) (x : γ), i + k = items.length -> Inv i x -> ∃ e s, K e s /\ ∃ (xs : Nat -> γ) (stop : Nat), xs i = x /\ i <= stop /\ stop <= items.length /\
      (∀ j vs, i <= j -> j < stop -> items[j]? = some vs -> ∃ sA, VW P n M asg ⟨I3 ps vs sl, f (xs j)⟩ (fun e s => e = .normal /\ s = sA) /\ VW P n M body sA (Gh M sl (f (xs (j + 1))) True fun _ _ => False)) /\
      (stop = items.length -> e = .normal /\ s = ⟨sl, f (xs stop)⟩) /\ (∀ vs, items[stop]? = some vs -> ∃ sA, VW P n M asg ⟨I3 ps vs sl, f (xs stop)⟩ (fun e s => e = .normal /\ s = sA) /\ VW P n M body sA (Gh M sl [] False fun e' s' => e' = e /\ s' = s)) := by
    intro k
    induction k with
    | zero =>
      intro i x hi hI
      refine ⟨.normal, ⟨sl, f x⟩, hdone x (by have : i = items.length := by omega
                                              rw [<- this]; exact hI), fun _ => x, i, rfl, Aj _, by omega, fun j vs h1 h2 => by omega, fun _ => ⟨rfl, rfl⟩, fun vs h => ?_⟩
      have := (Ab.1 h).1
      omega
    | succ k ih =>
      intro i x hi hI
      obtain ⟨vs, hvs⟩ : ∃ vs, items[i]? = some vs := ⟨_, Aa (by omega)⟩
      obtain ⟨e0, sA, hA, rfl, e1, s1, h1, h2⟩ := hround i vs x hvs hI
      have hA : VW P n M asg ⟨I3 ps vs sl, f x⟩ (fun e s => e = .normal /\ s = sA) := hA
      have other : ∀ (e : Exit) (s : St), K e s -> Gh M sl [] False (fun e' s' => e' = e /\ s' = s) e1 s1 -> ∃ e s, K e s /\ ∃ (xs : Nat -> γ) (stop : Nat), xs i = x /\ i <= stop /\ stop <= items.length /\
          (∀ j vs, i <= j -> j < stop -> items[j]? = some vs -> ∃ sA, VW P n M asg ⟨I3 ps vs sl, f (xs j)⟩ (fun e s => e = .normal /\ s = sA) /\ VW P n M body sA (Gh M sl (f (xs (j + 1))) True fun _ _ => False)) /\
          (stop = items.length -> e = .normal /\ s = ⟨sl, f (xs stop)⟩) /\ (∀ vs, items[stop]? = some vs -> ∃ sA, VW P n M asg ⟨I3 ps vs sl, f (xs stop)⟩ (fun e s => e = .normal /\ s = sA) /\ VW P n M body sA (Gh M sl [] False fun e' s' => e' = e /\ s' = s)) := by
        intro e s hK hR
        refine ⟨e, s, hK, fun _ => x, i, rfl, Aj _, by omega, fun j vs h1 h2 => by omega, fun h => by omega, fun vs' h => ?_⟩
        rw [hvs] at h
        injection h with h
        subst h
        refine ⟨sA, hA, h1.mono ?_⟩
        rintro e' s' ⟨rfl, rfl⟩
        exact hR
      cases e1 with
      | normal =>
        obtain ⟨x', h3, h4⟩ := h2
        obtain ⟨e, s, hK, xs, stop, q1, q2, q3, q4, q5, q6⟩ := ih (i + 1) x' (by omega) h3
        refine ⟨e, s, hK, fun j => if j = i then x else xs j, stop, if_pos rfl, by omega, q3, fun j vs' hj1 hj2 hjv => ?_, fun h => ?_, fun vs' h => ?_⟩
        · by_cases e0 : j = i
          · subst e0
            rw [hvs] at hjv
            injection hjv with hjv
            subst hjv
            simp only [if_true]
            rw [if_neg (by omega), q1]
            refine ⟨sA, hA, h1.mono ?_⟩
            rintro e' s' ⟨rfl, rfl⟩
            exact ⟨h4, trivial⟩
          · simp only
            rw [if_neg e0, if_neg (by omega)]
            exact q4 j vs' (by omega) hj2 hjv
        · obtain ⟨g1, g2⟩ := q5 h
          exact ⟨g1, by simp only; rw [if_neg (by omega)]; exact g2⟩
        · simp only
          rw [if_neg (by omega)]
          exact q6 vs' h
      | ret => obtain ⟨ob, h3, h4⟩ := h2; exact other _ _ h4 ⟨ob, h3, rfl, rfl⟩
      | exit id => obtain ⟨ob, h3, h4⟩ := h2; exact other _ _ h4 ⟨ob, h3, rfl, rfl⟩
      | goto t => obtain ⟨ob, h3, h4⟩ := h2; exact other _ _ h4 ⟨ob, h3, rfl, rfl⟩
      | panic ch => exact h2.elim
      | outgrown => exact h2.elim
  obtain ⟨e, s, hK, xs, stop, q1, q2, q3, q4, q5, q6⟩ := key items.length 0 x0 (by omega) hI0
  refine ⟨e, s, ?_, hK⟩
  have hex : ∀ j vs, ∃ sA, items[j]? = some vs -> j <= stop -> VW P n M asg ⟨I3 ps vs sl, f (xs j)⟩ (fun e s => e = .normal /\ s = sA) /\ VW P n M body sA (Gh M sl (f (xs (j + 1))) (j + 1 <= stop) fun e' s' => e' = e /\ s' = s) := fun j vs => by
    by_cases hc : items[j]? = some vs /\ j <= stop
    · by_cases e0 : j = stop
      · subst e0
        obtain ⟨sA, g1, g2⟩ := q6 vs hc.1
        exact ⟨sA, fun _ _ => ⟨g1, g2.mono fun e' s' h => h.jump⟩⟩
      · obtain ⟨sA, g1, g2⟩ := q4 j vs (Ae _) (by omega) hc.1
        exact ⟨sA, fun _ _ => ⟨g1, g2.mono fun e' s' h => h.mono (fun _ => by omega) fun _ _ h => h.elim⟩⟩
    · exact ⟨⟨[], []⟩, fun h1 h2 => absurd ⟨h1, h2⟩ hc⟩
  have := VW.rangeFnA (m := m) (K := fun e' s' => e' = e /\ s' = s) (body := body) (asg := asg) (ps := ps) (n := n) (sl := sl) (g := g) hit (fun j => f (xs j)) hg (fun j id => hlive (xs j) id) hps (fun j vs => (hex j vs).choose) hcl (fun j => j <= stop) (Ae _) (fun j vs hj hI => ?_) (fun j vs hj hI => ?_) (fun hI => ?_)
  · simp only [q1] at this
    exact this
  · rw [hM]
    exact ((hex j vs).choose_spec hj hI).1
  · rw [hM]
    exact ((hex j vs).choose_spec hj hI).2
  · have hs : stop = items.length := by omega
    obtain ⟨g1, g2⟩ := q5 hs
    rw [hs] at g2
    exact ⟨g1.symm, g2.symm⟩
end
def Aqc (p : Hc) : Prop := p.items.length <= 257 /\ ∀ t ∈ p.items, t.pay.length <= 1000
theorem Aq7 {x : Bv} {n : Int} (hd : Ew x /\ x.aud.length <= 2) : Ew (Fr x n hd.1.b) /\ (Fr x n hd.1.b).aud.length <= 2 := by
 obtain ⟨h1, h2, h3, h4, h5⟩ := Aep x n hd.1.b
 have hr := Q5 x.reg n hd.1.b.reg
 refine ⟨⟨h1, ?_, ?_, ?_, ?_⟩, by rw [h5]; exact hd.2⟩
 ·rw [h2, hr.2.2.2.1]; exact hd.1.vehs
 ·rw [h3]; exact Ak (Az _ _) hd.1.reqs
 ·rw [h4]; exact hd.1.dr
 rw [h2, hr.2.1.2]; exact hd.1.rq
theorem Acs {l : List TAg} {k : Nat} {a : TAg} {x : Int × Int × Int} (h : x ∈ U0 l k a) : x.1 = (k : Int) /\ 0 <= x.2.1 /\ 0 <= x.2.2 := by
 unfold U0 at h
 obtain ⟨n, _, rfl⟩ := A4.1 h
 have := (Ld l k).1
 exact ⟨rfl, by simp, by simp; omega⟩
structure Auf (c : Ed) (y : List Bv × List Fl × List C8 × List Int) : Prop where
  f1 : y.2.1 = c.sigs
  f2 : y.2.2.1 = c.svcs
  f3 : y.2.2.2 = c.stuck
  len : y.1.length = c.desks.length
  ok : ∀ d ∈ y.1, Ew d /\ d.aud.length <= 2
structure As7 (c : Ed) (ds : List Bv) (sg : List Fl) (sv : List C8) (sk : List Int) (rp : List (List (List B3))) (en : List Jp) (rs : List Int) (i : Nat) : Prop where
  f1 : sg = c.sigs
  f2 : sv = c.svcs
  f3 : sk = c.stuck
  len : ds.length = c.desks.length
  ok : ∀ d ∈ ds, Ew d /\ d.aud.length <= 2
  rl : rp.length = c.desks.length
  ro : ∀ r ∈ rp, r.length <= 2 /\ ∀ q ∈ r, q.length <= 257 /\ ∀ m ∈ q, E4 m
  el : en.length <= 600 * i
  sl : rs.length <= 600 * i
theorem Sk {α : Type} {p : α -> Prop} {l : List α} {i : Nat} {x : α} (h : ∀ y ∈ l, p y) (hx : p x) : ∀ y ∈ l.set i x, p y := fun y hy => by
 rcases Bi hy with h1 | h1
 ·exact h y h1
 rw [h1]; exact hx
theorem V4 (c : Ed) (l : List Hc) (hc : Hj c) (hl : l.length <= 1000) (hi : ∀ p ∈ l, Aqc p) : Cx 95 [.row 70 17 false false (Ga c.desks), .row 135 5 false false (Nj c.sigs), .row 138 3 false false (O0 c.svcs), .row 3 1 false false (tI c.stuck)] [.agg [.mJun c.cfg.juns, .mAg c.cfg.ags, .li c.cfg.per, .li c.cfg.cap, .li c.cfg.hold, .li c.cfg.lock, .lb c.ref, .li c.now, .own 0 c.desks.length, .own 1 c.sigs.length, .own 2 c.svcs.length, .own 3 c.stuck.length, .mView c.views], .mInp l] (fun d : List (List (List B3)) × List Jp × List Int × List Bv => [.row 70 17 false false (Ga d.2.2.2), .row 135 5 false false (Nj c.sigs), .row 138 3 false false (O0 c.svcs), .row 3 1 false false (tI c.stuck)]) (fun d => .tup [.imm false 1 (Rz d.1), .mEnt d.2.1, .mI d.2.2.1]) (fun d => d.2.2.2.length = c.desks.length /\ (∀ x ∈ d.2.2.2, Ew x /\ x.aud.length <= 2) /\ d.1.length = c.desks.length /\ (∀ r ∈ d.1, r.length <= 2 /\ ∀ q ∈ r, q.length <= 257 /\ ∀ m ∈ q, E4 m) /\ d.2.1.length <= 2400 /\ d.2.2.1.length <= 2400) := by
 refine Pr Tryz.func95 ?_
 have hcd := hc.desks
 have hca := hc.na
 have hna : c.cfg.ags.length <= 1000000 := by omega
 refine VX.R <| .seq ?_
 refine VX.R <| .block ?_
 refine VX.rangeE c.desks.length (fun i1 (y1 : (List Bv) × (List Fl) × (List C8) × (List Int)) => ⟨[(2, .ptr 4 0), (3, .ptr 5 0), (21, .li c.desks.length), (22, .li i1)], [.row 70 17 false false (Ga y1.1), .row 135 5 false false (Nj y1.2.1), .row 138 3 false false (O0 y1.2.2.1), .row 3 1 false false (tI y1.2.2.2), .box 37 [.mJun c.cfg.juns, .mAg c.cfg.ags, .li c.cfg.per, .li c.cfg.cap, .li c.cfg.hold, .li c.cfg.lock, .lb c.ref, .li c.now, .own 0 y1.1.length, .own 1 y1.2.1.length, .own 2 y1.2.2.1.length, .own 3 y1.2.2.2.length, .mView c.views], .box 147 [.mInp l]]⟩) (fun i1 y1 => Auf c y1) (c.desks, c.sigs, c.svcs, c.stuck) (wk ok0 [0, 1, 2, 3, 4, 5]) (⟨rfl, rfl, rfl, rfl, hc.desk⟩) fun i1 y1 hi1 hy1 => ?_
 refine VX.R <| .seq ?_
 refine VX.C ?_ ?_ <;> intro h23 <;> simp [go_sem] at h23
 ·refine VX.skip <| .seq <| .block <| .R ?_
  obtain ⟨dk, hdk⟩ : ∃ e, y1.1[i1]? = some e := ⟨_, Aa (by have := hy1.len; omega)⟩
  have hdi := hy1.ok dk (Ac hdk)
  have hyl := hy1.len
  have hBv := Ad5 dk c.now hdi.1.b
  have hBq := Aq7 (n := c.now) hdi
  generalize Fr dk c.now hdi.1.b = B at hBv hBq
  refine VX.M1 hdk (hBv) ?_
  refine VX.R1 ?_
  exact ⟨by omega, ((y1.1).set i1 B, y1.2.1, y1.2.2.1, y1.2.2.2), ⟨hy1.f1, hy1.f2, hy1.f3, by simpa using hyl, Sk hy1.ok hBq⟩, wk (Bq ((i1 : Int) + 1)) [0, 1, 2, 3, 4, 5]⟩
 refine VX.exit ?_
 have hyl := hy1.len
 have hyl2 : y1.1.length = c.cfg.ags.length := by omega
 refine VX.H hyl2 ?_
 refine VX.R ?_
 refine VX.R <| .seq ?_
 refine VX.H hyl2 <| .block ?_
 refine VX.own0 9 248 3 (by decide) (k' := 3) (by simp [go_sem]) ?_
 simp [go_sem, -Prod.exists]
 refine VX.own0 10 3 1 (by decide) (k' := 1) (by simp [go_sem]) ?_
 simp [go_sem, -Prod.exists]
 refine VX.rangeE c.cfg.ags.length (fun i2 (y2 : (List Bv) × (List Fl) × (List C8) × (List Int) × (List (List (List B3))) × (List Jp) × (List Int)) => ⟨[(2, .ptr 4 0), (3, .ptr 5 0), (8, .own 6 y2.2.2.2.2.1.length), (9, .own 7 y2.2.2.2.2.2.1.length), (10, .own 8 y2.2.2.2.2.2.2.length), (49, .li c.cfg.ags.length), (50, .li i2)], [.row 70 17 false false (Ga y2.1), .row 135 5 false false (Nj y2.2.1), .row 138 3 false false (O0 y2.2.2.1), .row 3 1 false false (tI y2.2.2.2.1), .box 37 [.mJun c.cfg.juns, .mAg c.cfg.ags, .li c.cfg.per, .li c.cfg.cap, .li c.cfg.hold, .li c.cfg.lock, .lb c.ref, .li c.now, .own 0 y2.1.length, .own 1 y2.2.1.length, .own 2 y2.2.2.1.length, .own 3 y2.2.2.2.1.length, .mView c.views], .box 147 [.mInp l], .row 152 1 false false (Rz y2.2.2.2.2.1), .row 248 3 false false (Abz y2.2.2.2.2.2.1), .row 3 1 false false (tI y2.2.2.2.2.2.2)]⟩) (fun i2 y2 => As7 c y2.1 y2.2.1 y2.2.2.1 y2.2.2.2.1 y2.2.2.2.2.1 y2.2.2.2.2.2.1 y2.2.2.2.2.2.2 i2) (y1.1, y1.2.1, y1.2.2.1, y1.2.2.2, List.replicate y1.1.length [], [], []) (wk hyl2 [0, 1, 2, 3, 4, 5, 6, 7, 8]) (⟨hy1.f1, hy1.f2, hy1.f3, hyl, hy1.ok, by simp [hyl2, hcd], fun r hr => by have := List.eq_of_mem_replicate hr; subst this; exact ⟨by simp, fun q hq => by cases hq⟩, by simp, by simp⟩) fun i2 y2 hi2 hy2 => ?_
 refine VX.R <| .seq ?_
 refine VX.C ?_ ?_ <;> intro h51 <;> simp [go_sem] at h51
 ·refine VX.skip <| .seq <| .block <| .R ?_
  refine VX.R <| .seq ?_
  have hyk := hy2.len
  obtain ⟨ag, hag⟩ : ∃ e, c.cfg.ags[i2]? = some e := ⟨_, Aa (by omega)⟩
  refine VX.L ok0 (Pk c.cfg i2) <| .block ?_
  refine VX.own0c 9 0 149 2 (by decide) rfl rfl ?_
  simp [go_sem, -Prod.exists]
  refine VX.wkE (s' := ⟨[(2, .ptr 4 0), (3, .ptr 5 0), (8, .own 6 y2.2.2.2.2.1.length), (9, .own 7 y2.2.2.2.2.2.1.length), (10, .own 8 y2.2.2.2.2.2.2.length), (11, .li i2), (12, .ptr 9 0), (49, .li c.cfg.ags.length), (50, .li i2), (56, .fn 129 [.iptr false (cfT c.cfg) 0, .iptr false [.li (i2 : Int)] 0])], (fun (y3 : List Hc) => [.row 70 17 false false (Ga y2.1), .row 135 5 false false (Nj y2.2.1), .row 138 3 false false (O0 y2.2.2.1), .row 3 1 false false (tI y2.2.2.2.1), .box 37 [.mJun c.cfg.juns, .mAg c.cfg.ags, .li c.cfg.per, .li c.cfg.cap, .li c.cfg.hold, .li c.cfg.lock, .lb c.ref, .li c.now, .own 0 y2.1.length, .own 1 y2.2.1.length, .own 2 y2.2.2.1.length, .own 3 y2.2.2.2.1.length, .mView c.views], .box 147 [.mInp l], .row 152 1 false false (Rz y2.2.2.2.2.1), .row 248 3 false false (Abz y2.2.2.2.2.2.1), .row 3 1 false false (tI y2.2.2.2.2.2.2), .box 147 [.own 10 y3.length], .row 149 2 false false (Ao6 y3)]) ([])⟩) ⟨[0, 1, 2, 3, 4, 5, 6, 7, 8, 9, 10], Bp (by decide) ?_ ?_, Dd rfl⟩ ?_
  ·simp [go_sem]
  ·simp [go_sem]
  refine VX.rangeFnA (Ti c.cfg i2 ag hag hna) (fun (y3 : List Hc) => [.row 70 17 false false (Ga y2.1), .row 135 5 false false (Nj y2.2.1), .row 138 3 false false (O0 y2.2.2.1), .row 3 1 false false (tI y2.2.2.2.1), .box 37 [.mJun c.cfg.juns, .mAg c.cfg.ags, .li c.cfg.per, .li c.cfg.cap, .li c.cfg.hold, .li c.cfg.lock, .lb c.ref, .li c.now, .own 0 y2.1.length, .own 1 y2.2.1.length, .own 2 y2.2.2.1.length, .own 3 y2.2.2.2.1.length, .mView c.views], .box 147 [.mInp l], .row 152 1 false false (Rz y2.2.2.2.2.1), .row 248 3 false false (Abz y2.2.2.2.2.2.1), .row 3 1 false false (tI y2.2.2.2.2.2.2), .box 147 [.own 10 y3.length], .row 149 2 false false (Ao6 y3)]) 11 (fun _ => rfl) (by rfl) (fun _ => Og rfl) (by decide) ?_ (fun j3 y3 => As7 c y2.1 y2.2.1 y2.2.2.1 y2.2.2.2.1 y2.2.2.2.2.1 y2.2.2.2.2.2.1 y2.2.2.2.2.2.2 i2 /\ y3.length <= j3 /\ ∀ p ∈ y3, Aqc p) ([]) (⟨hy2, by simp, fun p hp => by cases hp⟩) (fun j3 vs y3 hj3 hy3 => ?_) (fun y3 hy3 => ?_)
  ·intro vs hvs
   obtain ⟨a, _, rfl⟩ := A4.1 hvs
   simp [go_sem]
  ·
   obtain ⟨a3, ha3, rfl⟩ := Bw hj3
   have hse := Acs (Ac ha3)
   have hj3l := (Ab.1 ha3).1
   have hsq := Ss c.cfg.ags i2 ag
   have hsq2 := Gz ag
   have hyo := hy3.2.1
   refine VX.R1 ?_
   refine ⟨rfl, ?_⟩
   refine VX.block <| .R <| .seq ?_
   refine VX.R ?_
   refine VX.C ?_ ?_ <;> intro h62 <;> simp [go_sem] at h62
   ·obtain ⟨e1, H1⟩ := gx l a3.2.2.toNat
    refine VX.H1 H1 ?_
    refine VX.H1 H1 ?_
    refine ⟨(y3 ++ ([e1])), ?_, ⟨[0, 1, 2, 3, 4, 5, 6, 7, 8, 9, 10], Bp (by decide) ?_ ?_, Dd rfl⟩⟩
    ·exact ⟨hy3.1, by simp; have := hy3.2.1; omega, C6 hy3.2.2 (by first | exact hi _ (Ac H1) | exact ⟨Ae _, fun t ht => by cases ht⟩)⟩
    ·simp [go_sem]
    simp [go_sem, H1]
   refine VX.skip <| .H1 ok0 ?_
   refine ⟨(y3 ++ ([⟨false, []⟩])), ?_, ⟨[0, 1, 2, 3, 4, 5, 6, 7, 8, 9, 10], Bp (by decide) ?_ ?_, Dd rfl⟩⟩
   ·exact ⟨hy3.1, by simp; have := hy3.2.1; omega, C6 hy3.2.2 (by first | exact hi _ (Ac H1) | exact ⟨Ae _, fun t ht => by cases ht⟩)⟩
   all_goals simp [go_sem]
  -- done
  have hyk3 := hy3.1.len
  have hrl3 := hy3.1.rl
  have hel3 := hy3.1.el
  have hsl3 := hy3.1.sl
  have hsq := Ss c.cfg.ags i2 ag
  have hsq2 := Gz ag
  obtain ⟨dk, hdk⟩ : ∃ e, y2.1[i2]? = some e := ⟨_, Aa (by omega)⟩
  have hdi := hy3.1.ok dk (Ac hdk)
  have hyo := hy3.2.1
  simp only [A2] at hyo
  have hol : y3.length <= 1000 := by omega
  obtain ⟨Y1, cY1, qY1⟩ := got (Afm c.cfg dk y3 c.now hdi.1 hdi.2 hol hy3.2.2)
  have hTv := cY1
  have hTq := qY1
  generalize Y1 = D at hTv hTq
  have he6 := hTq.2.2.2.2.2.2.1
  have hs6 := hTq.2.2.2.2.2.2.2
  refine VX.Z ok0 10 ?_
  refine VX.M hdk (hTv) ?_
  refine VX.H hdk ?_
  obtain ⟨e2, H2⟩ := gx y2.2.2.2.2.1 i2
  refine VX.H H2 ?_
  refine VX.H H2 ?_
  refine VX.H1 H2 ?_
  refine VX.H1 H2 ?_
  exact ⟨by omega, ((y2.1).set i2 D.1, y2.2.1, y2.2.2.1, y2.2.2.2.1, (y2.2.2.2.2.1).set i2 D.2.1, y2.2.2.2.2.2.1 ++ D.2.2.1, y2.2.2.2.2.2.2 ++ D.2.2.2), ⟨hy3.1.f1, hy3.1.f2, hy3.1.f3, by simpa using hyk3, Sk hy3.1.ok ⟨hTq.1, by rw [hTq.2.1]; exact hdi.2⟩, by simpa using hrl3, Sk hy3.1.ro ⟨by rw [hTq.2.2.2.2.1]; exact hdi.2, hTq.2.2.2.2.2.1⟩, by simp; omega, by simp; omega⟩, wk (cj2 (Bq ((i2 : Int) + 1)) H2) [0, 1, 2, 3, 4, 5, 6, 7, 8]⟩
 refine VX.exit <| .R ?_
 refine VX.Z ok0 6 ?_
 refine VX.Z ok0 7 ?_
 refine VX.Z ok0 8 ?_
 refine VX.ret ⟨(y2.2.2.2.2.1, y2.2.2.2.2.2.1, y2.2.2.2.2.2.2, y2.1), Nx [0, 1, 2, 3] (by simp [go_sem]) (by decide) (Dd rfl) (by simp [go_sem, hy2.f1, hy2.f2, hy2.f3]) ?_, ⟨hy2.len, hy2.ok, hy2.rl, hy2.ro, by have := hy2.el; dsimp only; omega, by have := hy2.sl; dsimp only; omega⟩⟩
 repeat' (first | exact .nil | refine .cons (by simp [go_sem, hy2.f1, hy2.f2, hy2.f3]) ?_)
theorem Hj.at {c : Ed} (h : Hj c) (n : Int) : Hj ⟨c.cfg, c.ref, n, c.desks, c.sigs, c.svcs, c.stuck, c.views⟩ := ⟨h.ref, h.jun, h.nj, h.na, h.desks, h.desk, h.sigs, h.sig, h.svcs, h.svc, h.stuck, h.views, h.view⟩
def Aa6 (n : Int) (l : List Hc) (s : List (List B3)) : Prop := ∀ (k : Nat) (p : Hc) (q : List B3), l[k]? = some p -> p.op = true -> s[k]? = some q -> StQ n q
theorem Aa6.app {n : Int} {l : List Hc} {s : List (List B3)} {q : List B3} (h : Aa6 n l s) (hq : ∀ p, l[s.length]? = some p -> p.op = true -> StQ n q) : Aa6 n l (s ++ [q]) := fun k p q' h1 h2 h3 => by
 by_cases hk : k < s.length
 ·rw [Au hk] at h3
  exact h k p q' h1 h2 h3
 rw [Ao (by omega)] at h3
 have hk' : k = s.length := by
  have := (Ab.1 h3).1
  simp at this; omega
 subst hk'
 simp at h3
 subst h3
 exact hq p h1 h2
theorem Amv {l : List TAg} {k j : Nat} {a : TAg} {x : Int × Int × Int} (h : (U0 l k a)[j]? = some x) : x.2.2 = Fk l k + j := by
 unfold U0 at h
 rw [Ap] at h
 have hj : j < (List.range (Dk a).toNat).length := by
  cases hq : (List.range (Dk a).toNat)[j]? with
  | none => rw [hq] at h; cases h
  | some n => exact (Ab.1 hq).1
 rw [List.getElem?_range (by simpa using hj)] at h
 simp at h
 rw [<- h]
structure Arc (c : Ed) (ds : List Bv) (y : List Bv × List Fl × List C8 × List Int) : Prop where
  f0 : y.1 = ds
  sl : y.2.1.length = c.cfg.juns.length
  sig : ∀ g ∈ y.2.1, g.ctl.lights.length <= 8 /\ g.ctl.nxt.length <= 2
  f2 : y.2.2.1 = c.svcs
  f3 : y.2.2.2 = c.stuck
theorem Arc.city {c : Ed} {ds : List Bv} {y : List Bv × List Fl × List C8 × List Int} (h : Arc c ds y) (hc : Hj c) (h1 : ds.length = c.desks.length) (h2 : ∀ x ∈ ds, Ew x /\ x.aud.length <= 2) (n : Int) : Hj ⟨c.cfg, c.ref, n, y.1, y.2.1, y.2.2.1, y.2.2.2, c.views⟩ :=
 ⟨hc.ref, hc.jun, hc.nj, hc.na, by show y.1.length = _; rw [h.f0, h1]; exact hc.desks, by show ∀ d ∈ y.1, _; rw [h.f0]; exact h2, h.sl, h.sig, by show y.2.2.1.length = _; rw [h.f2]; exact hc.svcs, by show ∀ g ∈ y.2.2.1, _; rw [h.f2]; exact hc.svc, by show y.2.2.2.length = _; rw [h.f3]; exact hc.stuck, hc.views, hc.view⟩
theorem Adl (c : Ed) (l : List Hc) (hc : Hj c) (hl : l.length <= 1000) (hi : ∀ p ∈ l, Aqc p) : Ct 65 [c.g, .mInp l] (fun d : Ed × Tu => .tup [d.1.g, d.2.g]) (fun d => Hj d.1 /\ d.1.cfg = c.cfg /\ (d.2.ses.length : Int) = Fk c.cfg.ags c.cfg.ags.length /\ (∀ q ∈ d.2.ses, q.length <= 910 /\ ∀ m ∈ q, E4 m) /\ d.2.feed.length <= 1 /\ (∀ m ∈ d.2.feed, E4 m) /\ d.1.now = IntKind.i64.wrap ((if 1073741823 < c.now then 1073741823 else c.now) + 1) /\ Aa6 d.1.now l d.2.ses) := by
 refine Cb Tryz.func65 ?_
 have hcr := hc.ref
 have hcd := hc.desks
 have hca := hc.na
 refine VX.R ?_
 refine VX.L ok0 (Lq c hc.b) ?_
 refine VX.R <| .seq ?_
 refine VX.R ?_
 refine VX.C ?_ ?_ <;> intro h23 <;> simp [go_sem, hcr] at h23
 refine VX.skip ?_
 obtain ⟨Y1, cY1, qY1⟩ := V4 ⟨c.cfg, c.ref, IntKind.i64.wrap ((if 1073741823 < c.now then 1073741823 else c.now) + 1), c.desks, c.sigs, c.svcs, c.stuck, c.views⟩ l (hc.at _) hl hi
 have hAv := cY1
 have hAq := qY1
 generalize Y1 = A at hAv hAq
 have hA1 : A.2.2.2.length = c.desks.length := hAq.1
 refine VX.dull 7 rfl ?_
 simp [go_sem, -Prod.exists]
 refine VX.S (fun K kk => by simp [go_sem]; refine .o [4, 5, 6, 7] (hAv) ?_; simp [go_sem]; exact kk) <| .seq ?_
 refine VX.R <| .block ?_
 refine VX.rangeE A.2.2.1.length (fun i1 (y1 : (List Bv) × (List Fl) × (List C8) × (List Int)) => ⟨[(2, .ptr 0 0), (3, .ptr 1 0), (4, .ptr 2 0), (5, .ptr 3 0), (6, .ptr 8 0), (7, .ptr 9 0), (34, .mI A.2.2.1), (35, .li A.2.2.1.length), (36, .li i1)], [.box 37 [.mJun c.cfg.juns, .mAg c.cfg.ags, .li c.cfg.per, .li c.cfg.cap, .li c.cfg.hold, .li c.cfg.lock, .lb c.ref, .li (IntKind.i64.wrap ((if 1073741823 < c.now then 1073741823 else c.now) + 1)), .own 4 y1.1.length, .own 5 y1.2.1.length, .own 6 y1.2.2.1.length, .own 7 y1.2.2.2.length, .mView c.views], .box 147 [.mInp l], .box 37 [.nil 3, .nil 8, .li 0, .li 0, .li 0, .li 0, .lb false, .li 0, .nil 17, .nil 5, .nil 3, .nil 1, .nil 4], .box 154 [.nil 1, .nil 4], .row 70 17 false false (Ga y1.1), .row 135 5 false false (Nj y1.2.1), .row 138 3 false false (O0 y1.2.2.1), .row 3 1 false false (tI y1.2.2.2), .box 197 [.imm false 1 (Rz A.1)], .box 198 [.mEnt A.2.1]]⟩) (fun i1 y1 => Arc c A.2.2.2 y1) (A.2.2.2, c.sigs, c.svcs, c.stuck) (wk hA1 [0, 1, 2, 3, 4, 5, 6, 7, 8, 9]) (⟨rfl, hc.sigs, hc.sig, rfl, rfl⟩) fun i1 y1 hi1 hy1 => ?_
 refine VX.R <| .seq ?_
 refine VX.C ?_ ?_ <;> intro h37 <;> simp [go_sem] at h37
 ·refine VX.skip <| .seq <| .block ?_
  obtain ⟨e1, H1⟩ := gx A.2.2.1 i1
  refine VX.H H1 ?_
  have hsl := hy1.sl
  refine VX.H (cj2 H1 hsl) ?_
  refine VX.C ?_ ?_ <;> intro h53 <;> simp [go_sem] at h53
  ·have h53a : 0 <= e1 /\ e1 < (c.cfg.juns.length : Int) := by simpa using h53
   obtain ⟨jk, hjk⟩ : ∃ e, c.cfg.juns[e1.toNat]? = some e := ⟨_, Aa (by omega)⟩
   obtain ⟨sk, hsk⟩ : ∃ e, y1.2.1[e1.toNat]? = some e := ⟨_, Aa (by omega)⟩
   have hjb := hc.jun jk (Ac hjk)
   have hsb := hy1.sig sk (Ac hsk)
   obtain ⟨Y2, cY2, qY2⟩ := got (V6 jk sk hjb.1 hjb.2 hsb.1 hsb.2)
   have hGv := cY2
   have hGq := qY2
   generalize Y2 = G at hGv hGq
   refine VX.M1 (cj3 H1 hjk hsk) (hGv) ?_
   refine VX.H1 H1 ?_
   refine ⟨by omega, (y1.1, (y1.2.1).set e1.toNat G.1, y1.2.2.1, y1.2.2.2), ?_, wk (cj3 (Bq ((i1 : Int) + 1)) H1 hsl) [0, 1, 2, 3, 4, 5, 6, 7, 8, 9]⟩
   first | exact hy1 | exact ⟨hy1.f0, by simpa using hsl, Sk hy1.sig hGq, hy1.f2, hy1.f3⟩
  refine VX.skip <| .H1 H1 ?_
  refine ⟨by omega, (y1.1, y1.2.1, y1.2.2.1, y1.2.2.2), ?_, wk (cj3 (Bq ((i1 : Int) + 1)) H1 hsl) [0, 1, 2, 3, 4, 5, 6, 7, 8, 9]⟩
  first | exact hy1 | exact ⟨hy1.f0, by simpa using hsl, Sk hy1.sig hGq, hy1.f2, hy1.f3⟩
 refine VX.exit ?_
 have hS0 := hy1.city hc hAq.1 hAq.2.1 (IntKind.i64.wrap ((if 1073741823 < c.now then 1073741823 else c.now) + 1))
 obtain ⟨Y3, cY3, qY3⟩ := Xt ⟨c.cfg, c.ref, IntKind.i64.wrap ((if 1073741823 < c.now then 1073741823 else c.now) + 1), y1.1, y1.2.1, y1.2.2.1, y1.2.2.2, c.views⟩ hS0
 have hSv := cY3
 have hSq := qY3
 generalize Y3 = S at hSv hSq
 have hS := hSq.1
 have hSc : S.cfg = c.cfg := hSq.2.1
 have hSd := hS.desks
 have hSa := hS.na
 have hna : S.cfg.ags.length <= 1000000 := by omega
 refine VX.Z ok0 4 ?_
 refine VX.S (fun K kk => by simp [go_sem]; refine .o [0, 5, 6, 7] (hSv) ?_; simp [go_sem]; exact kk) ?_
 refine VX.Z ok0 5 ?_
 refine VX.Z ok0 6 ?_
 refine VX.Z ok0 7 ?_
 refine VX.Z ok0 10 ?_
 refine VX.R <| .seq ?_
 refine VX.R <| .block ?_
 refine VX.own0c 11 0 80 1 (by decide) rfl rfl ?_
 simp [go_sem, -Prod.exists]
 refine VX.rangeE S.cfg.ags.length (fun i2 (y2 : (List (List B3))) => ⟨[(2, .ptr 0 0), (3, .ptr 1 0), (4, .ptr 2 0), (5, .ptr 3 0), (6, .ptr 4 0), (7, .ptr 5 0), (11, .ptr 6 0), (78, .li S.cfg.ags.length), (79, .li i2)], [.box 37 [.mJun S.cfg.juns, .mAg S.cfg.ags, .li S.cfg.per, .li S.cfg.cap, .li S.cfg.hold, .li S.cfg.lock, .lb S.ref, .li S.now, .mDesk S.desks, .mSig S.sigs, .mSvc S.svcs, .mI S.stuck, .mView S.views], .box 147 [.mInp l], .box 37 [.nil 3, .nil 8, .li 0, .li 0, .li 0, .li 0, .lb false, .li 0, .nil 17, .nil 5, .nil 3, .nil 1, .nil 4], .box 154 [.nil 1, .nil 4], .box 197 [.imm false 1 (Rz A.1)], .box 198 [.mEnt A.2.1], .box 154 [.own 7 y2.length, .nil 4], .row 80 1 false false (N8 y2)]⟩) (fun i2 y2 => (y2.length : Int) = Fk S.cfg.ags i2 /\ (∀ q ∈ y2, q.length <= 910 /\ ∀ m ∈ q, E4 m) /\ Aa6 S.now l y2) ([]) (wk ok0 [0, 1, 2, 3, 8, 9, 11, 12]) (⟨rfl, (fun q hq => by cases hq), fun k p q _ _ h => by simp at h⟩) fun i2 y2 hi2 hy2 => ?_
 refine VX.R <| .seq ?_
 refine VX.C ?_ ?_ <;> intro h80 <;> simp [go_sem] at h80
 ·refine VX.skip <| .seq <| .block <| .R ?_
  obtain ⟨ag, hag⟩ : ∃ e, S.cfg.ags[i2]? = some e := ⟨_, Aa (by omega)⟩
  have hid : (i2 : Int) < (S.desks.length : Int) := by omega
  have hab := Xg hag
  have hal := Ss S.cfg.ags i2 ag
  have hcn := Gz ag
  have hsb := Ld S.cfg.ags i2
  refine VX.L ok0 (Pk S.cfg i2) <| .block ?_
  refine VX.wkE (s' := ⟨[(2, .ptr 0 0), (3, .ptr 1 0), (4, .ptr 2 0), (5, .ptr 3 0), (6, .ptr 4 0), (7, .ptr 5 0), (11, .ptr 6 0), (12, .ptr 8 0), (78, .li S.cfg.ags.length), (79, .li i2), (85, .fn 129 [.iptr false (cfT S.cfg) 0, .iptr false [.li (i2 : Int)] 0])], (fun (y3 : (List (List B3))) => [.box 37 [.mJun S.cfg.juns, .mAg S.cfg.ags, .li S.cfg.per, .li S.cfg.cap, .li S.cfg.hold, .li S.cfg.lock, .lb S.ref, .li S.now, .mDesk S.desks, .mSig S.sigs, .mSvc S.svcs, .mI S.stuck, .mView S.views], .box 147 [.mInp l], .box 37 [.nil 3, .nil 8, .li 0, .li 0, .li 0, .li 0, .lb false, .li 0, .nil 17, .nil 5, .nil 3, .nil 1, .nil 4], .box 154 [.nil 1, .nil 4], .box 197 [.imm false 1 (Rz A.1)], .box 198 [.mEnt A.2.1], .box 154 [.own 7 y3.length, .nil 4], .row 80 1 false false (N8 y3), .box 3 [.li i2]]) (y2)⟩) ⟨[0, 1, 2, 3, 4, 5, 6, 7, 8], Bp (by decide) ?_ ?_, by simp⟩ ?_
  ·simp [go_sem]
  ·simp [go_sem]
  refine VX.rangeFnA (Ti S.cfg i2 ag hag hna) (fun (y3 : (List (List B3))) => [.box 37 [.mJun S.cfg.juns, .mAg S.cfg.ags, .li S.cfg.per, .li S.cfg.cap, .li S.cfg.hold, .li S.cfg.lock, .lb S.ref, .li S.now, .mDesk S.desks, .mSig S.sigs, .mSvc S.svcs, .mI S.stuck, .mView S.views], .box 147 [.mInp l], .box 37 [.nil 3, .nil 8, .li 0, .li 0, .li 0, .li 0, .lb false, .li 0, .nil 17, .nil 5, .nil 3, .nil 1, .nil 4], .box 154 [.nil 1, .nil 4], .box 197 [.imm false 1 (Rz A.1)], .box 198 [.mEnt A.2.1], .box 154 [.own 7 y3.length, .nil 4], .row 80 1 false false (N8 y3), .box 3 [.li i2]]) 9 (fun _ => rfl) (by rfl) (fun _ => Og rfl) (by decide) ?_ (fun j3 y3 => (y3.length : Int) = Fk S.cfg.ags i2 + (j3 : Int) /\ (∀ q ∈ y3, q.length <= 910 /\ ∀ m ∈ q, E4 m) /\ Aa6 S.now l y3) (y2) (⟨by simpa using hy2.1, hy2.2.1, hy2.2.2⟩) (fun j3 vs y3 hj3 hy3 => ?_) (fun y3 hy3 => ?_)
  ·intro vs hvs
   obtain ⟨a, _, rfl⟩ := A4.1 hvs
   simp [go_sem]
  ·
   obtain ⟨a3, ha3, rfl⟩ := Bw hj3
   have hse := Acs (Ac ha3)
   have hj3l := (Ab.1 ha3).1
   have hat := Amv ha3
   have hy31 := hy3.1
   have hal3 : a3.2.2.toNat = y3.length := by omega
   refine VX.R1 ?_
   refine ⟨rfl, ?_⟩
   refine VX.block <| .R <| .seq ?_
   by_cases hc20 : a3.2.2 < l.length
   ·obtain ⟨e2, H2⟩ := gx l a3.2.2.toNat
    refine VX.H (cj3 hc20 H2 hid) ?_
    refine VX.C ?_ ?_ <;> intro h106 <;> simp [go_sem] at h106
    ·have hrl : A.1.length = c.desks.length := hAq.2.2.1
     have hcf : S.cfg.ags.length = c.cfg.ags.length := by rw [hSc]
     obtain ⟨rk, hrk0⟩ : ∃ e, A.1[i2]? = some e := ⟨_, Aa (by omega)⟩
     have hrq := hAq.2.2.2.1 rk (Ac hrk0)
     have hen := hAq.2.2.2.2.1
     have hrk : ∀ q ∈ rk, q.length <= 900 /\ ∀ m ∈ q, E4 m := fun q hq => ⟨by have := (hrq.2 q hq).1; omega, (hrq.2 q hq).2⟩
     have hr1 := hrq.1
     obtain ⟨Y4, cY4, qY4⟩ := got (Adk S ⟨a3.1, a3.2.1, a3.2.2⟩ rk A.2.1 hS (by have := hse.1; dsimp only; omega) (by have := hse.1; dsimp only; omega) hse.2.1 hrk (by omega) (by omega))
     have hTv := cY4
     have hTq := qY4
     generalize Y4 = T at hTv hTq
     refine VX.M1 (cj3 hc20 H2 hrk0) (hTv) ?_
     refine VX.H1 (cj2 hc20 H2) ?_
     refine ⟨(y3 ++ ([T])), ?_, ⟨[0, 1, 2, 3, 4, 5, 6, 7, 8], Bp (by decide) ?_ ?_, Dd rfl⟩⟩
     ·first | exact ⟨by simp; have := hy3.1; omega, C6 hy3.2.1 ⟨hTq.1, hTq.2.1⟩, hy3.2.2.app fun _ _ _ => hTq.2.2⟩ | exact ⟨by simp; have := hy3.1; omega, C6 hy3.2.1 ⟨Ae _, fun m hm => by cases hm⟩, hy3.2.2.app fun p hp ho => absurd ho (by rw [<- hal3, H2] at hp; injection hp with hp; rw [<- hp]; simp [h106])⟩ | exact ⟨by simp; have := hy3.1; omega, C6 hy3.2.1 ⟨Ae _, fun m hm => by cases hm⟩, hy3.2.2.app fun p hp ho => absurd (Ab.1 hp).1 (by omega)⟩
     ·simp [go_sem]
     simp [go_sem, hc20, H2]
    refine VX.skip <| .H1 (cj2 hc20 H2) ?_
    refine ⟨(y3 ++ ([[]])), ?_, ⟨[0, 1, 2, 3, 4, 5, 6, 7, 8], Bp (by decide) ?_ ?_, Dd rfl⟩⟩
    ·first | exact ⟨by simp; have := hy3.1; omega, C6 hy3.2.1 ⟨hTq.1, hTq.2.1⟩, hy3.2.2.app fun _ _ _ => hTq.2.2⟩ | exact ⟨by simp; have := hy3.1; omega, C6 hy3.2.1 ⟨Ae _, fun m hm => by cases hm⟩, hy3.2.2.app fun p hp ho => absurd ho (by rw [<- hal3, H2] at hp; injection hp with hp; rw [<- hp]; simp [h106])⟩ | exact ⟨by simp; have := hy3.1; omega, C6 hy3.2.1 ⟨Ae _, fun m hm => by cases hm⟩, hy3.2.2.app fun p hp ho => absurd (Ab.1 hp).1 (by omega)⟩
    ·simp [go_sem]
    simp [go_sem, hc20, H2]
   refine VX.H (cj2 hc20 hid) ?_
   refine VX.C ?_ ?_ <;> intro h106 <;> simp [go_sem] at h106
   refine VX.skip <| .H1 hc20 ?_
   refine ⟨(y3 ++ ([[]])), ?_, ⟨[0, 1, 2, 3, 4, 5, 6, 7, 8], Bp (by decide) ?_ ?_, Dd rfl⟩⟩
   ·first | exact ⟨by simp; have := hy3.1; omega, C6 hy3.2.1 ⟨hTq.1, hTq.2.1⟩, hy3.2.2.app fun _ _ _ => hTq.2.2⟩ | exact ⟨by simp; have := hy3.1; omega, C6 hy3.2.1 ⟨Ae _, fun m hm => by cases hm⟩, hy3.2.2.app fun p hp ho => absurd ho (by rw [<- hal3, H2] at hp; injection hp with hp; rw [<- hp]; simp [h106])⟩ | exact ⟨by simp; have := hy3.1; omega, C6 hy3.2.1 ⟨Ae _, fun m hm => by cases hm⟩, hy3.2.2.app fun p hp ho => absurd (Ab.1 hp).1 (by omega)⟩
   ·simp [go_sem]
   simp [go_sem, hc20]
  -- done
  refine VX.R1 ?_
  exact ⟨by omega, (y3), ⟨by have h3 := hy3.1; simp only [A2] at h3; rw [hab]; omega, hy3.2.1, hy3.2.2⟩, wk (Bq ((i2 : Int) + 1)) [0, 1, 2, 3, 4, 5, 6, 7]⟩
 refine VX.exit ?_
 have hv4 : S.views.length <= 4 := by have := hS.views; have := hS.nj; omega
 obtain ⟨Y5, cY5, qY5⟩ := got (Abc S.now S.views hv4 hS.view)
 have hFv := cY5
 have hFq := qY5
 have hFb := Kj S.views hv4 hS.view
 have hFs : E4 Y5 := Hb (by rw [hFq.2.2.1]; simp) (by rw [hFq.2.1]; simp) (by rw [hFq.2.2.2]; omega)
 generalize Y5 = F at hFv hFq hFs
 obtain ⟨R, hR, _⟩ := Ge [F] (by simp) (fun m hm => by rw [An.1 hm]; exact hFs)
 generalize hV : List.filter (fun t => !Nn t) [F] = V at hR
 refine VX.S (fun K kk => by simp [go_sem]; refine .l (hFv) ?_; simp [go_sem]; refine .o [8] (hR) ?_; simp [go_sem]; exact kk) ?_
 refine VX.D ?_
 refine VX.Z ok0 7 ?_
 exact .ret (fin ok0 (S, ⟨y2, V⟩) ⟨hS, hSc, by have h2 := hy2.1; have he : i2 = S.cfg.ags.length := (by omega); rw [he] at h2; rw [<- hSc]; exact h2, hy2.2.1, by rw [<- hV]; exact Ak (Az _ _) (by simp), fun m hm => by rw [<- hV] at hm; rw [An.1 (Bn.1 hm).1]; exact hFs, hSq.2.2.1, hy2.2.2⟩)
end Go.Proofs.YtkkimgjinbaemaaGreat
