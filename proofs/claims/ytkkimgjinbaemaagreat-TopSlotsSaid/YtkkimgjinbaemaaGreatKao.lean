/- The walk. -/
import Derived.Test.YtkkimgjinbaemaaGreatKan
namespace Go.Proofs.YtkkimgjinbaemaaGreat
open Go.RowKit
set_option linter.unusedVariables false
set_option linter.unusedSimpArgs false
set_option maxRecDepth 100000
set_option maxHeartbeats 4000000
theorem Wx (j : Fr) (r g : Int) : ∀ (i : Nat) (x : Int), x ∈ Jl j r g i -> 0 <= x /\ x < i
 | 0, x, h => by simp [Jl] at h
 | i + 1, x, h => by
  unfold Jl at h
  split at h
  ·rcases A0.1 h with h | h
   ·have := Wx j r g i x h; omega
   simp at h; omega
  have := Wx j r g i x h; omega
theorem Aqk {j : Fr} {r g x : Int} (h : x ∈ Ajr j r g) : 0 <= x /\ x < j.phs.length := Wx j r g _ x h
theorem Tp (c : List Int) (s : Int) (hl : c.length <= 1000000) : ∃ res, PP 220 [] [.mI c, .li s] [] res /\ IsD (fun d : Int × Int => .tup [.li d.1, .li d.2]) (fun _ => True) res := by
 obtain ⟨res, h, a, b, rfl⟩ := Ab0 c s hl
 exact ⟨_, h, (a, b), rfl, trivial⟩
noncomputable def Un (c : List Int) (s : Int) (hl : c.length <= 1000000) : Int × Int := (got (Tp c s hl)).choose
theorem Aca (c : List Int) (s : Int) (hl : c.length <= 1000000) : PP 220 [] [.mI c, .li s] [] (.tup [.lit (.int .i64 (Un c s hl).1), .lit (.int .i64 (Un c s hl).2)]) := (got (Tp c s hl)).choose_spec.1
theorem Aid (j : Fr) (hj : Mn j) : Ct 83 [j.g] (fun d : Mm => d.g) (fun d => d.lights.length = j.phs.length /\ Rf j d.nxt) := by
 refine Ek Tryz.func83 ?_
 have hjl := hj.len
 refine Bq ?_
 refine C8 ok0 ?_
 obtain ⟨E, hE, hqE⟩ := Pf j ⟨List.replicate j.phs.length ⟨0, 0⟩, 0, [], j.start⟩ 0 hj
 refine Ck 3 2 3 1 (by decide) rfl rfl ?_
 simp [go_sem, -Prod.exists]
 refine Cu 2 rfl ?_
 simp [go_sem, -Prod.exists]
 refine Cu 4 rfl ?_
 simp [go_sem, -Prod.exists]
 refine B3 (fun K kk => by simp [go_sem]; refine .o [3, 2, 4] (hE) ?_; simp [go_sem]; exact kk) ?_
 refine Bq ?_
 refine B2 ok0 2 ?_
 refine B2 ok0 5 ?_
 exact .ret (fin ok0 ⟨E.1.lights, E.1.grp, E.1.nxt, E.1.wt⟩ ⟨by rw [hqE.1]; simp, hqE.2.2.2⟩)
theorem R6 (j : Fr) (c : Mm) (hj : Mn j) (h1 : c.lights.length <= 1000000) (h2 : c.nxt.length <= 1000000) : Ct 201 [j.g, c.g] (fun d : Bool => .lb d) (fun d => d = true -> c.lights.length = j.phs.length /\ Rf j c.nxt) := by
 refine Ek Tryz.func201 ?_
 have hjl := hj.len
 have hjc := hj.con
 have hpl : ∀ r g, (Ajr j r g).length <= 1000000 := fun r g => Ak (Wy j r g _) hj.len
 refine Bq <| .seq ?_
 refine Bq ?_
 refine Br ?_ ?_ <;> intro h23
 ·refine Bq ?_
  exact .ret (fin ok0 false (by first | exact fun h => Bool.noConfusion h | (refine fun _ => ⟨hA, hB, fun x hx => ?_⟩; obtain ⟨k, hk⟩ := A3.1 hx; have hk2 := (Ab.1 hk).1; exact hy2 k x (by omega) hk)))
 obtain ⟨hA, hB⟩ : c.lights.length = j.phs.length /\ c.nxt.length = 2 := by omega
 refine Bp <| .seq <| .R <| .block ?_
 refine Bs j.phs.length (fun i1 (y1 : Unit) => ⟨[(2, .ptr 0 0), (3, .ptr 1 0), (25, .mPhase j.phs), (26, .li j.phs.length), (27, .li i1)], [.box 88 [.mPhase j.phs, .mI j.con, .li j.start], .box 133 [.mLight c.lights, .li c.grp, .mI c.nxt, .li c.wt]]⟩) (fun i1 y1 => True) () (wk ok0 [0, 1]) (trivial) fun i1 y1 hi1 hy1 => ?_
 refine Bq <| .seq ?_
 refine Br ?_ ?_ <;> intro h28
 ·refine Bp <| .seq <| .block ?_
  obtain ⟨e1, H1⟩ := gx j.phs i1
  refine Bu H1 ?_
  obtain ⟨e2, H2⟩ := gx c.lights i1
  obtain ⟨Y1, cY1, qY1⟩ := got (Age e1 e2)
  refine Da (cj2 H1 H2) cY1 ?_
  refine Br ?_ ?_ <;> intro h39
  ·refine Bu (cj2 H1 H2) ?_
   exact .ret (fin (cj2 H1 H2) false (by first | exact fun h => Bool.noConfusion h | (refine fun _ => ⟨hA, hB, fun x hx => ?_⟩; obtain ⟨k, hk⟩ := A3.1 hx; have hk2 := (Ab.1 hk).1; exact hy2 k x (by omega) hk)))
  refine Bp <| .H1 (cj2 H1 H2) ?_
  exact ⟨by omega, (), trivial, wk (cj3 (Dt ((i1 : Int) + 1)) H1 H2) [0, 1]⟩
 refine Bt <| .seq ?_
 obtain ⟨Y2, cY2, qY2⟩ := got (Ak0 c h1)
 refine Cz (fun K kk => by simp [go_sem]; refine .l cY2 ?_; simp [go_sem]; refine .l (Aca j.con Y2 hjc) ?_; simp [go_sem]; exact kk) ?_
 refine Bq ?_
 refine Br ?_ ?_ <;> intro h50
 ·refine Bq ?_
  exact .ret (fin ok0 false (by first | exact fun h => Bool.noConfusion h | (refine fun _ => ⟨hA, hB, fun x hx => ?_⟩; obtain ⟨k, hk⟩ := A3.1 hx; have hk2 := (Ab.1 hk).1; exact hy2 k x (by omega) hk)))
 refine Bp <| .seq ?_
 refine C9 (by kernel_rfl) (by rfl) (by kernel_rfl) fun K1 hK1 => ?_
 simp [go_sem]
 refine Nl (by simp [go_sem]) (by simp [go_sem]) ?_
 simp [go_sem]
 obtain ⟨Y3, cY3, qY3⟩ := got (Tq j hj)
 first | refine .lo cY3 rfl (by simp [AV.cln, Ez]) ?_ | refine .skip ?_
 simp [go_sem]
 refine hK1 _ _ (by kernel_rfl) ?_; clear hK1
 refine Br ?_ ?_ <;> intro h60
 ·refine Bq ?_
  exact .ret (fin ok0 false (by first | exact fun h => Bool.noConfusion h | (refine fun _ => ⟨hA, hB, fun x hx => ?_⟩; obtain ⟨k, hk⟩ := A3.1 hx; have hk2 := (Ab.1 hk).1; exact hy2 k x (by omega) hk)))
 refine Bp <| .seq <| .R <| .block ?_
 refine Bs c.nxt.length (fun i2 (y2 : Unit) => ⟨[(2, .ptr 0 0), (3, .ptr 1 0), (62, .mI c.nxt), (63, .li c.nxt.length), (64, .li i2)], [.box 88 [.mPhase j.phs, .mI j.con, .li j.start], .box 133 [.mLight c.lights, .li c.grp, .mI c.nxt, .li c.wt]]⟩) (fun i2 y2 => ∀ k x, k < i2 -> c.nxt[k]? = some x -> (x = -1 \/ (0 <= x /\ x < j.phs.length))) () (wk ok0 [0, 1]) (fun k x h => by omega) fun i2 y2 hi2 hy2 => ?_
 refine Bq <| .seq ?_
 refine Br ?_ ?_ <;> intro h65
 ·refine Bp <| .seq <| .block ?_
  obtain ⟨e3, H3⟩ := gx c.nxt i2
  refine Bu H3 ?_
  refine B4 (by rfl) fun K1 hK1 => ?_
  simp [go_sem, H3]
  refine RCG ?_
  simp [go_sem, H3]
  first | refine .lo (Anr j i2 c.grp (by first | assumption | omega)) rfl (by simp [AV.cln, Ez]) ?_ | refine .skip ?_
  simp [go_sem, H3]
  refine RCG ?_
  simp [go_sem, H3]
  obtain ⟨Y4, cY4, qY4⟩ := got (Aae (Ajr j i2 c.grp) e3 (hpl _ _))
  first | refine .lo cY4 rfl (by simp [AV.cln, Ez]) ?_ | refine .skip ?_
  simp [go_sem, H3]
  refine hK1 _ ?_; clear hK1
  refine Br ?_ ?_ <;> intro h80
  ·refine Bu H3 ?_
   exact .ret (fin H3 false (by first | exact fun h => Bool.noConfusion h | (refine fun _ => ⟨hA, hB, fun x hx => ?_⟩; obtain ⟨k, hk⟩ := A3.1 hx; have hk2 := (Ab.1 hk).1; exact hy2 k x (by omega) hk)))
  refine Bp <| .H1 H3 ?_
  exact ⟨by omega, (), (Api hy2 H3 (by by_cases he : e3 = -1; exact .inl he; exact .inr (Aqk (qY4 (by simpa [he] using h80))))), wk (cj2 (Dt ((i2 : Int) + 1)) H3) [0, 1]⟩
 refine Bt <| .seq <| .R ?_
 refine Br ?_ ?_ <;> intro h91
 ·refine Bq ?_
  exact .ret (fin ok0 false (by first | exact fun h => Bool.noConfusion h | (refine fun _ => ⟨hA, hB, fun x hx => ?_⟩; obtain ⟨k, hk⟩ := A3.1 hx; have hk2 := (Ab.1 hk).1; exact hy2 k x (by omega) hk)))
 refine Bp ?_
 refine B4 (by rfl) fun K1 hK1 => ?_
 simp [go_sem]
 refine RCG ?_
 simp [go_sem]
 obtain ⟨Y5, cY5, qY5⟩ := got (Vq c h1)
 first | refine .lo cY5 rfl (by simp [AV.cln, Ez]) ?_ | refine .skip ?_
 simp [go_sem]
 refine hK1 _ ?_; clear hK1
 refine Bz (Ex ?_); simp [go_sem]
 exact ⟨_, by first | rfl | simp [go_sem], (by first | exact fun h => Bool.noConfusion h | (refine fun _ => ⟨hA, hB, fun x hx => ?_⟩; obtain ⟨k, hk⟩ := A3.1 hx; have hk2 := (Ab.1 hk).1; exact hy2 k x (by omega) hk))⟩
noncomputable def Xs (j : Fr) (c : Mm) (hj : Mn j) (h1 : c.lights.length <= 1000000) (h2 : c.nxt.length <= 1000000) : Bool := (got (R6 j c hj h1 h2)).choose
theorem W9 (j : Fr) (c : Mm) (hj : Mn j) (h1 : c.lights.length <= 1000000) (h2 : c.nxt.length <= 1000000) : PP 201 [] [j.g, c.g] [] (.lb (Xs j c hj h1 h2)) := (got (R6 j c hj h1 h2)).choose_spec.1
theorem Ahc (j : Fr) (c : Mm) (hj : Mn j) (h1 : c.lights.length <= 1000000) (h2 : c.nxt.length <= 1000000) : (Xs j c hj h1 h2) = true -> c.lights.length = j.phs.length /\ Rf j c.nxt := (got (R6 j c hj h1 h2)).choose_spec.2
theorem Ars {n : Nat} {f : Nat -> Bool} (h : Mv n f = true) : ∀ i, i < n -> f i = true := by
 intro i hi
 exact Am.1 h i (List.mem_range.2 hi)
theorem As2 {j : Fr} (h : Px j = true) : Mn j := by
 simp only [Px, Ah, decide_eq_true_eq] at h
 obtain ⟨⟨⟨⟨⟨⟨⟨h1, h2⟩, h3⟩, h4⟩, h5⟩, h6⟩, h7⟩, h8⟩ := h
 have hp : ∀ p ∈ j.phs, It p = true := fun p hp => by
  obtain ⟨i, hi⟩ := A3.1 hp
  have := Ars h6 i (Ab.1 hi).1
  simpa [Mr, hi] using this
 exact ⟨by omega, h1, by omega, fun p hq => by have := Ql (hp p hq); omega, fun p hq => by have := Ql (hp p hq); omega⟩
theorem Aic (j : Fr) (c : Mm) (t : Int) (h1 : j.phs.length <= 1000000) (h2 : j.con.length <= 1000000) (h3 : c.lights.length <= 1000000) (h4 : c.nxt.length <= 1000000) : Ct 175 [j.g, c.g, .li t] (fun d : Mm => d.g) (fun d => d = ⟨[], 0, [], 0⟩ \/ (d.lights.length = j.phs.length /\ Rf j d.nxt /\ Mn j)) := by
 refine Ek Tryz.func175 ?_
 refine Bq <| .seq ?_
 by_cases hc1 : Px j = true
 ·have hj := As2 hc1
  have hjl := hj.len
  have hqv := Ahc j c hj h3 h4
  refine B4 (by rfl) fun K1 hK1 => ?_
  simp [go_sem, hc1]
  refine .l (Ok j (by first | assumption | omega) (by first | assumption | omega)) ?_
  simp [go_sem, hc1]
  refine RCG ?_
  simp [go_sem, hc1]
  first | refine .lo (W9 j c hj h3 h4) rfl (by simp [AV.cln, Ez]) ?_ | refine .skip ?_
  simp [go_sem, hc1]
  refine hK1 _ ?_; clear hK1
  refine Br ?_ ?_ <;> intro h20
  ·refine Bu hc1 ?_
   exact .ret (fin hc1 ⟨[], 0, [], 0⟩ (.inl rfl))
  obtain ⟨hA, hB⟩ := hqv (by simpa using h20)
  have hBl := hB.len
  refine Bp <| .E (fun K kk => by simp [go_sem, hc1]; refine .lo (Q6 _ (by first | (simp; omega) | (simp; assumption)) (by first | (simp [T.plain, Fd.t]; done) | (rw [Am]; intro e he; repeat (first | replace he := Aq he | replace he := Ay he); obtain ⟨x, _, rfl⟩ := A4.1 he; rfl))) rfl (by simp [AV.cln, Ez]) ?_; simp [go_sem, hc1]; refine .lo (Gy _ (by first | (simp; omega) | (simp; assumption)) (by first | (simp [T.plain]; done) | (rw [Am]; intro e he; repeat (first | replace he := Aq he | replace he := Ay he); obtain ⟨x, _, rfl⟩ := A4.1 he; rfl))) rfl (by simp [AV.cln, Ez]) ?_; simp [go_sem, hc1]; exact kk) <| .seq ?_
  refine Bu hc1 ?_
  refine Br ?_ ?_ <;> intro h35
  ·refine Bu hc1 ?_
   refine Bu hc1 ?_
   refine B2 ok0 3 ?_
   refine B2 ok0 4 ?_
   exact .ret (fin hc1 ⟨c.lights, c.grp, c.nxt, IntKind.i64.wrap (c.wt - 1)⟩ (.inr ⟨hA, hB, hj⟩))
  refine Bp <| .H hc1 <| .seq ?_
  refine Bu hc1 <| .block ?_
  refine Bs j.phs.length (fun i1 (y1 : (List Fd) × (List Int)) => ⟨[(2, .li t), (3, .ptr 0 0), (4, .ptr 1 0), (6, .ptr 2 0), (7, .ptr 5 0), (8, .lb (decide ((0 : Int) <= t) && decide (t < (j.phs.length : Int)))), (51, .mPhase j.phs), (52, .li j.phs.length), (53, .li i1)], [.box 88 [.mPhase j.phs, .mI j.con, .li j.start], .box 133 [.mLight c.lights, .li c.grp, .mI c.nxt, .li c.wt], .box 133 [.nil 2, .li 0, .nil 1, .li 0], .row 185 2 false false (Hq y1.1), .row 3 1 false false (tI y1.2), .box 133 [.own 3 y1.1.length, .li c.grp, .own 4 y1.2.length, .li c.wt]]⟩) (fun i1 y1 => y1.1.length = j.phs.length /\ y1.2 = c.nxt) (c.lights, c.nxt) (wk hc1 [0, 1, 2, 3, 4, 5]) (⟨hA, rfl⟩) fun i1 y1 hi1 hy1 => ?_
  refine Bu hc1 <| .seq ?_
  refine Br ?_ ?_ <;> intro h54
  ·refine Bp <| .seq <| .block ?_
   obtain ⟨e1, H1⟩ := gx j.phs i1
   refine Bu (cj2 hc1 H1) ?_
   obtain ⟨e2, H2⟩ := gx c.lights i1
   refine C8 (cj3 hc1 H1 H2) <| .seq ?_
   refine Bu (cj3 hc1 H1 H2) ?_
   refine Br ?_ ?_ <;> intro h68
   ·refine Cy (by rfl) fun K1 hK1 => ?_
    simp +contextual [go_sem, hc1, H1, H2]
    refine RCG ?_
    simp +contextual [go_sem, hc1, H1, H2]
    first | refine .lo (Hl j.con i1 t (by first | assumption | omega)) rfl (by simp [AV.cln, Ez]) ?_ | refine .skip ?_
    simp +contextual [go_sem, hc1, H1, H2]
    refine hK1 _ ?_; clear hK1
    obtain ⟨e3, H3⟩ := gx y1.1 i1
    refine De (fun K kk => by simp [go_sem, hc1, H1, H2, H3]; (repeat refine aK ?_); refine .lo (Aip e1 e2 _) rfl (by simp [AV.cln, Ez]) ?_; simp [go_sem, hc1, H1, H2, H3]; (repeat first | exact kk | refine aK ?_)) ?_
    refine Dj 3 rfl (by simp) Fd.t j.phs.length ?_ fun R hR => ?_
    ·apply Jk
     ·repeat' first | exact Kh | exact Kg | exact Kf (x := (⟨0, 0⟩ : Fd)) rfl | apply Jg | apply Ji | apply Jh | apply Ki | apply (fun h => Ke (x := (⟨_, _⟩ : Fd)) h rfl) | apply (fun h => Jj (x := (⟨_, _⟩ : Fd)) rfl h)
     first | rfl | omega | simp | (simp; omega)
    simp [go_sem, -Prod.exists]
    refine B0 (cj5 hc1 H1 H2 H3 hR) ?_
    refine ⟨by omega, (R, y1.2), ?_, [0, 1, 2, 3, 4, 5], Ds (by decide) ?_ ?_, by simp⟩
    ·exact ⟨hR, hy1.2⟩
    all_goals simp [go_sem, Dt ((i1 : Int) + 1), hc1, H1, H2, H3, hR, hy1.1]
   refine Bp ?_
   obtain ⟨e4, H4⟩ := gx y1.1 i1
   obtain ⟨Y1, cY1, qY1⟩ := got (Tt e1 e2 (decide ((e1.ma : Int) <= (IntKind.i64.wrap (e2.n + 1)))))
   refine Co (cj4 hc1 H1 H2 H4) cY1 ?_
   refine Dj 3 rfl (by simp) Fd.t j.phs.length ?_ fun R hR => ?_
   ·apply Jk
    ·repeat' first | exact Kh | exact Kg | exact Kf (x := (⟨0, 0⟩ : Fd)) rfl | apply Jg | apply Ji | apply Jh | apply Ki | apply (fun h => Ke (x := (⟨_, _⟩ : Fd)) h rfl) | apply (fun h => Jj (x := (⟨_, _⟩ : Fd)) rfl h)
    first | rfl | omega | simp | (simp; omega)
   simp [go_sem, -Prod.exists]
   refine B0 (cj5 hc1 H1 H2 H4 hR) ?_
   refine ⟨by omega, (R, y1.2), ?_, [0, 1, 2, 3, 4, 5], Ds (by decide) ?_ ?_, by simp⟩
   ·exact ⟨hR, hy1.2⟩
   all_goals simp [go_sem, Dt ((i1 : Int) + 1), hc1, H1, H2, H4, hR, hy1.1]
  refine Bt <| .seq <| .H hc1 ?_
  refine Br ?_ ?_ <;> intro h95
  ·obtain ⟨⟨N, b, o⟩, hN, hqN⟩ := Abx j ⟨y1.1, c.grp, y1.2, c.wt⟩ t hj hy1.1 (hy1.2.symm ▸ hB) (by omega) (by omega)
   by_cases hc17 : b = true
   ·subst hc17
    simp only [cond_true] at hN hqN
    refine Cu 3 rfl ?_
    simp [go_sem, -Prod.exists, hc1]
    refine Cu 4 rfl ?_
    simp [go_sem, -Prod.exists, hc1]
    refine Cb (fun K kk => by simp [go_sem, hc1]; refine .o [5, 3, 4] (hN) ?_; simp [go_sem, hc1]; exact kk) ?_
    refine Bu hc1 ?_
    refine B2 ok0 3 ?_
    refine B2 ok0 6 ?_
    exact .ret (fin hc1 ⟨N.lights, N.grp, N.nxt, N.wt⟩ (.inr ⟨hqN.1.trans hy1.1, hqN.2.2, hj⟩))
   have hc17 : b = false := by simpa using hc17
   subst hc17
   simp only [cond_false] at hN hqN
   refine Cu 3 rfl ?_
   simp [go_sem, -Prod.exists, hc1]
   refine Cu 4 rfl ?_
   simp [go_sem, -Prod.exists, hc1]
   refine Cb (fun K kk => by simp [go_sem, hc1]; refine .o [5, 3, 4] (hN) ?_; simp [go_sem, hc1]; exact kk) ?_
   refine Bu hc1 ?_
   refine B2 ok0 3 ?_
   refine B2 ok0 4 ?_
   exact .ret (fin hc1 ⟨N.lights, N.grp, N.nxt, N.wt⟩ (.inr ⟨hqN.1.trans hy1.1, hqN.2.2, hj⟩))
  obtain ⟨⟨N, b, o⟩, hN, hqN⟩ := Aby j ⟨y1.1, c.grp, y1.2, c.wt⟩ hj hy1.1 (hy1.2.symm ▸ hB)
  by_cases hc18 : b = true
  ·subst hc18
   simp only [cond_true] at hN hqN
   refine Cu 3 rfl ?_
   simp [go_sem, -Prod.exists, hc1]
   refine Cu 4 rfl ?_
   simp [go_sem, -Prod.exists, hc1]
   refine Cb (fun K kk => by simp [go_sem, hc1]; refine .o [5, 3, 4] (hN) ?_; simp [go_sem, hc1]; exact kk) ?_
   refine Bu hc1 ?_
   refine B2 ok0 3 ?_
   refine B2 ok0 6 ?_
   exact .ret (fin hc1 ⟨N.lights, N.grp, N.nxt, N.wt⟩ (.inr ⟨hqN.1.trans hy1.1, hqN.2.2, hj⟩))
  have hc18 : b = false := by simpa using hc18
  subst hc18
  simp only [cond_false] at hN hqN
  refine Cu 3 rfl ?_
  simp [go_sem, -Prod.exists, hc1]
  refine Cu 4 rfl ?_
  simp [go_sem, -Prod.exists, hc1]
  refine Cb (fun K kk => by simp [go_sem, hc1]; refine .o [5, 3, 4] (hN) ?_; simp [go_sem, hc1]; exact kk) ?_
  refine Bu hc1 ?_
  refine B2 ok0 3 ?_
  refine B2 ok0 4 ?_
  exact .ret (fin hc1 ⟨N.lights, N.grp, N.nxt, N.wt⟩ (.inr ⟨hqN.1.trans hy1.1, hqN.2.2, hj⟩))
 have hcf : Px j = false := by simpa using hc1
 refine B4 (by rfl) fun K1 hK1 => ?_
 simp [go_sem, hc1, hcf]
 refine .l (Ok j (by first | assumption | omega) (by first | assumption | omega)) ?_
 simp [go_sem, hc1, hcf]
 refine RCG ?_
 simp [go_sem, hc1, hcf]
 first | refine .lo (W9 j c hj h3 h4) rfl (by simp [AV.cln, Ez]) ?_ | refine .skip ?_
 simp [go_sem, hc1, hcf]
 refine hK1 _ ?_; clear hK1
 refine C5 ?_ ?_ <;> intro h20 <;> simp [go_sem] at h20
 refine Bu (cj2 hc1 hcf) ?_
 exact .ret (fin (cj2 hc1 hcf) ⟨[], 0, [], 0⟩ (.inl rfl))
theorem Au0 : tok Tryz.prog 306 = true /\ Rw Tryz.prog 306 = false /\ tsz Tryz.prog 306 = 1 /\ zok Tryz.prog 306 = true /\ Gv Tryz.prog 306 = [.lit .nilFunc] := ⟨by kernel_rfl, by kernel_rfl, by kernel_rfl, by kernel_rfl, by kernel_rfl⟩
attribute [go_sem] Au0
theorem Avc : tok Tryz.prog 169 = true /\ Rw Tryz.prog 169 = false /\ tsz Tryz.prog 169 = 1 /\ zok Tryz.prog 169 = true /\ Gv Tryz.prog 169 = [.lit .nilFunc] := ⟨by kernel_rfl, by kernel_rfl, by kernel_rfl, by kernel_rfl, by kernel_rfl⟩
attribute [go_sem] Avc
theorem Am3 (ts : List T) (off : Nat) : Ya [.iptr false ts off] := by
 constructor <;> intros <;> first | rfl | exact ⟨trivial, trivial⟩
theorem Tu (j : Fr) (hj : Mn j) : Ct 56 [j.g] (fun d : Hk => d.g) (fun d => d.lat = false /\ d.ctl.lights.length = j.phs.length /\ d.ctl.nxt.length = 2) := by
 refine Ek Tryz.func56 ?_
 obtain ⟨Y1, cY1, qY1⟩ := got (Aid j hj)
 have hq := qY1
 refine Bq ?_
 refine B8 ok0 cY1 ?_
 exact .ret (fin ok0 ⟨Y1, false⟩ ⟨rfl, hq.1, hq.2.len⟩)
theorem Ym (j : Fr) (s : Hk) (hj : Mn j) (hj8 : j.phs.length <= 8) (h1 : s.ctl.lights.length <= 8) (h2 : s.ctl.nxt.length <= 2) : Ct 96 [j.g, s.g] (fun d : Hk × Bool => .tup [d.1.g, .lb d.2]) (fun d => d.1.ctl.lights.length <= 8 /\ d.1.ctl.nxt.length <= 2) := by
 refine Ek Tryz.func96 ?_
 have h1M : s.ctl.lights.length <= 1000000 := by omega
 have h2M : s.ctl.nxt.length <= 1000000 := by omega
 obtain ⟨Y1, cY1, qY1⟩ := got (Tu j hj)
 have hq := qY1
 refine Bq <| .seq ?_
 refine Bq ?_
 refine Br ?_ ?_ <;> intro h7
 ·refine B8 ok0 cY1 ?_
  exact .ret (fin ok0 (Y1, true) ⟨by rw [hq.2.1]; exact hj8, by rw [hq.2.2]; decide⟩)
 refine Bp <| .L ok0 (Rt s h1M h2M) ?_
 exact .ret (fin ok0 (s, false) ⟨h1, h2⟩)
theorem Oc (j : Fr) (s : Hk) (t : Int) (k : Int) (hj8 : j.phs.length <= 8) (hcM : j.con.length <= 1000000) (h1 : s.ctl.lights.length <= 8) (h2 : s.ctl.nxt.length <= 2) : Ct 153 [j.g, s.g, .li t, .li k] (fun d : Hk => d.g) (fun d => d.ctl.lights.length <= 8 /\ d.ctl.nxt.length <= 2) := by
 refine Ek Tryz.func153 ?_
 have h1M : s.ctl.lights.length <= 1000000 := by omega
 have h2M : s.ctl.nxt.length <= 1000000 := by omega
 have hjM : j.phs.length <= 1000000 := by omega
 refine Bq <| .seq ?_
 refine Bq ?_
 refine Br ?_ ?_ <;> intro h12
 ·refine B8 ok0 (Rt s h1M h2M) ?_
  exact .ret (fin ok0 s ⟨h1, h2⟩)
 obtain ⟨Y1, cY1, qY1⟩ := got (Aic j s.ctl t hjM hcM h1M h2M)
 have hd := qY1
 have hv := cY1
 generalize Y1 = D at hd hv
 have hd2 : D.lights.length <= 8 /\ D.nxt.length <= 2 := by rcases hd with rfl | ⟨q1, q2, q3⟩; exact ⟨by simp, by simp⟩; exact ⟨by omega, by rw [q2.len]; decide⟩
 have hdM : D.lights.length <= 1000000 := by omega
 have hsM : (Mf D.lights k hdM).length <= 1000000 := by rw [Ac2]; exact hdM
 refine Bp <| .L ok0 (hv) ?_
 refine B8 ok0 (Ab8 D.lights k hdM) ?_
 obtain ⟨Y2, cY2, qY2⟩ := got (Vi j.con (Mf D.lights k hdM) hsM hcM)
 refine Da ok0 cY2 ?_
 exact .ret (fin ok0 ⟨D, Y2⟩ hd2)
noncomputable def Lh (j : Fr) (s : Hk) (t : Int) (k : Int) (hj8 : j.phs.length <= 8) (hcM : j.con.length <= 1000000) (h1 : s.ctl.lights.length <= 8) (h2 : s.ctl.nxt.length <= 2) : Hk := (got (Oc j s t k hj8 hcM h1 h2)).choose
theorem Aau (j : Fr) (s : Hk) (t : Int) (k : Int) (hj8 : j.phs.length <= 8) (hcM : j.con.length <= 1000000) (h1 : s.ctl.lights.length <= 8) (h2 : s.ctl.nxt.length <= 2) : PP 153 [] [j.g, s.g, .li t, .li k] [] (.agg ((Lh j s t k hj8 hcM h1 h2).a false)) := (got (Oc j s t k hj8 hcM h1 h2)).choose_spec.1
theorem Aa8 (j : Fr) (s : Hk) (t : Int) (k : Int) (hj8 : j.phs.length <= 8) (hcM : j.con.length <= 1000000) (h1 : s.ctl.lights.length <= 8) (h2 : s.ctl.nxt.length <= 2) : (Lh j s t k hj8 hcM h1 h2).ctl.lights.length <= 8 /\ (Lh j s t k hj8 hcM h1 h2).ctl.nxt.length <= 2 := (got (Oc j s t k hj8 hcM h1 h2)).choose_spec.2
theorem Vj (s : Fj) (h : s.ended.length <= 1000000) : ∃ d : Fj, PP 90 [] [s.g] [.row 3 1 false false (tI d.ended)] (.agg [.li d.ph, .li d.gr, .own 0 d.ended.length]) /\ (d = s) := by
 refine Mi (D := Fj) (F := fun d => .agg [.li d.ph, .li d.gr, .own 0 d.ended.length]) (S := fun d => [.row 3 1 false false (tI d.ended)]) (Q := fun d => d = s) Tryz.func90 rfl rfl rfl (by simp [Tryz.ntmps90]) ?_
 refine Bq ?_
 refine B3 (fun K kk => by simp [go_sem]; refine .lo (Gy _ (by first | (simp; omega) | (simp; assumption)) (by first | (simp [T.plain]; done) | (rw [Am]; intro e he; repeat (first | replace he := Aq he | replace he := Ay he); obtain ⟨x, _, rfl⟩ := A4.1 he; rfl))) rfl (by simp [AV.cln, Ez]) ?_; simp [go_sem]; exact kk) ?_
 refine Bq ?_
 exact .ret ⟨⟨s.ph, s.gr, s.ended⟩, rW ok0 [2], rfl⟩
theorem Wl (s : Fj) (h : s.ended.length <= 1000000) : PP 90 [] [s.g] [.row 3 1 false false (tI s.ended)] (.agg [.li s.ph, .li s.gr, .own 0 (s.ended).length]) := by
 obtain ⟨Y1, cY1, qY1⟩ := Vj s h
 have := cY1
 rwa [qY1] at this
theorem Nm (s : Fj) (now : Int) (h : s.ended.length <= 1000000) : Ct 151 [s.g, .li now] (fun d : Fj => d.g) (fun d => d.ended.length = s.ended.length) := by
 refine Ek Tryz.func151 ?_
 refine Bq ?_
 refine B8 ok0 (Wl s h) <| .seq ?_
 refine Bq ?_
 refine Br ?_ ?_ <;> intro h22
 ·obtain ⟨e1, H1⟩ := gx s.ended s.ph.toNat
  refine B0 H1 ?_
  refine Bu H1 ?_
  refine Bu H1 ?_
  refine B2 ok0 2 ?_
  exact .ret (fin H1 ⟨(-1), 0, (s.ended).set s.ph.toNat now⟩ (by first | rfl | (simp; done)))
 refine Bp <| .R ?_
 refine Bq ?_
 refine B2 ok0 2 ?_
 exact .ret (fin ok0 ⟨(-1), 0, s.ended⟩ (by first | rfl | (simp; done)))
noncomputable def Np (s : Fj) (now : Int) (h : s.ended.length <= 1000000) : Fj := (got (Nm s now h)).choose
theorem V0 (s : Fj) (now : Int) (h : s.ended.length <= 1000000) : PP 151 [] [s.g, .li now] [] (.agg ((Np s now h).a false)) := (got (Nm s now h)).choose_spec.1
theorem K5 (s : Fj) (now : Int) (h : s.ended.length <= 1000000) : (Np s now h).ended.length = s.ended.length := (got (Nm s now h)).choose_spec.2
theorem Ru (s : Fj) (c : Es) : PP 195 [] [c.g, .iptr false [.li s.ph, .li s.gr, .sl 1 (tI s.ended)] 0] [] (.lb (c.ph == s.ph)) := by
 refine Eb Tryz.func195 ?_
 iterate 2 refine Bw ?_
 exact .ret (rL ok0)
theorem Yv (s : Fj) (c : Es) : PP 196 [] [c.g, .iptr false [.fn 195 [.li s.ph, .li s.gr, .sl 1 (tI s.ended)] 0] 0] [] (.lb (c.ph == s.ph && Nf c)) := by
 refine Eb Tryz.func196 ?_
 refine Bw ?_
 refine Ce (fun K kk => by simp [go_sem]; refine .l (Ru s c) ?_; simp [go_sem]; refine RCG ?_; simp [go_sem]; refine .l (Iz c) ?_; simp [go_sem]; exact kk) ?_
 exact .ret (rL ok0)
theorem Ab1 (g : Fa) (s : Fj) (l : List Es) (hl : l.length <= 1000000) : Ct 173 [g.g, s.g, .mClaim l] (fun d : Bool => .lb d) (fun d => True) := by
 refine Ek Tryz.func173 ?_
 refine Bq ?_
 refine VX.sel1 1 rfl rfl (by simp) ?_
 simp [go_sem, -Prod.exists]
 refine Bq ?_
 refine VX.sel1 2 rfl rfl (by simp) ?_
 simp [go_sem, -Prod.exists]
 refine Bq ?_
 refine B4 (by rfl) fun K1 hK1 => ?_
 simp +contextual [go_sem]
 refine .lo (Jz l _ [.iptr false [.li s.ph, .li s.gr, .sl 1 (tI s.ended)] 0] (fun c : Es => c.ph == s.ph) hl (Am3 _ _) (Ru s)) (by simp [go_sem]) (by simp [AV.cln, Ez]) ?_
 simp +contextual [go_sem]
 refine RCG ?_
 simp +contextual [go_sem]
 first | refine .lo (Jz l _ [] Nf hl Rx Iz) rfl (by simp [AV.cln, Ez]) ?_ | refine .skip ?_
 simp +contextual [go_sem]
 refine RCG ?_
 simp +contextual [go_sem]
 first | refine .lo (Jz l _ [.iptr false [.fn 195 [.li s.ph, .li s.gr, .sl 1 (tI s.ended)] 0] 0] (fun c : Es => c.ph == s.ph && Nf c) hl (Am3 _ _) (Yv s)) rfl (by simp [AV.cln, Ez]) ?_ | refine .skip ?_
 simp +contextual [go_sem]
 refine hK1 _ ?_; clear hK1
 refine Bz (Ex ?_); simp [go_sem]
 exact ⟨_, by first | rfl | simp [go_sem], trivial⟩
theorem M7 (g : Fa) (s : Fj) (l : List Es) (now : Int) (h : s.ended.length <= 1000000) (hl : l.length <= 1000000) : Ct 152 [g.g, s.g, .mClaim l, .li now] (fun d : Fj => d.g) (fun d => d.ended.length = s.ended.length) := by
 refine Ek Tryz.func152 ?_
 refine Bq ?_
 refine B8 ok0 (Ka s h) <| .seq ?_
 refine B4 (by rfl) fun K1 hK1 => ?_
 simp [go_sem]
 refine RCG ?_
 simp [go_sem]
 obtain ⟨Y1, cY1, qY1⟩ := got (Ab1 g s l hl)
 first | refine .lo cY1 rfl (by simp [AV.cln, Ez]) ?_ | refine .skip ?_
 simp [go_sem]
 refine hK1 _ ?_; clear hK1
 refine Br ?_ ?_ <;> intro h20
 ·obtain ⟨Y2, cY2, qY2⟩ := got (Nm s now h)
  refine Do ok0 cY2 <| .seq ?_
  refine Bq ?_
  refine Br ?_ ?_ <;> intro h26
  ·obtain ⟨B, hvb⟩ : ∃ B : Int, PP 174 [] [g.g, .agg (Fj.a false Y2), .li now, .mClaim l] [] (.li B) := ⟨_, Zt g Y2 now l hl⟩
   refine B8 ok0 (hvb) ?_
   refine Bq ?_
   refine Br ?_ ?_ <;> intro h39
   ·obtain ⟨e1, H1⟩ := gx l B.toNat
    refine B0 H1 ?_
    refine Bu H1 ?_
    exact .ret (fin H1 ⟨e1.ph, 0, Y2.ended⟩ (by first | rfl | exact qY2))
   refine Bp <| .R ?_
   exact .ret (fin ok0 Y2 (by first | rfl | exact qY2))
  refine Bp <| .R ?_
  exact .ret (fin ok0 Y2 (by first | rfl | exact qY2))
 refine Bp <| .seq <| .R ?_
 refine Br ?_ ?_ <;> intro h26
 ·obtain ⟨B, hvb⟩ : ∃ B : Int, PP 174 [] [g.g, .agg (Fj.a false s), .li now, .mClaim l] [] (.li B) := ⟨_, Zt g s now l hl⟩
  refine B8 ok0 (hvb) ?_
  refine Bq ?_
  refine Br ?_ ?_ <;> intro h39
  ·obtain ⟨e2, H2⟩ := gx l B.toNat
   refine B0 H2 ?_
   refine Bu H2 ?_
   exact .ret (fin H2 ⟨e2.ph, 0, s.ended⟩ (by first | rfl | exact K5 s now h))
  refine Bp <| .R ?_
  exact .ret (fin ok0 s (by first | rfl | exact K5 s now h))
 refine Bp <| .R ?_
 exact .ret (fin ok0 s (by first | rfl | exact K5 s now h))
noncomputable def Ng (g : Fa) (s : Fj) (l : List Es) (now : Int) (h : s.ended.length <= 1000000) (hl : l.length <= 1000000) : Fj := (got (M7 g s l now h hl)).choose
theorem Yw (g : Fa) (s : Fj) (l : List Es) (now : Int) (h : s.ended.length <= 1000000) (hl : l.length <= 1000000) : PP 152 [] [g.g, s.g, .mClaim l, .li now] [] (.agg ((Ng g s l now h hl).a false)) := (got (M7 g s l now h hl)).choose_spec.1
theorem Y8 (g : Fa) (s : Fj) (l : List Es) (now : Int) (h : s.ended.length <= 1000000) (hl : l.length <= 1000000) : (Ng g s l now h hl).ended.length = s.ended.length := (got (M7 g s l now h hl)).choose_spec.2
theorem R9 (g : Fa) (j : Fr) (s : Hk) (v : Fj) (l : List Es) (k : Int) (now : Int) (hj8 : j.phs.length <= 8) (hcM : j.con.length <= 1000000) (h1 : s.ctl.lights.length <= 8) (h2 : s.ctl.nxt.length <= 2) (h3 : v.ended.length <= 1000000) (hl : l.length <= 1000000) : Ct 127 [g.g, j.g, s.g, v.g, .mClaim l, .li k, .li now] (fun d : Hk × Fj => .tup [d.1.g, d.2.g]) (fun d => d.1.ctl.lights.length <= 8 /\ d.1.ctl.nxt.length <= 2 /\ d.2.ended.length = v.ended.length) := by
 refine Ek Tryz.func127 ?_
 have h1M : s.ctl.lights.length <= 1000000 := by omega
 have h2M : s.ctl.nxt.length <= 1000000 := by omega
 have hqv := Y8 g v l now h3 hl
 have hvv := Yw g v l now h3 hl
 generalize Ng g v l now h3 hl = D at hqv hvv
 have hDM : D.ended.length <= 1000000 := by omega
 refine Bq <| .seq ?_
 refine Bq ?_
 refine Br ?_ ?_ <;> intro h19
 ·refine Cz (fun K kk => by simp [go_sem]; refine .l (Ol s h1M h2M) ?_; simp [go_sem]; refine .l (V0 v now h3) ?_; simp [go_sem]; exact kk) ?_
  refine Bz (Ex ?_); simp [go_sem]
  exact ⟨(s, (Np v now h3)), by first | rfl | simp [go_sem], ⟨h1, h2, K5 v now h3⟩⟩
 refine Bp <| .S (fun K kk => by simp [go_sem]; refine .l (hvv) ?_; simp [go_sem]; exact kk) ?_
 have hqs := Aa8 j s D.ph k hj8 hcM h1 h2
 have hvs := Aau j s D.ph k hj8 hcM h1 h2
 generalize Lh j s D.ph k hj8 hcM h1 h2 = G at hqs hvs
 refine B3 (fun K kk => by simp [go_sem]; refine .l (hvs) ?_; simp [go_sem]; exact kk) <| .seq ?_
 refine Bq ?_
 refine Br ?_ ?_ <;> intro h37
 ·refine Cz (fun K kk => by simp [go_sem]; refine .l (V0 D now hDM) ?_; simp [go_sem]; exact kk) ?_
  refine Bz (Ex ?_); simp [go_sem]
  exact ⟨(G, (Np D now hDM)), by first | rfl | simp [go_sem], ⟨hqs.1, hqs.2, (K5 D now hDM).trans hqv⟩⟩
 refine Bp <| .R ?_
 by_cases hc8 : 0 <= D.ph /\ D.ph < G.ctl.lights.length
 ·have hg1 : (0 : Int) <= D.ph := hc8.1
  have hg2 : D.ph < (G.ctl.lights.length : Int) := hc8.2
  obtain ⟨e1, H1⟩ := gx G.ctl.lights D.ph.toNat
  refine B3 (fun K kk => by simp [go_sem, hg1, hg2, H1]; repeat first | exact kk | refine aK ?_) ?_
  refine Cz (fun K kk => by simp [go_sem, hg1, hg2, H1]; refine .lo (Tb D _ hDM) rfl (by simp [AV.cln, Ez]) ?_; simp [go_sem, hg1, hg2, H1]; exact kk) ?_
  refine Bz (Ex ?_); simp [go_sem, hg1, hg2, H1]
  exact ⟨(G, (Li D _ hDM)), by first | rfl | simp [go_sem], ⟨hqs.1, hqs.2, by rw [Te]; exact hqv⟩⟩
 have hgf : (decide ((0 : Int) <= D.ph) && decide (D.ph < (G.ctl.lights.length : Int))) = false := by simpa using hc8
 refine B3 (fun K kk => by simp [go_sem, hgf]; repeat first | exact kk | refine aK ?_) ?_
 refine Cz (fun K kk => by simp [go_sem, hgf]; refine .lo (Tb D _ hDM) rfl (by simp [AV.cln, Ez]) ?_; simp [go_sem, hgf]; exact kk) ?_
 refine Bz (Ex ?_); simp [go_sem, hgf]
 exact ⟨(G, (Li D _ hDM)), by first | rfl | simp [go_sem], ⟨hqs.1, hqs.2, by rw [Te]; exact hqv⟩⟩
noncomputable def Kk (g : Fa) (j : Fr) (s : Hk) (v : Fj) (l : List Es) (k : Int) (now : Int) (hj8 : j.phs.length <= 8) (hcM : j.con.length <= 1000000) (h1 : s.ctl.lights.length <= 8) (h2 : s.ctl.nxt.length <= 2) (h3 : v.ended.length <= 1000000) (hl : l.length <= 1000000) : Hk × Fj := (got (R9 g j s v l k now hj8 hcM h1 h2 h3 hl)).choose
theorem Agv (g : Fa) (j : Fr) (s : Hk) (v : Fj) (l : List Es) (k : Int) (now : Int) (hj8 : j.phs.length <= 8) (hcM : j.con.length <= 1000000) (h1 : s.ctl.lights.length <= 8) (h2 : s.ctl.nxt.length <= 2) (h3 : v.ended.length <= 1000000) (hl : l.length <= 1000000) : PP 127 [] [g.g, j.g, s.g, v.g, .mClaim l, .li k, .li now] [] (.tup [.agg ((Kk g j s v l k now hj8 hcM h1 h2 h3 hl).1.a false), .agg ((Kk g j s v l k now hj8 hcM h1 h2 h3 hl).2.a false)]) := (got (R9 g j s v l k now hj8 hcM h1 h2 h3 hl)).choose_spec.1
theorem Ahf (g : Fa) (j : Fr) (s : Hk) (v : Fj) (l : List Es) (k : Int) (now : Int) (hj8 : j.phs.length <= 8) (hcM : j.con.length <= 1000000) (h1 : s.ctl.lights.length <= 8) (h2 : s.ctl.nxt.length <= 2) (h3 : v.ended.length <= 1000000) (hl : l.length <= 1000000) : (Kk g j s v l k now hj8 hcM h1 h2 h3 hl).1.ctl.lights.length <= 8 /\ (Kk g j s v l k now hj8 hcM h1 h2 h3 hl).1.ctl.nxt.length <= 2 /\ (Kk g j s v l k now hj8 hcM h1 h2 h3 hl).2.ended.length = v.ended.length := (got (R9 g j s v l k now hj8 hcM h1 h2 h3 hl)).choose_spec.2
theorem P3 (m : Dz) (h1 : m.tok.length <= 10000) (h2 : m.args.length <= 10000) (h3 : m.data.length <= 10000) : Ct 51 [m.g] (fun d : Bool => .lb d) (fun d => d = true -> (F0 m h1 h2 h3).length <= 200) := by
 refine Ek Tryz.func51 ?_
 have hv := Se m.kind
 have hq0 := Sm m.kind
 generalize Ef m.kind = S at hv hq0
 refine Bq <| .seq ?_
 refine Bq ?_
 refine Br ?_ ?_ <;> intro h14
 ·refine Bq ?_
  refine Bz (Ex ?_); simp [go_sem]
  exact ⟨false, by first | rfl | simp [go_sem], (by first | exact fun h => Bool.noConfusion h | exact fun h => by (have := of_decide_eq_true h; omega) | exact fun h => by (simp at h; omega))⟩
 refine Bp <| .L ok0 (hv) ?_
 refine Bq <| .seq <| .block ?_
 refine VX.cut (fun s => ∃ (w24 : Bool), s = ⟨[(1, .ptr 0 0), (3, .ptr 1 0), (4, .li (IntKind.i64.wrap (m.args.length - S.fix))), (24, .lb w24)], [.box 56 [.li m.kind, .mY m.tok, .mI m.args, .mY m.data], .box 177 [.li S.fix, .li S.grp, .li S.lea, .li S.mos, .li S.dat]]⟩) ?_ ?_
 ·refine B8 ok0 (Jb m.kind) ?_
  refine Br ?_ ?_ <;> intro h24
  ·refine Bp ?_
   refine ⟨[0, 1], _, Ds (by decide) ?_ ?_, by simp, ((Hf m.kind) && ((m.tok.length : Int) != 10)), rfl⟩
   all_goals simp [go_sem]
  refine Do ok0 (Jb m.kind) ?_
  refine ⟨[0, 1], _, Ds (by decide) ?_ ?_, by simp, (!(Hf m.kind) && ((m.tok.length : Int) != 0)), rfl⟩
  all_goals simp [go_sem]
 rintro _ ⟨w24, rfl⟩
 refine Br ?_ ?_ <;> intro h24
 ·refine Bq ?_
  refine Bz (Ex ?_); simp [go_sem]
  exact ⟨false, by first | rfl | simp [go_sem], (by first | exact fun h => Bool.noConfusion h | exact fun h => by (have := of_decide_eq_true h; omega) | exact fun h => by (simp at h; omega))⟩
 refine VX.cut (fun s => ∃ (w44 : Bool), s = ⟨[(1, .ptr 0 0), (3, .ptr 1 0), (44, .lb w44)], [.box 56 [.li m.kind, .mY m.tok, .mI m.args, .mY m.data], .box 177 [.li S.fix, .li S.grp, .li S.lea, .li S.mos, .li S.dat]]⟩) ?_ ?_
 ·refine Bq ?_
  refine Br ?_ ?_ <;> intro h44
  ·refine Bp ?_
   refine ⟨[0, 1], _, Ds (by decide) ?_ ?_, by simp, (((S.grp : Int) == 0) && (((IntKind.i64.wrap (m.args.length - S.fix)) : Int) != 0)), rfl⟩
   all_goals simp [go_sem]
  refine B0 ok0 ?_
  refine ⟨[0, 1], _, Ds (by decide) ?_ ?_, by simp, (decide ((0 : Int) < S.grp) && ((decide (((IntKind.i64.wrap (m.args.length - S.fix)) : Int) < (IntKind.i64.wrap (S.grp * S.lea))) || decide (((IntKind.i64.wrap (S.grp * S.mos)) : Int) < (IntKind.i64.wrap (m.args.length - S.fix)))) || (((Int.tmod (IntKind.i64.wrap (m.args.length - S.fix)) S.grp) : Int) != 0))), rfl⟩
  all_goals simp [go_sem]
 rintro _ ⟨w44, rfl⟩
 refine Br ?_ ?_ <;> intro h44
 ·refine Bq ?_
  refine Bz (Ex ?_); simp [go_sem]
  exact ⟨false, by first | rfl | simp [go_sem], (by first | exact fun h => Bool.noConfusion h | exact fun h => by (have := of_decide_eq_true h; omega) | exact fun h => by (simp at h; omega))⟩
 refine VX.cut (fun s => ∃ (w80 : Bool), s = ⟨[(1, .ptr 0 0), (80, .lb w80)], [.box 56 [.li m.kind, .mY m.tok, .mI m.args, .mY m.data], .box 177 [.li S.fix, .li S.grp, .li S.lea, .li S.mos, .li S.dat]]⟩) ?_ ?_
 ·refine Bq ?_
  refine Br ?_ ?_ <;> intro h80
  ·refine Bp ?_
   refine ⟨[0, 1], _, Ds (by decide) ?_ ?_, by simp, (decide ((0 : Int) <= S.dat) && ((m.data.length : Int) != S.dat)), rfl⟩
   all_goals simp [go_sem]
  refine Ci ?_
  refine ⟨[0, 1], _, Ds (by decide) ?_ ?_, by simp, decide ((200 : Int) < m.data.length), rfl⟩
  all_goals simp [go_sem]
 rintro _ ⟨w80, rfl⟩
 refine Br ?_ ?_ <;> intro h80
 ·refine Bq ?_
  refine Bz (Ex ?_); simp [go_sem]
  exact ⟨false, by first | rfl | simp [go_sem], (by first | exact fun h => Bool.noConfusion h | exact fun h => by (have := of_decide_eq_true h; omega) | exact fun h => by (simp at h; omega))⟩
 refine Bp <| .seq <| .R <| .block ?_
 refine Bs m.args.length (fun i1 (y1 : Unit) => ⟨[(1, .ptr 0 0), (97, .mI m.args), (98, .li m.args.length), (99, .li i1)], [.box 56 [.li m.kind, .mY m.tok, .mI m.args, .mY m.data]]⟩) (fun i1 y1 => True) () ⟨[0], Ds (by decide) ?_ ?_, by simp⟩ (trivial) fun i1 y1 hi1 hy1 => ?_
 ·simp [go_sem]
 ·simp [go_sem]
 refine Bq <| .seq ?_
 refine Br ?_ ?_ <;> intro h100
 ·refine Bp <| .seq <| .block ?_
  obtain ⟨e1, H1⟩ := gx m.args i1
  refine Bu H1 ?_
  refine Bu H1 ?_
  refine Br ?_ ?_ <;> intro h108
  ·refine Bu H1 ?_
   refine Bz (Ex ?_); simp [go_sem, H1]
   exact ⟨false, by first | rfl | simp [go_sem], (by first | exact fun h => Bool.noConfusion h | exact fun h => by (have := of_decide_eq_true h; omega) | exact fun h => by (simp at h; omega))⟩
  refine Bp <| .H1 H1 ?_
  refine ⟨by omega, (), ?_, [0], Ds (by decide) ?_ ?_, by simp⟩
  ·trivial
  all_goals simp [go_sem, Dt ((i1 : Int) + 1), H1]
 refine Bt <| .L ok0 (Ju m h1 h2 h3) ?_
 refine Bz (Ex ?_); simp [go_sem]
 exact ⟨decide ((((F0 m h1 h2 h3).length) : Int) <= 200), by first | rfl | simp [go_sem], (by first | exact fun h => Bool.noConfusion h | exact fun h => by (have := of_decide_eq_true h; omega) | exact fun h => by (simp at h; omega))⟩
theorem Pd (m : Dz) (h1 : m.tok.length <= 10000) (h2 : m.args.length <= 10000) (h3 : m.data.length <= 10000) : Ct 67 [m.g] (fun d : List Int × Int => .tup [.mY d.1, .li d.2]) (fun d => d.1.length <= 200 /\ (By m.tok -> By m.data -> By d.1)) := by
 refine Ek Tryz.func67 ?_
 refine Bq <| .seq ?_
 obtain ⟨Y1, cY1, qY1⟩ := got (P3 m h1 h2 h3)
 refine B8 ok0 cY1 ?_
 refine Br ?_ ?_ <;> intro h6
 ·refine Bq ?_
  exact .ret (fin ok0 ([], 6) (by first | exact ⟨Ae _, fun _ _ => Mo⟩ | exact ⟨qY1 (by simpa using h6), Jw m h1 h2 h3⟩))
 refine Bp <| .L ok0 (Ju m h1 h2 h3) ?_
 exact .ret (fin ok0 ((F0 m h1 h2 h3), 0) (by first | exact ⟨Ae _, fun _ _ => Mo⟩ | exact ⟨qY1 (by simpa using h6), Jw m h1 h2 h3⟩))
def Ano (r d : Jx) : Prop := d.num = r.num /\ d.ag = r.ag
theorem N8 (r : Jx) (n : Int) (hb : Re r) : Ct 147 [r.g, .li n] (fun d : Jx => d.g) (fun d => Re d /\ Ano r d /\ d.toks = I3 r.toks n hb.toks hb.tsec /\ d.vehs = r.vehs /\ d.bk = Acu r.bk) := by
 refine Ek Tryz.func147 ?_
 have hq := Acx r.toks n hb.toks hb.tsec
 refine Bq ?_
 refine B8 ok0 (M8 r hb) ?_
 refine B8 ok0 (Ab5 r.toks n hb.toks hb.tsec) ?_
 refine B8 ok0 (Aim r.bk) ?_
 refine Bq ?_
 exact .ret (fin ok0 ⟨r.num, r.ag, (I3 r.toks n hb.toks hb.tsec), r.vehs, (Acu r.bk)⟩ ⟨⟨hb.sec, hb.lims, by dsimp only; rw [hq.1]; exact hb.toks, hq.2, hb.vehs⟩, ⟨rfl, rfl⟩, rfl, rfl, rfl⟩)
noncomputable def Gk (r : Jx) (n : Int) (hb : Re r) : Jx := (got (N8 r n hb)).choose
theorem Aao (r : Jx) (n : Int) (hb : Re r) : PP 147 [] [r.g, .li n] [] (.agg ((Gk r n hb).a false)) := (got (N8 r n hb)).choose_spec.1
theorem Ou (r : Jx) (n : Int) (hb : Re r) : Re (Gk r n hb) /\ Ano r (Gk r n hb) /\ (Gk r n hb).toks = I3 r.toks n hb.toks hb.tsec /\ (Gk r n hb).vehs = r.vehs /\ (Gk r n hb).bk = Acu r.bk := (got (N8 r n hb)).choose_spec.2
theorem Sa (x : Du) (n : Int) (hb : Ti x) : Ct 124 [x.g, .li n] (fun d : Du => d.g) (fun d => Ti d /\ d.reg = Gk x.reg n hb.reg /\ d.reqs = x.reqs.filter (fun r => decide (n <= r.unt)) /\ d.draws = x.draws /\ d.aud = x.aud) := by
 refine Ek Tryz.func124 ?_
 refine Bq ?_
 refine B8 ok0 (Lb x hb) ?_
 refine B8 ok0 (Aao x.reg n hb.reg) ?_
 refine B8 ok0 (Yt x.reqs n hb.reqs hb.legs) ?_
 refine Bq ?_
 exact .ret (fin ok0 ⟨(Gk x.reg n hb.reg), (List.filter (fun r : Em => decide (n <= r.unt)) x.reqs), x.draws, x.aud⟩ ⟨⟨(Ou x.reg n hb.reg).1, Ak (Az _ _) hb.reqs, fun r h => hb.legs r (Bn.1 h).1, hb.draws, hb.draw, hb.aud⟩, rfl, rfl, rfl, rfl⟩)
noncomputable def Ev (x : Du) (n : Int) (hb : Ti x) : Du := (got (Sa x n hb)).choose
theorem Agw (x : Du) (n : Int) (hb : Ti x) : PP 124 [] [x.g, .li n] [] (.agg ((Ev x n hb).a false)) := (got (Sa x n hb)).choose_spec.1
theorem Sn (x : Du) (n : Int) (hb : Ti x) : Ti (Ev x n hb) /\ (Ev x n hb).reg = Gk x.reg n hb.reg /\ (Ev x n hb).reqs = x.reqs.filter (fun r => decide (n <= r.unt)) /\ (Ev x n hb).draws = x.draws /\ (Ev x n hb).aud = x.aud := (got (Sa x n hb)).choose_spec.2
theorem Q0 (x : Du) (l : List Ft) (now : Int) (hr : x.reqs.length <= 1000000) (hq4 : x.reg.ag.rq <= 3) (hl : l.length <= 4) (hv : ∀ v ∈ l, v.col.length <= 8 /\ v.cnt.length <= 8) : Ct 131 [x.g, .mView l, .li now] (fun d : Dz => d.g) (fun d => d.kind = 17 /\ d.args = [now] /\ d.tok = [] /\ d.data.length = vwl l + (x.reg.ag.rq * 3).toNat) := by
 refine Ek Tryz.func131 ?_
 have hlM : l.length <= 1000000 := by omega
 have hv8 : ∀ v ∈ l, v.col.length <= 8 := fun v h => (hv v h).1
 have hc := Acz x.reqs x.reg.ag.rq l now hr hlM hv8 hq4
 have hcM : (I4 x.reqs x.reg.ag.rq l now hr hlM hv8 hq4).length <= 1000 := by omega
 refine Bq ?_
 refine B8 ok0 (Ab6 x.reqs x.reg.ag.rq l now hr hlM hv8 hq4) ?_
 refine B8 ok0 (Yp now l (I4 x.reqs x.reg.ag.rq l now hr hlM hv8 hq4) hl hv hcM) ?_
 exact .ret (fin ok0 (Hz now l (I4 x.reqs x.reg.ag.rq l now hr hlM hv8 hq4) hl hv hcM) (by have hm := Y0 now l (I4 x.reqs x.reg.ag.rq l now hr hlM hv8 hq4) hl hv hcM; have hB := Rz l hl hv; exact ⟨hm.1, hm.2.1, hm.2.2.1, by rw [hm.2.2.2]; simp only [Bo]; omega⟩))
noncomputable def E7 (x : Du) (l : List Ft) (now : Int) (hr : x.reqs.length <= 1000000) (hq4 : x.reg.ag.rq <= 3) (hl : l.length <= 4) (hv : ∀ v ∈ l, v.col.length <= 8 /\ v.cnt.length <= 8) : Dz := (got (Q0 x l now hr hq4 hl hv)).choose
theorem Aeo (x : Du) (l : List Ft) (now : Int) (hr : x.reqs.length <= 1000000) (hq4 : x.reg.ag.rq <= 3) (hl : l.length <= 4) (hv : ∀ v ∈ l, v.col.length <= 8 /\ v.cnt.length <= 8) : PP 131 [] [x.g, .mView l, .li now] [] (.agg ((E7 x l now hr hq4 hl hv).a false)) := (got (Q0 x l now hr hq4 hl hv)).choose_spec.1
theorem Ow (x : Du) (l : List Ft) (now : Int) (hr : x.reqs.length <= 1000000) (hq4 : x.reg.ag.rq <= 3) (hl : l.length <= 4) (hv : ∀ v ∈ l, v.col.length <= 8 /\ v.cnt.length <= 8) : (E7 x l now hr hq4 hl hv).kind = 17 /\ (E7 x l now hr hq4 hl hv).args = [now] /\ (E7 x l now hr hq4 hl hv).tok = [] /\ (E7 x l now hr hq4 hl hv).data.length = vwl l + (x.reg.ag.rq * 3).toNat := (got (Q0 x l now hr hq4 hl hv)).choose_spec.2
theorem Aev (x : Du) (l : List Ft) (now : Int) (hr : x.reqs.length <= 1000000) (hq4 : x.reg.ag.rq <= 3) (hl : l.length <= 4) (hv : ∀ v ∈ l, v.col.length <= 8 /\ v.cnt.length <= 8) : (E7 x l now hr hq4 hl hv).kind = 17 /\ (E7 x l now hr hq4 hl hv).args = [now] /\ (E7 x l now hr hq4 hl hv).tok = [] /\ (E7 x l now hr hq4 hl hv).data.length <= 60 := by have h := Ow x l now hr hq4 hl hv; have := Ab2 hv; exact ⟨h.1, h.2.1, h.2.2.1, by omega⟩
theorem Vh (r : Jx) (l : List Int) (slot : Int) (now : Int) (sec : List Int) (hb : Re r) (hl : 3 <= l.length) (hs : sec.length <= 1000) : Cx 233 [.box 66 (r.a false)] [.ptr 0 0, .mI l, .li slot, .li now, .mY sec] (fun d : Dz × Int × Jx => [.box 66 (d.2.2.a false)]) (fun d => .tup [d.1.g, .li d.2.1]) (fun d => Re d.2.2 /\ d.2.2.num = r.num /\ d.2.2.ag = r.ag /\ d.2.2.vehs = r.vehs /\ d.2.2.bk = r.bk /\ d.1.tok = [] /\ d.1.args.length <= 1 /\ d.1.data.length <= 1002) := by
 refine R3 Tryz.func233 ?_
 have hsM : sec.length <= 1000000 := by omega
 refine Bq ?_
 refine Bu ok0 <| .seq ?_
 refine B2 ok0 2 ?_
 obtain ⟨e1, H1⟩ := gx l 0
 obtain ⟨e2, H2⟩ := gx l 1
 obtain ⟨e3, H3⟩ := gx l 2
 refine Da (cj3 H1 H2 H3) (T3 r.toks slot e1 e2 e3 (List.replicate 8 0) now hb.toks hb.tsec (by simp)) ?_
 refine Bu (cj3 H1 H2 H3) ?_
 refine Br ?_ ?_ <;> intro h43
 ·refine Bu (cj3 H1 H2 H3) ?_
  exact .ret ⟨(⟨0, [], [], []⟩, (F5 r.toks slot e1 e2 e3 (List.replicate 8 0) now hb.toks hb.tsec (by simp)).2.2, r), rW (cj3 H1 H2 H3) [0], ⟨hb, rfl, rfl, rfl, rfl, rfl, by simp, by simp⟩⟩
 refine Bp <| .seq <| .H (cj3 H1 H2 H3) ?_
 refine Br ?_ ?_ <;> intro h48
 ·refine Bu (cj3 H1 H2 H3) ?_
  exact .ret ⟨(⟨0, [], [], []⟩, 18, r), rW (cj3 H1 H2 H3) [0], ⟨hb, rfl, rfl, rfl, rfl, rfl, by simp, by simp⟩⟩
 refine Bp ?_
 have hqd := Acy r.toks slot e1 e2 e3 sec now hb.toks hb.tsec hsM
 refine Da (cj3 H1 H2 H3) (T3 r.toks slot e1 e2 e3 sec now hb.toks hb.tsec hsM) <| .seq ?_
 refine Bu (cj3 H1 H2 H3) ?_
 refine Br ?_ ?_ <;> intro h72
 ·refine Bu (cj3 H1 H2 H3) ?_
  exact .ret ⟨(⟨0, [], [], []⟩, (F5 r.toks slot e1 e2 e3 sec now hb.toks hb.tsec hsM).2.2, r), rW (cj3 H1 H2 H3) [0], ⟨hb, rfl, rfl, rfl, rfl, rfl, by simp, by simp⟩⟩
 refine Bp <| .H (cj3 H1 H2 H3) ?_
 refine B8 (cj3 H1 H2 H3) (Aeg r.num (F5 r.toks slot e1 e2 e3 sec now hb.toks hb.tsec hsM).2.1 sec hs) ?_
 refine Bu (cj3 H1 H2 H3) ?_
 refine B2 ok0 3 ?_
 exact .ret ⟨(⟨16, [], [(F5 r.toks slot e1 e2 e3 sec now hb.toks hb.tsec hsM).2.1], (Q9 r.num (F5 r.toks slot e1 e2 e3 sec now hb.toks hb.tsec hsM).2.1 sec hs)⟩, 0, ⟨r.num, r.ag, (F5 r.toks slot e1 e2 e3 sec now hb.toks hb.tsec hsM).1, r.vehs, r.bk⟩), rW (cj3 H1 H2 H3) [0], ⟨⟨hb.sec, hb.lims, Ak hqd.1 hb.toks, hqd.2, hb.vehs⟩, rfl, rfl, rfl, rfl, rfl, by simp, by dsimp only; rw [Aet]; omega⟩⟩
theorem Dv.lit_eq {C : VC} {v u : Value} (h : Dv C (.lit v) u) : u = v := by
 cases h
 rfl
theorem Dv.nil_eq {C : VC} {k : Nat} {u : Value} (h : Dv C (.nil k) u) : ∃ A, u = .slice A 0 0 := by
 cases h
 exact ⟨_, rfl⟩
theorem An8 {P : Program} {f : FuncId} (hc : Adz P f) (args : List AV) (ty k : Nat) (hk : 0 < k)
 (hraw : ∀ (C : VC) (us : Array Value) (w : World), us.size = args.length -> (∀ t, Dv C (El (Hc 0 args) t) (us.getD t undef)) -> Calls P f us w fun e w' => ∃ v, e = .returned v /\ (w'.ownsRow w.heap.size ty k v 0 [] \/ ∃ A, v = .slice A 0 0) /\ Below w.heap.size w w') : Ei P f [] args [.row ty k true false []] (.own 0 0) := by
 refine ⟨hc, fun E β us hn ho hβ r => ?_⟩
 have hsz : us.size = args.length := by
  have := r.sz
  rw [hn] at this
  exact this
 refine (hraw _ us E.w0 hsz r.sl).mono ?_
 rintro e w' ⟨v, rfl, hown, hb⟩
 have hkp : Kp (fun _ => False) E.w0 w' := ⟨hb.os, hb.tape, hb.output, hb.size, fun b hb' _ => hb.block b hb'⟩
 have r1 := r.grow hkp
 have hgone : ∀ id, (St.mk (Hc 0 args) []).o id = .gone := fun id => by simp [St.o]
 have ho0 : ∀ id, E.o0 id = .gone := fun id => by rw [ho]; simp [St.o]
 have hct : ∀ C : VC, Akt E.w0.heap E.o0 E.β0 C := fun C => ⟨fun id ty cs h => (by rw [ho0] at h; cases h), fun id ty k fr fz es h => (by rw [ho0] at h; cases h)⟩
 have hst : ∀ id, (St.mk [(0, AV.own 0 0)] [Ob.row ty k true false []]).o id = if id = 0 then .row ty k true false [] else .gone := fun id => by
  cases id with
  | zero => rfl
  | succ n => simp [St.o]
 have hds := r1.df
 have fin : ∀ β' : Nat -> Option Nat, (∀ b, β' 0 = some b -> b < w'.heap.size /\ E.w0.heap.size <= b) -> Dv (({ E with n := 1 } : Ent).C β' ⟨[(0, .own 0 0)], [.row ty k true false []]⟩ w') (.own 0 0) v -> Jo (({ E with n := 1 } : Ent).C β' ⟨[(0, .own 0 0)], [.row ty k true false []]⟩ w') 0 (.row ty k true false []) ->
  Rel { E with n := 1 } β' ⟨[(0, .own 0 0)], [.row ty k true false []]⟩ ⟨#[v], []⟩ w' := fun β' h1 h2 h3 => by
  refine ⟨rfl, fun t => ?_, hds, fun id => ?_, fun i j b hi hj _ _ => ?_, fun i b hi hb' => ?_, r1.kp, hct _, r1.kb, r1.dk⟩
  ·cases t with
   | zero => exact h2
   | succ t => simp [El]; exact .any _
  ·rw [hst]
   by_cases e : id = 0
   ·subst e; exact h3
   rw [if_neg e]; trivial
  ·rw [hst] at hi hj
   have e1 : i = 0 := by
    by_cases e : i = 0
    ·exact e
    rw [if_neg e] at hi; exact absurd rfl hi
   have e2 : j = 0 := by
    by_cases e : j = 0
    ·exact e
    rw [if_neg e] at hj; exact absurd rfl hj
   rw [e1, e2]
  rw [hst] at hi
  have e1 : i = 0 := by
   by_cases e : i = 0
   ·exact e
   rw [if_neg e] at hi; exact absurd rfl hi
  subst e1
  have := h1 b hb'
  exact ⟨this.1, .inl this.2⟩
 have h2 : (∃ A, v = .slice A 0 0) \/ ∃ g cap cur, v = .slice (some ⟨g, 0, none⟩) 0 cap /\ E.w0.heap.size <= g /\ w'.heap[g]? = some (.cells cur ty (0, 0)) /\ cap <= maxLen /\ cur.size = cap * k := by
  rcases hown with ⟨_, ⟨rfl, _⟩ | ⟨g, cap, cur, h1, h2, h3, _, h5, h6, _⟩⟩ | hA
  ·exact .inl ⟨_, rfl⟩
  ·exact .inr ⟨g, cap, cur, h1, h2, h3, h5, h6⟩
  exact .inl hA
 rcases h2 with ⟨A, rfl⟩ | ⟨g, cap, cur, rfl, hg, hh, hml, hcs⟩
 ·refine ⟨_, fun _ => none, rfl, fin _ (fun b h => by cases h) (.own _ _ _ ⟨rfl, ty, k, true, false, [], rfl, Aj _, fun _ => ?_⟩) ⟨⟨hk, fun i e he => by simp at he⟩, ?_⟩⟩
  ·exact ⟨A, rfl⟩
  show ([] : List (List T)) = []
  rfl
 refine ⟨_, fun _ => some g, rfl, fin _ (fun b h => ?_) (.own _ _ _ ⟨rfl, ty, k, true, false, [], rfl, Aj _, fun _ => ?_⟩) ⟨⟨hk, fun i e he => by simp at he⟩, ?_⟩⟩
 ·injection h with h
  subst h
  exact ⟨(Aw.1 hh).1, hg⟩
 ·exact ⟨cap, cur, hh, hcs, rfl⟩
 exact ⟨cur, cap, hh, hcs, Ae _, hml, fun i e j x he => by simp at he⟩
theorem Xp {P : Program} (A : Option Addr) (w : World) (t tn ty e : TypeId) (i : TypeInfo) (z : Value) (k kn : IntKind) (ht : P.underlying t = some (.slice e)) (htn : P.underlying tn = some (.int kn)) (hi : P.info? e = some i) (hz : i.zero = some z)
 (n : Nat) (h0 : 0 < n) (hs : 0 < i.size) (h63 : (n : Int) <= 9223372036854775807) (h48 : n * i.bytes <= 281474976710656) :
  (Builtin.append_ #[t, tn] ty #[.slice A 0 0, .int k n]).run P w =
   .ok (.slice (some ⟨w.heap.size, 0, none⟩) n (grownCap w n 0 e)) (w.drew.alloc (.cells (Builtin.zeroCells z.cells n ++ Builtin.zeroCells z.cells (grownCap w n 0 e - n)) e)) := by
 have hn : n ≠ 0 := by omega
 have hw : IntKind.i64.wrap (n : Int) = n := by rw [IntKind.wrap_i64]; omega
 have h63' : ¬ (9223372036854775807 < (n : Int)) := by omega
 have h48' : ¬ (281474976710656 < Builtin.nextslicecap n 0 * i.bytes) := by rw [nextslicecap_zero h0]; omega
 have h48i : ¬ (281474976710656 < (n : Int) * (i.bytes : Int)) := by
  rw [<- Int.natCast_mul]
  omega
 have hneg : ¬ ((n : Int) < 0) := by omega
 have hns : ¬ (n * i.size = 0) := Nat.mul_ne_zero hn (by omega)
 have hf : ∀ w1 : World, (Builtin.firstCells i.size 0 (.slice A 0 0)).run P w1 = .ok #[] w1 := fun w1 => by
  cases A with
  | none => exact run_firstCells_none ..
  | some a => simp [Builtin.firstCells, loadCells, loadCellsFrom]
 simp [Builtin.append_, run_underlying ht, run_underlying htn, sizeOf, typeInfo, zeroValue, hi, hz, asInt, asIntOf, hw, hn, hneg, hns, h63', h48', h48i, Question.forced, hf, newRow, grownCap]
theorem Aws : (Tryz.prog.info? 216).map (fun i => (i.zero, i.size, i.bytes)) = some (some (.agg #[.int .i64 0, .int .i64 0]), 2, 16) := by kernel_rfl
theorem Acj (z : Array Value) (n : Nat) : (Builtin.zeroCells z n).size = n * z.size := by simp [Builtin.zeroCells]
theorem Aoo (A : Option Addr) (n : Nat) (hn : n <= 100000) (w : World) :
 Calls Tryz.prog 278 #[.slice A 0 0, .int .i64 (n : Int)] w fun e w' => ∃ v, e = .returned v /\ (w'.ownsRow w.heap.size 216 2 v 0 [] \/ ∃ A, v = .slice A 0 0) /\ Below w.heap.size w w' := by
 go_enter Tryz.func278, Tryz.ntmps278
 by_cases h0 : n = 0
 ·subst h0
  go_wp2_with fail
  go_ret
  exact ⟨_, rfl, .inr ⟨A, rfl⟩, Below.refl _ _⟩
 have h1 : (0 : Int) < (n : Int) := by omega
 obtain ⟨i, hi, hzz⟩ := Option.map_eq_some_iff.1 Aws
 simp only [Prod.mk.injEq] at hzz
 obtain ⟨hz, hs, hb⟩ := hzz
 have hrun := Xp A (P := Tryz.prog) w 62 3 62 216 i (.agg #[.int .i64 0, .int .i64 0]) .i64 .i64 Tryz.underlying62 Tryz.underlying3 hi hz n (by omega) (by omega) (by omega) (by rw [hb]; omega)
 have hge := grownCap_ge w n 0 216
 have hle := grownCap_le_maxLen w n 0 216 (by unfold maxLen; omega)
 generalize grownCap w n 0 216 = cap2 at hrun hge hle
 generalize hZ : (Builtin.zeroCells (Value.agg #[.int .i64 0, .int .i64 0]).cells n ++ Builtin.zeroCells (Value.agg #[.int .i64 0, .int .i64 0]).cells (cap2 - n)) = Z at hrun
 have hZs : Hid (Z.size = cap2 * 2) := Lib.hid (by
  rw [<- hZ, Array.size_append, Acj, Acj]
  have : (Value.agg #[.int .i64 0, .int .i64 0]).cells.size = 2 := rfl
  rw [this]; omega)
 have hleH := Lib.hid hle
 have hrunH := Lib.hid hrun
 clear hZ hle hrun
 go_wp2_with (at_builtin; refine Lib.wpList_append_run _ rfl _ _ _ _ rfl _ _ rfl rfl _ _ hrunH.out ?_)
 go_ret
 exact ⟨_, rfl, .inl ⟨rfl, .inr ⟨w.heap.size, cap2, Z, rfl, Aj _, heap_alloc_new _ _, Ae _, hleH.out, hZs.out, rfl⟩⟩, Akh ((Below.refl _ _).alloc (Aj _) _) 1⟩
theorem Acb (n : Nat) (hn : n <= 100000) : PP 278 [] [.nil 0, .li (n : Int)] [.row 216 2 true false []] (.own 0 0) := by
 refine An8 ⟨_, Tryz.func278, rfl, rfl⟩ [.nil 0, .li (n : Int)] 216 2 (by decide) fun C us w hsz hus => ?_
 obtain ⟨A, h0⟩ := Dv.nil_eq (hus 0)
 have h1 := Dv.lit_eq (hus 1)
 have e : us = #[.slice A 0 0, .int .i64 (n : Int)] := by
  obtain ⟨l⟩ := us
  match l, hsz with
  | [a, b], _ =>
   simp at h0 h1
   rw [h0, h1]
 rw [e]
 exact Aoo A n hn w
abbrev Afc (l : List (List Gm)) : List (List T) := l.map fun x => [.sl 2 (Wq x)]
theorem Ak8 (n : Int) (h0 : 0 <= n) (hn : n <= 100000) : PP 278 [] [.nil 0, .li n] [.row 216 2 true false []] (.own 0 0) := by
 have := Acb n.toNat (by omega)
 rwa [Int.toNat_of_nonneg h0] at this
theorem Lk (ls : List (List Gm)) (hl : ls.length <= 10) (hs : ∀ x ∈ ls, x.length <= 1000) : ∃ d : List Gm, PP 261 [] [.imm false 1 (Afc ls)] [.row 216 2 false false (Wq d)] (.own 0 d.length) /\ (d.length = (ls.map List.length).sum) := by
 refine Mi (D := List Gm) (F := fun d => .own 0 d.length) (S := fun d => [.row 216 2 false false (Wq d)]) (Q := fun d => d.length = (ls.map List.length).sum) Tryz.func261 rfl rfl rfl (by simp [Tryz.ntmps261]) ?_
 refine Bq ?_
 refine Bq <| .seq ?_
 refine Bq <| .block ?_
 refine Bs ls.length (fun i1 (y1 : Int) => ⟨[(0, .imm false 1 (Afc ls)), (3, .li y1), (9, .imm false 1 (Afc ls)), (10, .li ls.length), (11, .li i1)], []⟩) (fun i1 y1 => 0 <= y1 /\ y1 <= 1000 * i1) (0) (wk ok0 []) (by omega) fun i1 y1 hi1 hy1 => ?_
 refine Bq <| .seq ?_
 refine Br ?_ ?_ <;> intro h12
 ·refine Bp <| .seq <| .block ?_
  obtain ⟨e1, H1⟩ := gx ls i1
  refine Bu H1 ?_
  have hb := hs e1 (Ac H1)
  have hw2 := Dt (y1 + e1.length : Int)
  refine Bu (cj2 H1 hw2) ?_
  refine Bu (cj2 H1 hw2) ?_
  refine Br ?_ ?_ <;> intro h20
  ·exfalso; omega
  refine Bp <| .H1 (cj2 H1 hw2) ?_
  refine ⟨by omega, ((y1 + e1.length)), ?_, wk (cj3 (Dt ((i1 : Int) + 1)) H1 hw2) []⟩
  omega
 refine Bt <| .S (fun K kk => by simp [go_sem]; refine .by (Ak8 y1 hy1.1 (by omega)) (LeL.refl _) (by simp) ?_; simp [go_sem]; exact kk) <| .seq ?_
 refine Bq <| .block ?_
 refine Bs ls.length (fun i2 (y2 : (List Gm)) => ⟨[(6, .own 0 y2.length), (25, .imm false 1 (Afc ls)), (26, .li ls.length), (27, .li i2)], [.row 216 2 false false (Wq y2)]⟩) (fun i2 y2 => y2.length = ((ls.take i2).map List.length).sum /\ y2.length <= 1000 * i2) ([]) (wk ok0 [0]) (by simp) fun i2 y2 hi2 hy2 => ?_
 refine Bq <| .seq ?_
 refine Br ?_ ?_ <;> intro h28
 ·refine Bp <| .seq <| .block ?_
  obtain ⟨e3, H3⟩ := gx ls i2
  refine Bu H3 ?_
  have hb := hs e3 (Ac H3)
  refine B0 H3 ?_
  refine B0 H3 ?_
  exact ⟨by omega, (y2 ++ e3), ⟨by rw [List.take_add_one, H3]; simp [hy2.1], by simp; omega⟩, wk (cj2 (Dt ((i2 : Int) + 1)) H3) [0]⟩
 refine Bt <| .R ?_
 exact .ret ⟨y2, rW ok0 [0], (by dsimp only; rw [hy2.1, Bf (by omega)])⟩
noncomputable def H0 (ls : List (List Gm)) (hl : ls.length <= 10) (hs : ∀ x ∈ ls, x.length <= 1000) : List Gm := (Lk ls hl hs).choose
theorem Wn (ls : List (List Gm)) (hl : ls.length <= 10) (hs : ∀ x ∈ ls, x.length <= 1000) : PP 261 [] [.imm false 1 (Afc ls)] [.row 216 2 false false (Wq (H0 ls hl hs))] (.own 0 (H0 ls hl hs).length) := (Lk ls hl hs).choose_spec.1
theorem Kl (ls : List (List Gm)) (hl : ls.length <= 10) (hs : ∀ x ∈ ls, x.length <= 1000) : (H0 ls hl hs).length = (ls.map List.length).sum := (Lk ls hl hs).choose_spec.2
theorem Ei.fresh {P : Program} {f : FuncId} {σa : List Ob} {args : List AV} {ty k : Nat} {fr fz : Bool} {es : List (List T)} {res : AV} (h : Ei P f σa args [.row ty k fr fz es] res) (hp : es.all (fun e => e.all T.plain) = true) : Ei P f σa args [.row ty k true fz es] res :=
 ⟨h.1, fun E β us hn ho hβ r => (h.2 E β us hn ho hβ r).mono fun e w' ⟨v, β', he, r'⟩ => ⟨v, β', he, (r'.flag (id := 0) rfl (fun _ => .inr hp) (fun h => h)).1⟩⟩
theorem Wm (ls : List (List Gm)) (hl : ls.length <= 10) (hs : ∀ x ∈ ls, x.length <= 1000) : PP 261 [] [.imm false 1 (Afc ls)] [] (.imm true 2 (Wq (H0 ls hl hs))) := by
 have h := (Wn ls hl hs).fresh (by simp [T.plain, Gm.t])
 refine Ei.froz (es := Wq (H0 ls hl hs)) (fz := false) (ty := 216) ?_
 simpa using h
theorem Apj {l : List Gm} {p : Nat} (hl : l.length <= 1000) : ∀ x ∈ [l.take p, l.drop (p + 1)], x.length <= 1000 := by
 intro x hx
 simp only [List.mem_cons, A8, or_false] at hx
 rcases hx with rfl | rfl
 ·rw [A5]; omega
 rw [Bc]; omega
theorem Yc (l : List Gm) (id : Int) (hl : l.length <= 1000) : Ct 237 [.mVeh l, .li id] (fun d : List Gm × Int => .tup [.mVeh d.1, .li d.2]) (fun d => d.1.length <= l.length) := by
 refine Ek Tryz.func237 ?_
 have hlM : l.length <= 1000000 := by omega
 have hq := Aa5 l id hlM
 have hv12 := Aah l id hlM
 obtain ⟨p, hp⟩ : ∃ p : Nat, Lf l id hlM = p := ⟨_, (Int.toNat_of_nonneg hq.1).symm⟩
 rw [hp] at hv12 hq
 refine Bq <| .seq ?_
 refine B3 (fun K kk => by simp [go_sem]; refine .l (Aai l hlM) ?_; simp [go_sem]; exact kk) ?_
 refine Br ?_ ?_ <;> intro h9
 ·refine Bq ?_
  refine Bz (Ex ?_); simp [go_sem]
  exact ⟨([], 1), by first | rfl | simp [go_sem], (by first | (dsimp only; exact Ae _) | (dsimp only; rw [Kl]; simp only [List.map_cons, List.map_nil, List.sum_cons, List.sum_nil, A5, Bc]; omega))⟩
 refine Bp <| .S (fun K kk => by simp [go_sem]; refine .l (hv12) ?_; simp [go_sem]; exact kk) <| .seq ?_
 by_cases hc4 : p < l.length
 ·obtain ⟨e1, H1⟩ := gx l ((p : Int).toNat)
  refine B3 (fun K kk => by simp [go_sem, hc4, H1]; repeat first | exact kk | refine aK ?_) ?_
  refine Br ?_ ?_ <;> intro h25
  ·refine B3 (fun K kk => by simp [go_sem, hc4, H1]; exact kk) ?_
   refine Bz (Ex ?_); simp [go_sem, hc4, H1]
   exact ⟨([], 12), by first | rfl | simp [go_sem], (by first | (dsimp only; exact Ae _) | (dsimp only; rw [Kl]; simp only [List.map_cons, List.map_nil, List.sum_cons, List.sum_nil, A5, Bc]; omega))⟩
  refine Bp ?_
  have hw2 := Dt ((p : Int) + 1 : Int)
  refine Cz (fun K kk => by simp [go_sem, hc4, H1, hw2]; (repeat refine aK ?_); refine .lo (Wm [l.take p, l.drop (p + 1)] (by simp) (Apj hl)) (by simp [AV.low, Jn, List.map_take, List.map_drop]) (by simp [AV.cln, Ez]) ?_; simp [go_sem, hc4, H1, hw2]; exact kk) ?_
  refine Bz (Ex ?_); simp [go_sem, hc4, H1, hw2]
  exact ⟨((H0 [l.take p, l.drop (p + 1)] (by simp) (Apj hl)), 0), by first | rfl | simp [go_sem], (by first | (dsimp only; exact Ae _) | (dsimp only; rw [Kl]; simp only [List.map_cons, List.map_nil, List.sum_cons, List.sum_nil, A5, Bc]; omega))⟩
 have hpe : (p : Int) = (l.length : Int) := by omega
 refine B3 (fun K kk => by simp [go_sem, hc4, hpe]; repeat first | exact kk | refine aK ?_) ?_
 refine C5 ?_ ?_ <;> intro h25 <;> simp [go_sem] at h25
 refine B3 (fun K kk => by simp [go_sem, hc4, hpe]; exact kk) ?_
 refine Bz (Ex ?_); simp [go_sem, hc4, hpe]
 exact ⟨([], 12), by first | rfl | simp [go_sem], (by first | (dsimp only; exact Ae _) | (dsimp only; rw [Kl]; simp only [List.map_cons, List.map_nil, List.sum_cons, List.sum_nil, A5, Bc]; omega))⟩
theorem Ace {l : List Fi} {s : Int} (h : Gg l s = true) : 0 <= s /\ s < l.length := by
 unfold Gg at h
 simp only [Ah, decide_eq_true_eq] at h
 cases hl : l[s.toNat]? with
 | none => rw [hl] at h; exact Bool.noConfusion h.2
 | some t => have := (Ab.1 hl).1; omega
theorem Alh : Re ⟨0, ⟨[], 0, 0, [], 0, 0, 0, 0⟩, [], [], ⟨0, 0, 0⟩⟩ := by constructor <;> simp
def Hj (m : Dz) : Prop := m.tok.length <= 2000 /\ m.args.length <= 2000 /\ m.data.length <= 2000
theorem Aun {m : Dz} {h : 1 <= m.args.length} {h2 : m.args.length <= 1000000} : Hj (G0 m h h2) := by
 have := Ac0 m h h2
 unfold Hj
 rw [this.2.1, this.2.2.1, this.2.2.2]
 simp
theorem Vr (r : Jx) (m : Dz) (slot : Int) (now : Int) (sec : List Int) (hb : Re r) (hv9 : r.vehs.length <= 9) (h1 : m.tok.length <= 2000) (h2 : m.args.length <= 2000) (h3 : m.data.length <= 2000) (a2 : m.kind = 2 -> 3 <= m.args.length) (a1 : m.kind = 3 \/ m.kind = 4 \/ m.kind = 5 -> 1 <= m.args.length) (a4 : m.kind = 4 -> 2 <= m.args.length) (hs : sec.length <= 1000) : Ct 210 [r.g, m.g, .li slot, .li now, .mY sec] (fun d : Jx × Dz × Bool × Int => .tup [d.1.g, d.2.1.g, .lb d.2.2.1, .li d.2.2.2]) (fun d => Re d.1 /\ d.1.vehs.length <= 9 /\ (d.2.2.2 = 0 -> d.1.num = r.num /\ d.1.ag = r.ag) /\ Hj d.2.1) := by
 refine Ek Tryz.func210 ?_
 have h2M : m.args.length <= 1000000 := by omega
 have hv : r.vehs.length <= 1000 := by omega
 refine Bq <| .seq ?_
 refine B4 (by rfl) fun K1 hK1 => ?_
 simp [go_sem]
 obtain ⟨Y1, cY1, qY1⟩ := got (Yk r hb)
 refine .l cY1 ?_
 simp [go_sem]
 refine RCG ?_
 simp [go_sem]
 obtain ⟨Y2, cY2, qY2⟩ := got (K8 m (by omega) (by omega) (by omega))
 first | refine .lo cY2 rfl (by simp [AV.cln, Ez]) ?_ | refine .skip ?_
 simp [go_sem]
 refine RCG ?_
 simp [go_sem]
 first | refine .lo (Aan r.toks slot) rfl (by simp [AV.cln, Ez]) ?_ | refine .skip ?_
 simp [go_sem]
 refine hK1 _ ?_; clear hK1
 refine Br ?_ ?_ <;> intro h31
 ·refine Bq ?_
  exact .ret (fin ok0 (⟨0, ⟨[], 0, 0, [], 0, 0, 0, 0⟩, [], [], ⟨0, 0, 0⟩⟩, ⟨0, [], [], []⟩, false, 1) ⟨Alh, Ae _, fun h => absurd h (by decide), by simp [Hj]⟩)
 have hu := Ace (l := r.toks) (s := slot) (by first | exact h31.2 | exact h31.2.2 | (simp at h31; exact h31.2))
 refine Bp <| .seq <| .R ?_
 refine Br ?_ ?_ <;> intro h41
 ·refine Bq ?_
  exact .ret (fin ok0 (⟨0, ⟨[], 0, 0, [], 0, 0, 0, 0⟩, [], [], ⟨0, 0, 0⟩⟩, ⟨0, [], [], []⟩, false, 1) ⟨Alh, Ae _, fun h => absurd h (by decide), by simp [Hj]⟩)
 refine Bp <| .L ok0 (M8 r hb) ?_
 refine Bq ?_
 refine Bq <| .seq ?_
 refine Bq <| .block ?_
 refine Bq ?_
 refine Br ?_ ?_ <;> intro h49
 ·obtain ⟨Y3, cY3, qY3⟩ := Vh r m.args slot now sec hb (a2 h49) hs
  refine Cb (fun K kk => by simp [go_sem]; refine .o [4] cY3 ?_; simp [go_sem]; exact kk) <| .seq ?_
  refine Bq ?_
  refine Br ?_ ?_ <;> intro h104
  ·refine Bq ?_
   exact .ret (fin ok0 (⟨0, ⟨[], 0, 0, [], 0, 0, 0, 0⟩, [], [], ⟨0, 0, 0⟩⟩, ⟨0, [], [], []⟩, false, Y3.2.1) ⟨Alh, Ae _, fun h => absurd h (by first | exact h104 | decide), by simp [Hj]⟩)
  refine Bp <| .D ?_
  exact .ret (fin ok0 (Y3.2.2, Y3.1, ((m.kind : Int) == 2), 0) ⟨qY3.1, by dsimp only; rw [qY3.2.2.2.1]; exact hv9, fun _ => ⟨qY3.2.1, qY3.2.2.1⟩, (by have hd := qY3; refine ⟨by dsimp only; rw [hd.2.2.2.2.2.1]; exact Ae _, by dsimp only; omega, by dsimp only; omega⟩)⟩)
 refine Bq ?_
 refine Br ?_ ?_ <;> intro h60
 ·have ha := a1 (.inl h60)
  obtain ⟨e1, H1⟩ := gx m.args 0
  obtain ⟨Y4, cY4, qY4⟩ := got (Abw r.toks e1 hb.toks hb.tsec)
  refine Da H1 cY4 ?_
  refine Do H1 (Pn m ha h2M) <| .seq ?_
  refine Bu H1 ?_
  refine Br ?_ ?_ <;> intro h104
  ·refine Bu H1 ?_
   exact .ret (fin H1 (⟨0, ⟨[], 0, 0, [], 0, 0, 0, 0⟩, [], [], ⟨0, 0, 0⟩⟩, ⟨0, [], [], []⟩, false, Y4.2) ⟨Alh, Ae _, fun h => absurd h (by first | exact h104 | decide), by simp [Hj]⟩)
  refine Bp <| .G H1 ?_
  exact .ret (fin H1 (⟨r.num, r.ag, Y4.1, r.vehs, r.bk⟩, (G0 m ha h2M), ((m.kind : Int) == 2), 0) ⟨⟨hb.sec, hb.lims, Ak qY4.1 hb.toks, qY4.2, hb.vehs⟩, hv9, fun _ => ⟨rfl, rfl⟩, Aun (h := ha) (h2 := h2M)⟩)
 refine Bq ?_
 refine Br ?_ ?_ <;> intro h75
 ·have ha := a1 (.inr (.inl h75))
  obtain ⟨Y5, cY5, qY5⟩ := got (Vg r m.args slot hb (a4 h75) h2M hu.1 hu.2)
  refine B8 ok0 cY5 ?_
  refine Do ok0 (Pn m ha h2M) <| .seq ?_
  refine Bq ?_
  refine Br ?_ ?_ <;> intro h104
  ·refine Bq ?_
   exact .ret (fin ok0 (⟨0, ⟨[], 0, 0, [], 0, 0, 0, 0⟩, [], [], ⟨0, 0, 0⟩⟩, ⟨0, [], [], []⟩, false, Y5.2) ⟨Alh, Ae _, fun h => absurd h (by first | exact h104 | decide), by simp [Hj]⟩)
  refine Bp <| .D ?_
  exact .ret (fin ok0 (⟨r.num, r.ag, r.toks, Y5.1, r.bk⟩, (G0 m ha h2M), ((m.kind : Int) == 2), 0) ⟨⟨hb.sec, hb.lims, hb.toks, hb.tsec, by have := qY5; dsimp only; omega⟩, qY5, fun _ => ⟨rfl, rfl⟩, Aun (h := ha) (h2 := h2M)⟩)
 refine Bq ?_
 refine Br ?_ ?_ <;> intro h88
 ·have ha := a1 (.inr (.inr h88))
  obtain ⟨e2, H2⟩ := gx m.args 0
  obtain ⟨Y6, cY6, qY6⟩ := got (Yc r.vehs e2 hv)
  refine Da H2 cY6 ?_
  refine Do H2 (Pn m ha h2M) <| .seq ?_
  refine Bu H2 ?_
  refine Br ?_ ?_ <;> intro h104
  ·refine Bu H2 ?_
   exact .ret (fin H2 (⟨0, ⟨[], 0, 0, [], 0, 0, 0, 0⟩, [], [], ⟨0, 0, 0⟩⟩, ⟨0, [], [], []⟩, false, Y6.2) ⟨Alh, Ae _, fun h => absurd h (by first | exact h104 | decide), by simp [Hj]⟩)
  refine Bp <| .G H2 ?_
  exact .ret (fin H2 (⟨r.num, r.ag, r.toks, Y6.1, r.bk⟩, (G0 m ha h2M), ((m.kind : Int) == 2), 0) ⟨⟨hb.sec, hb.lims, hb.toks, hb.tsec, by have := qY6; dsimp only; omega⟩, Ak qY6 hv9, fun _ => ⟨rfl, rfl⟩, Aun (h := ha) (h2 := h2M)⟩)
 refine Bp <| .seq <| .R ?_
 refine C5 ?_ ?_ <;> intro h104 <;> simp [go_sem] at h104
 refine Bq ?_
 exact .ret (fin ok0 (⟨0, ⟨[], 0, 0, [], 0, 0, 0, 0⟩, [], [], ⟨0, 0, 0⟩⟩, ⟨0, [], [], []⟩, false, 1) ⟨Alh, Ae _, fun h => absurd h (by first | exact h104 | decide), by simp [Hj]⟩)
theorem Hj.v {m : Dz} (h : Hj m) : m.tok.length <= 10000 /\ m.args.length <= 10000 /\ m.data.length <= 10000 := ⟨Ak h.1 (by decide), Ak h.2.1 (by decide), Ak h.2.2 (by decide)⟩
open Classical in
noncomputable def R2 (m : Dz) : Bool := if h : Hj m then !Lg m h.v.1 h.v.2.1 h.v.2.2 else true
theorem Aar (m : Dz) (h : Hj m) : PP 133 [] [m.g] [] (.lb (R2 m)) := by
 have hb : R2 m = !Lg m h.v.1 h.v.2.1 h.v.2.2 := by unfold R2; rw [dif_pos h]
 rw [hb]
 refine Eb Tryz.func133 ?_
 refine Bw ?_
 refine Df ok0 (Aas m h.v.1 h.v.2.1 h.v.2.2) ?_
 exact .ret (rL ok0)
theorem Qy (l : List Dz) (hl : l.length <= 1000000) (hm : ∀ t ∈ l, Hj t) :
 ∃ R : List (List T), PP 100 [.row 56 4 false false (Q7 l)] [.own 0 l.length] [.row 56 4 false true R] (.mMsg (l.filter fun t => !R2 t)) /\ True := by
 obtain ⟨R, hR, _⟩ := T8 l 133 [] R2 hl ⟨fun _ => rfl, fun _ => rfl, fun _ => trivial, rfl, rfl⟩ fun t ht => Aar t (hm t ht)
 refine Abq (D := List (List T)) (F := fun d => .mMsg (l.filter fun t => !R2 t)) (S := fun d => [.row 56 4 false true d]) (Q := fun d => True) Tryz.func100 rfl rfl rfl (by simp [Tryz.ntmps100]) ?_
 refine Bq ?_
 refine B3 (fun K kk => by simp [go_sem]; refine .o [0] hR ?_; simp [go_sem]; exact kk) ?_
 exact .ret ⟨R, rW ok0 [0], trivial⟩
end Go.Proofs.YtkkimgjinbaemaaGreat
