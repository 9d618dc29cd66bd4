/- The walk. -/
import Derived.Test.YtkkimgjinbaemaaGreatKbg
namespace Go.Proofs.YtkkimgjinbaemaaGreat
open Go.RowKit
set_option linter.unusedVariables false
set_option linter.unusedSimpArgs false
set_option maxRecDepth 100000
set_option maxHeartbeats 4000000
theorem Aok {n : Nat} {f : Nat -> Bool} (h : Kx n f = true) : ∀ i, i < n -> f i = true := by
 intro i hi
 exact Am.1 h i (List.mem_range.2 hi)
theorem Aps {j : Df} (h : Nm j = true) : Ln j := by
 simp only [Nm, Ah, decide_eq_true_eq] at h
 obtain ⟨⟨⟨⟨⟨⟨⟨h1, h2⟩, h3⟩, h4⟩, h5⟩, h6⟩, h7⟩, h8⟩ := h
 have hp : ∀ p ∈ j.phs, Gb p = true := fun p hp => by
  obtain ⟨i, hi⟩ := A3.1 hp
  have := Aok h6 i (Ab.1 hi).1
  simpa [Kv, hi] using this
 exact ⟨by omega, h1, by omega, fun p hq => by have := Oe (hp p hq); omega, fun p hq => by have := Oe (hp p hq); omega⟩
theorem Afj (j : Df) (c : Kr) (t : Int) (h1 : j.phs.length <= 1000000) (h2 : j.con.length <= 1000000) (h3 : c.lights.length <= 1000000) (h4 : c.nxt.length <= 1000000) : Ct 175 [j.g, c.g, .li t] (fun d : Kr => d.g) (fun d => d = ⟨[], 0, [], 0⟩ \/ (d.lights.length = j.phs.length /\ O8 j d.nxt /\ Ln j)) := by
 refine Cb Tryz.func175 ?_
 refine VX.R <| .seq ?_
 by_cases hc1 : Nm j = true
 ·have hj := Aps hc1
  have hjl := hj.len
  have hqv := Ael j c hj h3 h4
  refine VX.region_seq (by rfl) fun K1 hK1 => ?_
  simp [go_sem, hc1]
  refine .l (Mk j (by first | assumption | omega) (by first | assumption | omega)) ?_
  simp [go_sem, hc1]
  refine Bz (by simp [go_sem]) (by simp [go_sem]) ?_
  simp [go_sem, hc1]
  first | refine .lo (Uo j c hj h3 h4) rfl (by simp [AV.cln, Cp]) ?_ | refine .skip ?_
  simp [go_sem, hc1]
  refine hK1 _ ?_; clear hK1
  refine VX.C ?_ ?_ <;> intro h20 <;> simp [go_sem] at h20
  ·refine VX.H hc1 ?_
   exact .ret (fin hc1 ⟨[], 0, [], 0⟩ (.inl rfl))
  obtain ⟨hA, hB⟩ := hqv (by simpa using h20)
  have hBl := hB.len
  refine VX.skip <| .E (fun K kk => by simp [go_sem, hc1]; refine .lo (Oz _ (by first | (simp; omega) | (simp; assumption)) (by first | (simp [T.plain, Cz.t]; done) | (rw [Am]; intro e he; repeat (first | replace he := Aq he | replace he := Ay he); obtain ⟨x, _, rfl⟩ := A4.1 he; rfl))) rfl (by simp [AV.cln, Cp]) ?_; simp [go_sem, hc1]; refine .lo (Ep _ (by first | (simp; omega) | (simp; assumption)) (by first | (simp [T.plain]; done) | (rw [Am]; intro e he; repeat (first | replace he := Aq he | replace he := Ay he); obtain ⟨x, _, rfl⟩ := A4.1 he; rfl))) rfl (by simp [AV.cln, Cp]) ?_; simp [go_sem, hc1]; exact kk) <| .seq ?_
  refine VX.H hc1 ?_
  refine VX.C ?_ ?_ <;> intro h35 <;> simp [go_sem] at h35
  ·refine VX.H hc1 ?_
   refine VX.H hc1 ?_
   refine VX.Z ok0 3 ?_
   refine VX.Z ok0 4 ?_
   exact .ret (fin hc1 ⟨c.lights, c.grp, c.nxt, IntKind.i64.wrap (c.wt - 1)⟩ (.inr ⟨hA, hB, hj⟩))
  refine VX.skip <| .H hc1 <| .seq ?_
  refine VX.H hc1 <| .block ?_
  refine VX.rangeE j.phs.length (fun i1 (y1 : (List Cz) × (List Int)) => ⟨[(2, .li t), (3, .ptr 0 0), (4, .ptr 1 0), (6, .ptr 2 0), (7, .ptr 5 0), (8, .lb (decide ((0 : Int) <= t) && decide (t < (j.phs.length : Int)))), (51, .mPhase j.phs), (52, .li j.phs.length), (53, .li i1)], [.box 88 [.mPhase j.phs, .mI j.con, .li j.start], .box 133 [.mLight c.lights, .li c.grp, .mI c.nxt, .li c.wt], .box 133 [.nil 2, .li 0, .nil 1, .li 0], .row 185 2 false false (Fj y1.1), .row 3 1 false false (tI y1.2), .box 133 [.own 3 y1.1.length, .li c.grp, .own 4 y1.2.length, .li c.wt]]⟩) (fun i1 y1 => y1.1.length = j.phs.length /\ y1.2 = c.nxt) (c.lights, c.nxt) (wk hc1 [0, 1, 2, 3, 4, 5]) (⟨hA, rfl⟩) fun i1 y1 hi1 hy1 => ?_
  refine VX.H hc1 <| .seq ?_
  refine VX.C ?_ ?_ <;> intro h54 <;> simp [go_sem] at h54
  ·refine VX.skip <| .seq <| .block ?_
   obtain ⟨e1, H1⟩ := gx j.phs i1
   refine VX.H (cj2 hc1 H1) ?_
   obtain ⟨e2, H2⟩ := gx c.lights i1
   refine VX.G (cj3 hc1 H1 H2) <| .seq ?_
   refine VX.H (cj3 hc1 H1 H2) ?_
   refine VX.C ?_ ?_ <;> intro h68 <;> simp [go_sem] at h68
   ·refine VX.region1 (by rfl) fun K1 hK1 => ?_
    simp +contextual [go_sem, hc1, H1, H2]
    refine Bz (by simp [go_sem]) (by simp [go_sem]) ?_
    simp +contextual [go_sem, hc1, H1, H2]
    first | refine .lo (Fe j.con i1 t (by first | assumption | omega)) rfl (by simp [AV.cln, Cp]) ?_ | refine .skip ?_
    simp +contextual [go_sem, hc1, H1, H2]
    refine hK1 _ ?_; clear hK1
    obtain ⟨e3, H3⟩ := gx y1.1 i1
    refine VX.E1 (fun K kk => by simp [go_sem, hc1, H1, H2, H3]; (repeat refine aK ?_); refine .lo (Afx e1 e2 _) rfl (by simp [AV.cln, Cp]) ?_; simp [go_sem, hc1, H1, H2, H3]; (repeat first | exact kk | refine aK ?_)) ?_
    refine VX.gen 3 rfl (by simp) Cz.t j.phs.length ?_ fun R hR => ?_
    ·apply G7
     ·repeat' first | exact Ii | exact Ih | exact Ig (x := (⟨0, 0⟩ : Cz)) rfl | apply G3 | apply G5 | apply G4 | apply Ij | apply (fun h => Ie (x := (⟨_, _⟩ : Cz)) h rfl) | apply (fun h => G6 (x := (⟨_, _⟩ : Cz)) rfl h)
     first | rfl | omega | simp | (simp; omega)
    simp [go_sem, -Prod.exists]
    refine VX.H1 (cj5 hc1 H1 H2 H3 hR) ?_
    refine ⟨by omega, (R, y1.2), ?_, [0, 1, 2, 3, 4, 5], Bp (by decide) ?_ ?_, by simp⟩
    ·exact ⟨hR, hy1.2⟩
    all_goals simp [go_sem, Bq ((i1 : Int) + 1), hc1, H1, H2, H3, hR, hy1.1]
   refine VX.skip ?_
   obtain ⟨e4, H4⟩ := gx y1.1 i1
   obtain ⟨Y1, cY1, qY1⟩ := got (Ri e1 e2 (decide ((e1.ma : Int) <= (IntKind.i64.wrap (e2.n + 1)))))
   refine VX.M1 (cj4 hc1 H1 H2 H4) cY1 ?_
   refine VX.gen 3 rfl (by simp) Cz.t j.phs.length ?_ fun R hR => ?_
   ·apply G7
    ·repeat' first | exact Ii | exact Ih | exact Ig (x := (⟨0, 0⟩ : Cz)) rfl | apply G3 | apply G5 | apply G4 | apply Ij | apply (fun h => Ie (x := (⟨_, _⟩ : Cz)) h rfl) | apply (fun h => G6 (x := (⟨_, _⟩ : Cz)) rfl h)
    first | rfl | omega | simp | (simp; omega)
   simp [go_sem, -Prod.exists]
   refine VX.H1 (cj5 hc1 H1 H2 H4 hR) ?_
   refine ⟨by omega, (R, y1.2), ?_, [0, 1, 2, 3, 4, 5], Bp (by decide) ?_ ?_, by simp⟩
   ·exact ⟨hR, hy1.2⟩
   all_goals simp [go_sem, Bq ((i1 : Int) + 1), hc1, H1, H2, H4, hR, hy1.1]
  refine VX.exit <| .seq <| .H hc1 ?_
  refine VX.C ?_ ?_ <;> intro h95 <;> simp [go_sem] at h95
  ·obtain ⟨⟨N, b, o⟩, hN, hqN⟩ := Zh j ⟨y1.1, c.grp, y1.2, c.wt⟩ t hj hy1.1 (hy1.2.symm ▸ hB) (by omega) (by omega)
   by_cases hc17 : b = true
   ·subst hc17
    simp only [cond_true] at hN hqN
    refine VX.dull 3 rfl ?_
    simp [go_sem, -Prod.exists, hc1]
    refine VX.dull 4 rfl ?_
    simp [go_sem, -Prod.exists, hc1]
    refine VX.S1 (fun K kk => by simp [go_sem, hc1]; refine .o [5, 3, 4] (hN) ?_; simp [go_sem, hc1]; exact kk) ?_
    refine VX.H hc1 ?_
    refine VX.Z ok0 3 ?_
    refine VX.Z ok0 6 ?_
    exact .ret (fin hc1 ⟨N.lights, N.grp, N.nxt, N.wt⟩ (.inr ⟨hqN.1.trans hy1.1, hqN.2.2, hj⟩))
   have hc17 : b = false := by simpa using hc17
   subst hc17
   simp only [cond_false] at hN hqN
   refine VX.dull 3 rfl ?_
   simp [go_sem, -Prod.exists, hc1]
   refine VX.dull 4 rfl ?_
   simp [go_sem, -Prod.exists, hc1]
   refine VX.S1 (fun K kk => by simp [go_sem, hc1]; refine .o [5, 3, 4] (hN) ?_; simp [go_sem, hc1]; exact kk) ?_
   refine VX.H hc1 ?_
   refine VX.Z ok0 3 ?_
   refine VX.Z ok0 4 ?_
   exact .ret (fin hc1 ⟨N.lights, N.grp, N.nxt, N.wt⟩ (.inr ⟨hqN.1.trans hy1.1, hqN.2.2, hj⟩))
  obtain ⟨⟨N, b, o⟩, hN, hqN⟩ := Zi j ⟨y1.1, c.grp, y1.2, c.wt⟩ hj hy1.1 (hy1.2.symm ▸ hB)
  by_cases hc18 : b = true
  ·subst hc18
   simp only [cond_true] at hN hqN
   refine VX.dull 3 rfl ?_
   simp [go_sem, -Prod.exists, hc1]
   refine VX.dull 4 rfl ?_
   simp [go_sem, -Prod.exists, hc1]
   refine VX.S1 (fun K kk => by simp [go_sem, hc1]; refine .o [5, 3, 4] (hN) ?_; simp [go_sem, hc1]; exact kk) ?_
   refine VX.H hc1 ?_
   refine VX.Z ok0 3 ?_
   refine VX.Z ok0 6 ?_
   exact .ret (fin hc1 ⟨N.lights, N.grp, N.nxt, N.wt⟩ (.inr ⟨hqN.1.trans hy1.1, hqN.2.2, hj⟩))
  have hc18 : b = false := by simpa using hc18
  subst hc18
  simp only [cond_false] at hN hqN
  refine VX.dull 3 rfl ?_
  simp [go_sem, -Prod.exists, hc1]
  refine VX.dull 4 rfl ?_
  simp [go_sem, -Prod.exists, hc1]
  refine VX.S1 (fun K kk => by simp [go_sem, hc1]; refine .o [5, 3, 4] (hN) ?_; simp [go_sem, hc1]; exact kk) ?_
  refine VX.H hc1 ?_
  refine VX.Z ok0 3 ?_
  refine VX.Z ok0 4 ?_
  exact .ret (fin hc1 ⟨N.lights, N.grp, N.nxt, N.wt⟩ (.inr ⟨hqN.1.trans hy1.1, hqN.2.2, hj⟩))
 have hcf : Nm j = false := by simpa using hc1
 refine VX.region_seq (by rfl) fun K1 hK1 => ?_
 simp [go_sem, hc1, hcf]
 refine .l (Mk j (by first | assumption | omega) (by first | assumption | omega)) ?_
 simp [go_sem, hc1, hcf]
 refine Bz (by simp [go_sem]) (by simp [go_sem]) ?_
 simp [go_sem, hc1, hcf]
 first | refine .lo (Uo j c hj h3 h4) rfl (by simp [AV.cln, Cp]) ?_ | refine .skip ?_
 simp [go_sem, hc1, hcf]
 refine hK1 _ ?_; clear hK1
 refine VX.C ?_ ?_ <;> intro h20 <;> simp [go_sem] at h20
 refine VX.H (cj2 hc1 hcf) ?_
 exact .ret (fin (cj2 hc1 hcf) ⟨[], 0, [], 0⟩ (.inl rfl))
theorem Arn : tok Tryz.prog 306 = true /\ Po Tryz.prog 306 = false /\ tsz Tryz.prog 306 = 1 /\ zok Tryz.prog 306 = true /\ El Tryz.prog 306 = [.lit .nilFunc] := ⟨by kernel_rfl, by kernel_rfl, by kernel_rfl, by kernel_rfl, by kernel_rfl⟩
attribute [go_sem] Arn
theorem Arz : tok Tryz.prog 169 = true /\ Po Tryz.prog 169 = false /\ tsz Tryz.prog 169 = 1 /\ zok Tryz.prog 169 = true /\ El Tryz.prog 169 = [.lit .nilFunc] := ⟨by kernel_rfl, by kernel_rfl, by kernel_rfl, by kernel_rfl, by kernel_rfl⟩
attribute [go_sem] Arz
theorem Aj2 (ts : List T) (off : Nat) : Vp [.iptr false ts off] := by
 constructor <;> intros <;> first | rfl | exact ⟨trivial, trivial⟩
theorem Rj (j : Df) (hj : Ln j) : Ct 56 [j.g] (fun d : Fl => d.g) (fun d => d.lat = false /\ d.ctl.lights.length = j.phs.length /\ d.ctl.nxt.length = 2) := by
 refine Cb Tryz.func56 ?_
 obtain ⟨Y1, cY1, qY1⟩ := got (Afk j hj)
 have hq := qY1
 refine VX.R ?_
 refine VX.L ok0 cY1 ?_
 exact .ret (fin ok0 ⟨Y1, false⟩ ⟨rfl, hq.1, hq.2.len⟩)
theorem V6 (j : Df) (s : Fl) (hj : Ln j) (hj8 : j.phs.length <= 8) (h1 : s.ctl.lights.length <= 8) (h2 : s.ctl.nxt.length <= 2) : Ct 96 [j.g, s.g] (fun d : Fl × Bool => .tup [d.1.g, .lb d.2]) (fun d => d.1.ctl.lights.length <= 8 /\ d.1.ctl.nxt.length <= 2) := by
 refine Cb Tryz.func96 ?_
 have h1M : s.ctl.lights.length <= 1000000 := by omega
 have h2M : s.ctl.nxt.length <= 1000000 := by omega
 obtain ⟨Y1, cY1, qY1⟩ := got (Rj j hj)
 have hq := qY1
 refine VX.R <| .seq ?_
 refine VX.R ?_
 refine VX.C ?_ ?_ <;> intro h7 <;> simp [go_sem] at h7
 ·refine VX.L ok0 cY1 ?_
  exact .ret (fin ok0 (Y1, true) ⟨by rw [hq.2.1]; exact hj8, by rw [hq.2.2]; decide⟩)
 refine VX.skip <| .L ok0 (Pm s h1M h2M) ?_
 exact .ret (fin ok0 (s, false) ⟨h1, h2⟩)
theorem Md (j : Df) (s : Fl) (t : Int) (k : Int) (hj8 : j.phs.length <= 8) (hcM : j.con.length <= 1000000) (h1 : s.ctl.lights.length <= 8) (h2 : s.ctl.nxt.length <= 2) : Ct 153 [j.g, s.g, .li t, .li k] (fun d : Fl => d.g) (fun d => d.ctl.lights.length <= 8 /\ d.ctl.nxt.length <= 2) := by
 refine Cb Tryz.func153 ?_
 have h1M : s.ctl.lights.length <= 1000000 := by omega
 have h2M : s.ctl.nxt.length <= 1000000 := by omega
 have hjM : j.phs.length <= 1000000 := by omega
 refine VX.R <| .seq ?_
 refine VX.R ?_
 refine VX.C ?_ ?_ <;> intro h12 <;> simp [go_sem] at h12
 ·refine VX.L ok0 (Pm s h1M h2M) ?_
  exact .ret (fin ok0 s ⟨h1, h2⟩)
 obtain ⟨Y1, cY1, qY1⟩ := got (Afj j s.ctl t hjM hcM h1M h2M)
 have hd := qY1
 have hv := cY1
 generalize Y1 = D at hd hv
 have hd2 : D.lights.length <= 8 /\ D.nxt.length <= 2 := by rcases hd with rfl | ⟨q1, q2, q3⟩; exact ⟨by simp, by simp⟩; exact ⟨by omega, by rw [q2.len]; decide⟩
 have hdM : D.lights.length <= 1000000 := by omega
 have hsM : (Ki D.lights k hdM).length <= 1000000 := by rw [Aaf]; exact hdM
 refine VX.skip <| .L ok0 (hv) ?_
 refine VX.L ok0 (Zq D.lights k hdM) ?_
 obtain ⟨Y2, cY2, qY2⟩ := got (S2 j.con (Ki D.lights k hdM) hsM hcM)
 refine VX.M ok0 cY2 ?_
 exact .ret (fin ok0 ⟨D, Y2⟩ hd2)
noncomputable def Jf (j : Df) (s : Fl) (t : Int) (k : Int) (hj8 : j.phs.length <= 8) (hcM : j.con.length <= 1000000) (h1 : s.ctl.lights.length <= 8) (h2 : s.ctl.nxt.length <= 2) : Fl := (got (Md j s t k hj8 hcM h1 h2)).choose
theorem Yb (j : Df) (s : Fl) (t : Int) (k : Int) (hj8 : j.phs.length <= 8) (hcM : j.con.length <= 1000000) (h1 : s.ctl.lights.length <= 8) (h2 : s.ctl.nxt.length <= 2) : PP 153 [] [j.g, s.g, .li t, .li k] [] (.agg ((Jf j s t k hj8 hcM h1 h2).a false)) := (got (Md j s t k hj8 hcM h1 h2)).choose_spec.1
theorem Yo (j : Df) (s : Fl) (t : Int) (k : Int) (hj8 : j.phs.length <= 8) (hcM : j.con.length <= 1000000) (h1 : s.ctl.lights.length <= 8) (h2 : s.ctl.nxt.length <= 2) : (Jf j s t k hj8 hcM h1 h2).ctl.lights.length <= 8 /\ (Jf j s t k hj8 hcM h1 h2).ctl.nxt.length <= 2 := (got (Md j s t k hj8 hcM h1 h2)).choose_spec.2
theorem S3 (s : C8) (h : s.ended.length <= 1000000) : ∃ d : C8, PP 90 [] [s.g] [.row 3 1 false false (tI d.ended)] (.agg [.li d.ph, .li d.gr, .own 0 d.ended.length]) /\ (d = s) := by
 refine Km (D := C8) (F := fun d => .agg [.li d.ph, .li d.gr, .own 0 d.ended.length]) (S := fun d => [.row 3 1 false false (tI d.ended)]) (Q := fun d => d = s) Tryz.func90 rfl rfl rfl (by simp [Tryz.ntmps90]) ?_
 refine VX.R ?_
 refine VX.S (fun K kk => by simp [go_sem]; refine .lo (Ep _ (by first | (simp; omega) | (simp; assumption)) (by first | (simp [T.plain]; done) | (rw [Am]; intro e he; repeat (first | replace he := Aq he | replace he := Ay he); obtain ⟨x, _, rfl⟩ := A4.1 he; rfl))) rfl (by simp [AV.cln, Cp]) ?_; simp [go_sem]; exact kk) ?_
 refine VX.R ?_
 exact .ret ⟨⟨s.ph, s.gr, s.ended⟩, rW ok0 [2], rfl⟩
theorem T6 (s : C8) (h : s.ended.length <= 1000000) : PP 90 [] [s.g] [.row 3 1 false false (tI s.ended)] (.agg [.li s.ph, .li s.gr, .own 0 (s.ended).length]) := by
 obtain ⟨Y1, cY1, qY1⟩ := S3 s h
 have := cY1
 rwa [qY1] at this
theorem Lo (s : C8) (now : Int) (h : s.ended.length <= 1000000) : Ct 151 [s.g, .li now] (fun d : C8 => d.g) (fun d => d.ended.length = s.ended.length) := by
 refine Cb Tryz.func151 ?_
 refine VX.R ?_
 refine VX.L ok0 (T6 s h) <| .seq ?_
 refine VX.R ?_
 refine VX.C ?_ ?_ <;> intro h22 <;> simp [go_sem] at h22
 ·obtain ⟨e1, H1⟩ := gx s.ended s.ph.toNat
  refine VX.H1 H1 ?_
  refine VX.H H1 ?_
  refine VX.H H1 ?_
  refine VX.Z ok0 2 ?_
  exact .ret (fin H1 ⟨(-1), 0, (s.ended).set s.ph.toNat now⟩ (by first | rfl | (simp; done)))
 refine VX.skip <| .R ?_
 refine VX.R ?_
 refine VX.Z ok0 2 ?_
 exact .ret (fin ok0 ⟨(-1), 0, s.ended⟩ (by first | rfl | (simp; done)))
noncomputable def Ls (s : C8) (now : Int) (h : s.ended.length <= 1000000) : C8 := (got (Lo s now h)).choose
theorem Tl (s : C8) (now : Int) (h : s.ended.length <= 1000000) : PP 151 [] [s.g, .li now] [] (.agg ((Ls s now h).a false)) := (got (Lo s now h)).choose_spec.1
theorem I2 (s : C8) (now : Int) (h : s.ended.length <= 1000000) : (Ls s now h).ended.length = s.ended.length := (got (Lo s now h)).choose_spec.2
theorem Pn (s : C8) (c : Cj) : PP 195 [] [c.g, .iptr false [.li s.ph, .li s.gr, .sl 1 (tI s.ended)] 0] [] (.lb (c.ph == s.ph)) := by
 refine B0 Tryz.func195 ?_
 iterate 2 refine VW.R ?_
 exact .ret (rL ok0)
theorem Wd (s : C8) (c : Cj) : PP 196 [] [c.g, .iptr false [.fn 195 [.li s.ph, .li s.gr, .sl 1 (tI s.ended)] 0] 0] [] (.lb (c.ph == s.ph && Lg c)) := by
 refine B0 Tryz.func196 ?_
 refine VW.R ?_
 refine VW.S (fun K kk => by simp [go_sem]; refine .l (Pn s c) ?_; simp [go_sem]; refine Bz (by simp [go_sem]) (by simp [go_sem]) ?_; simp [go_sem]; refine .l (Gn c) ?_; simp [go_sem]; exact kk) ?_
 exact .ret (rL ok0)
theorem Zl (g : Dy) (s : C8) (l : List Cj) (hl : l.length <= 1000000) : Ct 173 [g.g, s.g, .mClaim l] (fun d : Bool => .lb d) (fun d => True) := by
 refine Cb Tryz.func173 ?_
 refine VX.R ?_
 refine VX.sel1 1 rfl rfl (by simp) ?_
 simp [go_sem, -Prod.exists]
 refine VX.R ?_
 refine VX.sel1 2 rfl rfl (by simp) ?_
 simp [go_sem, -Prod.exists]
 refine VX.R ?_
 refine VX.region_seq (by rfl) fun K1 hK1 => ?_
 simp +contextual [go_sem]
 refine .lo (Ht l _ [.iptr false [.li s.ph, .li s.gr, .sl 1 (tI s.ended)] 0] (fun c : Cj => c.ph == s.ph) hl (Aj2 _ _) (Pn s)) (by simp [go_sem]) (by simp [AV.cln, Cp]) ?_
 simp +contextual [go_sem]
 refine Bz (by simp [go_sem]) (by simp [go_sem]) ?_
 simp +contextual [go_sem]
 first | refine .lo (Ht l _ [] Lg hl Pp Gn) rfl (by simp [AV.cln, Cp]) ?_ | refine .skip ?_
 simp +contextual [go_sem]
 refine Bz (by simp [go_sem]) (by simp [go_sem]) ?_
 simp +contextual [go_sem]
 first | refine .lo (Ht l _ [.iptr false [.fn 195 [.li s.ph, .li s.gr, .sl 1 (tI s.ended)] 0] 0] (fun c : Cj => c.ph == s.ph && Lg c) hl (Aj2 _ _) (Wd s)) rfl (by simp [AV.cln, Cp]) ?_ | refine .skip ?_
 simp +contextual [go_sem]
 refine hK1 _ ?_; clear hK1
 refine VX.ret (Co ?_); simp [go_sem]
 exact ⟨_, by first | rfl | simp [go_sem], trivial⟩
theorem K7 (g : Dy) (s : C8) (l : List Cj) (now : Int) (h : s.ended.length <= 1000000) (hl : l.length <= 1000000) : Ct 152 [g.g, s.g, .mClaim l, .li now] (fun d : C8 => d.g) (fun d => d.ended.length = s.ended.length) := by
 refine Cb Tryz.func152 ?_
 refine VX.R ?_
 refine VX.L ok0 (Ia s h) <| .seq ?_
 refine VX.region_seq (by rfl) fun K1 hK1 => ?_
 simp [go_sem]
 refine Bz (by simp [go_sem]) (by simp [go_sem]) ?_
 simp [go_sem]
 obtain ⟨Y1, cY1, qY1⟩ := got (Zl g s l hl)
 first | refine .lo cY1 rfl (by simp [AV.cln, Cp]) ?_ | refine .skip ?_
 simp [go_sem]
 refine hK1 _ ?_; clear hK1
 refine VX.C ?_ ?_ <;> intro h20 <;> simp [go_sem] at h20
 ·obtain ⟨Y2, cY2, qY2⟩ := got (Lo s now h)
  refine VX.L1 ok0 cY2 <| .seq ?_
  refine VX.R ?_
  refine VX.C ?_ ?_ <;> intro h26 <;> simp [go_sem] at h26
  ·obtain ⟨B, hvb⟩ : ∃ B : Int, PP 174 [] [g.g, .agg (C8.a false Y2), .li now, .mClaim l] [] (.li B) := ⟨_, W8 g Y2 now l hl⟩
   refine VX.L ok0 (hvb) ?_
   refine VX.R ?_
   refine VX.C ?_ ?_ <;> intro h39 <;> simp [go_sem] at h39
   ·obtain ⟨e1, H1⟩ := gx l B.toNat
    refine VX.H1 H1 ?_
    refine VX.H H1 ?_
    exact .ret (fin H1 ⟨e1.ph, 0, Y2.ended⟩ (by first | rfl | exact qY2))
   refine VX.skip <| .R ?_
   exact .ret (fin ok0 Y2 (by first | rfl | exact qY2))
  refine VX.skip <| .R ?_
  exact .ret (fin ok0 Y2 (by first | rfl | exact qY2))
 refine VX.skip <| .seq <| .R ?_
 refine VX.C ?_ ?_ <;> intro h26 <;> simp [go_sem] at h26
 ·obtain ⟨B, hvb⟩ : ∃ B : Int, PP 174 [] [g.g, .agg (C8.a false s), .li now, .mClaim l] [] (.li B) := ⟨_, W8 g s now l hl⟩
  refine VX.L ok0 (hvb) ?_
  refine VX.R ?_
  refine VX.C ?_ ?_ <;> intro h39 <;> simp [go_sem] at h39
  ·obtain ⟨e2, H2⟩ := gx l B.toNat
   refine VX.H1 H2 ?_
   refine VX.H H2 ?_
   exact .ret (fin H2 ⟨e2.ph, 0, s.ended⟩ (by first | rfl | exact I2 s now h))
  refine VX.skip <| .R ?_
  exact .ret (fin ok0 s (by first | rfl | exact I2 s now h))
 refine VX.skip <| .R ?_
 exact .ret (fin ok0 s (by first | rfl | exact I2 s now h))
noncomputable def Lh (g : Dy) (s : C8) (l : List Cj) (now : Int) (h : s.ended.length <= 1000000) (hl : l.length <= 1000000) : C8 := (got (K7 g s l now h hl)).choose
theorem We (g : Dy) (s : C8) (l : List Cj) (now : Int) (h : s.ended.length <= 1000000) (hl : l.length <= 1000000) : PP 152 [] [g.g, s.g, .mClaim l, .li now] [] (.agg ((Lh g s l now h hl).a false)) := (got (K7 g s l now h hl)).choose_spec.1
theorem Wi (g : Dy) (s : C8) (l : List Cj) (now : Int) (h : s.ended.length <= 1000000) (hl : l.length <= 1000000) : (Lh g s l now h hl).ended.length = s.ended.length := (got (K7 g s l now h hl)).choose_spec.2
theorem P0 (g : Dy) (j : Df) (s : Fl) (v : C8) (l : List Cj) (k : Int) (now : Int) (hj8 : j.phs.length <= 8) (hcM : j.con.length <= 1000000) (h1 : s.ctl.lights.length <= 8) (h2 : s.ctl.nxt.length <= 2) (h3 : v.ended.length <= 1000000) (hl : l.length <= 1000000) : Ct 127 [g.g, j.g, s.g, v.g, .mClaim l, .li k, .li now] (fun d : Fl × C8 => .tup [d.1.g, d.2.g]) (fun d => d.1.ctl.lights.length <= 8 /\ d.1.ctl.nxt.length <= 2 /\ d.2.ended.length = v.ended.length) := by
 refine Cb Tryz.func127 ?_
 have h1M : s.ctl.lights.length <= 1000000 := by omega
 have h2M : s.ctl.nxt.length <= 1000000 := by omega
 have hqv := Wi g v l now h3 hl
 have hvv := We g v l now h3 hl
 generalize Lh g v l now h3 hl = D at hqv hvv
 have hDM : D.ended.length <= 1000000 := by omega
 refine VX.R <| .seq ?_
 refine VX.R ?_
 refine VX.C ?_ ?_ <;> intro h19 <;> simp [go_sem] at h19
 ·refine VX.E (fun K kk => by simp [go_sem]; refine .l (Ml s h1M h2M) ?_; simp [go_sem]; refine .l (Tl v now h3) ?_; simp [go_sem]; exact kk) ?_
  refine VX.ret (Co ?_); simp [go_sem]
  exact ⟨(s, (Ls v now h3)), by first | rfl | simp [go_sem], ⟨h1, h2, I2 v now h3⟩⟩
 refine VX.skip <| .S (fun K kk => by simp [go_sem]; refine .l (hvv) ?_; simp [go_sem]; exact kk) ?_
 have hqs := Yo j s D.ph k hj8 hcM h1 h2
 have hvs := Yb j s D.ph k hj8 hcM h1 h2
 generalize Jf j s D.ph k hj8 hcM h1 h2 = G at hqs hvs
 refine VX.S (fun K kk => by simp [go_sem]; refine .l (hvs) ?_; simp [go_sem]; exact kk) <| .seq ?_
 refine VX.R ?_
 refine VX.C ?_ ?_ <;> intro h37 <;> simp [go_sem] at h37
 ·refine VX.E (fun K kk => by simp [go_sem]; refine .l (Tl D now hDM) ?_; simp [go_sem]; exact kk) ?_
  refine VX.ret (Co ?_); simp [go_sem]
  exact ⟨(G, (Ls D now hDM)), by first | rfl | simp [go_sem], ⟨hqs.1, hqs.2, (I2 D now hDM).trans hqv⟩⟩
 refine VX.skip <| .R ?_
 by_cases hc8 : 0 <= D.ph /\ D.ph < G.ctl.lights.length
 ·have hg1 : (0 : Int) <= D.ph := hc8.1
  have hg2 : D.ph < (G.ctl.lights.length : Int) := hc8.2
  obtain ⟨e1, H1⟩ := gx G.ctl.lights D.ph.toNat
  refine VX.S (fun K kk => by simp [go_sem, hg1, hg2, H1]; repeat first | exact kk | refine aK ?_) ?_
  refine VX.E (fun K kk => by simp [go_sem, hg1, hg2, H1]; refine .lo (Q3 D _ hDM) rfl (by simp [AV.cln, Cp]) ?_; simp [go_sem, hg1, hg2, H1]; exact kk) ?_
  refine VX.ret (Co ?_); simp [go_sem, hg1, hg2, H1]
  exact ⟨(G, (Jg D _ hDM)), by first | rfl | simp [go_sem], ⟨hqs.1, hqs.2, by rw [Q7]; exact hqv⟩⟩
 have hgf : (decide ((0 : Int) <= D.ph) && decide (D.ph < (G.ctl.lights.length : Int))) = false := by simpa using hc8
 refine VX.S (fun K kk => by simp [go_sem, hgf]; repeat first | exact kk | refine aK ?_) ?_
 refine VX.E (fun K kk => by simp [go_sem, hgf]; refine .lo (Q3 D _ hDM) rfl (by simp [AV.cln, Cp]) ?_; simp [go_sem, hgf]; exact kk) ?_
 refine VX.ret (Co ?_); simp [go_sem, hgf]
 exact ⟨(G, (Jg D _ hDM)), by first | rfl | simp [go_sem], ⟨hqs.1, hqs.2, by rw [Q7]; exact hqv⟩⟩
noncomputable def Im (g : Dy) (j : Df) (s : Fl) (v : C8) (l : List Cj) (k : Int) (now : Int) (hj8 : j.phs.length <= 8) (hcM : j.con.length <= 1000000) (h1 : s.ctl.lights.length <= 8) (h2 : s.ctl.nxt.length <= 2) (h3 : v.ended.length <= 1000000) (hl : l.length <= 1000000) : Fl × C8 := (got (P0 g j s v l k now hj8 hcM h1 h2 h3 hl)).choose
theorem Ad4 (g : Dy) (j : Df) (s : Fl) (v : C8) (l : List Cj) (k : Int) (now : Int) (hj8 : j.phs.length <= 8) (hcM : j.con.length <= 1000000) (h1 : s.ctl.lights.length <= 8) (h2 : s.ctl.nxt.length <= 2) (h3 : v.ended.length <= 1000000) (hl : l.length <= 1000000) : PP 127 [] [g.g, j.g, s.g, v.g, .mClaim l, .li k, .li now] [] (.tup [.agg ((Im g j s v l k now hj8 hcM h1 h2 h3 hl).1.a false), .agg ((Im g j s v l k now hj8 hcM h1 h2 h3 hl).2.a false)]) := (got (P0 g j s v l k now hj8 hcM h1 h2 h3 hl)).choose_spec.1
theorem Aeo (g : Dy) (j : Df) (s : Fl) (v : C8) (l : List Cj) (k : Int) (now : Int) (hj8 : j.phs.length <= 8) (hcM : j.con.length <= 1000000) (h1 : s.ctl.lights.length <= 8) (h2 : s.ctl.nxt.length <= 2) (h3 : v.ended.length <= 1000000) (hl : l.length <= 1000000) : (Im g j s v l k now hj8 hcM h1 h2 h3 hl).1.ctl.lights.length <= 8 /\ (Im g j s v l k now hj8 hcM h1 h2 h3 hl).1.ctl.nxt.length <= 2 /\ (Im g j s v l k now hj8 hcM h1 h2 h3 hl).2.ended.length = v.ended.length := (got (P0 g j s v l k now hj8 hcM h1 h2 h3 hl)).choose_spec.2
theorem Nt (m : B3) (h1 : m.tok.length <= 10000) (h2 : m.args.length <= 10000) (h3 : m.data.length <= 10000) : Ct 51 [m.g] (fun d : Bool => .lb d) (fun d => d = true -> (Dm m h1 h2 h3).length <= 200) := by
 refine Cb Tryz.func51 ?_
 have hv := P5 m.kind
 have hq0 := Qe m.kind
 generalize B7 m.kind = S at hv hq0
 refine VX.R <| .seq ?_
 refine VX.R ?_
 refine VX.C ?_ ?_ <;> intro h14 <;> simp [go_sem] at h14
 ·refine VX.R ?_
  refine VX.ret (Co ?_); simp [go_sem]
  exact ⟨false, by first | rfl | simp [go_sem], (by first | exact fun h => Bool.noConfusion h | exact fun h => by (have := of_decide_eq_true h; omega) | exact fun h => by (simp at h; omega))⟩
 refine VX.skip <| .L ok0 (hv) ?_
 refine VX.R <| .seq <| .block ?_
 refine VX.cut (fun s => ∃ (w24 : Bool), s = ⟨[(1, .ptr 0 0), (3, .ptr 1 0), (4, .li (IntKind.i64.wrap (m.args.length - S.fix))), (24, .lb w24)], [.box 56 [.li m.kind, .mY m.tok, .mI m.args, .mY m.data], .box 177 [.li S.fix, .li S.grp, .li S.lea, .li S.mos, .li S.dat]]⟩) ?_ ?_
 ·refine VX.L ok0 (Gw m.kind) ?_
  refine VX.C ?_ ?_ <;> intro h24 <;> simp [go_sem] at h24
  ·refine VX.skip ?_
   refine ⟨[0, 1], _, Bp (by decide) ?_ ?_, by simp, ((Fa m.kind) && ((m.tok.length : Int) != 10)), rfl⟩
   all_goals simp [go_sem]
  refine VX.L1 ok0 (Gw m.kind) ?_
  refine ⟨[0, 1], _, Bp (by decide) ?_ ?_, by simp, (!(Fa m.kind) && ((m.tok.length : Int) != 0)), rfl⟩
  all_goals simp [go_sem]
 rintro _ ⟨w24, rfl⟩
 refine VX.C ?_ ?_ <;> intro h24 <;> simp [go_sem] at h24
 ·refine VX.R ?_
  refine VX.ret (Co ?_); simp [go_sem]
  exact ⟨false, by first | rfl | simp [go_sem], (by first | exact fun h => Bool.noConfusion h | exact fun h => by (have := of_decide_eq_true h; omega) | exact fun h => by (simp at h; omega))⟩
 refine VX.cut (fun s => ∃ (w44 : Bool), s = ⟨[(1, .ptr 0 0), (3, .ptr 1 0), (44, .lb w44)], [.box 56 [.li m.kind, .mY m.tok, .mI m.args, .mY m.data], .box 177 [.li S.fix, .li S.grp, .li S.lea, .li S.mos, .li S.dat]]⟩) ?_ ?_
 ·refine VX.R ?_
  refine VX.C ?_ ?_ <;> intro h44 <;> simp [go_sem] at h44
  ·refine VX.skip ?_
   refine ⟨[0, 1], _, Bp (by decide) ?_ ?_, by simp, (((S.grp : Int) == 0) && (((IntKind.i64.wrap (m.args.length - S.fix)) : Int) != 0)), rfl⟩
   all_goals simp [go_sem]
  refine VX.H1 ok0 ?_
  refine ⟨[0, 1], _, Bp (by decide) ?_ ?_, by simp, (decide ((0 : Int) < S.grp) && ((decide (((IntKind.i64.wrap (m.args.length - S.fix)) : Int) < (IntKind.i64.wrap (S.grp * S.lea))) || decide (((IntKind.i64.wrap (S.grp * S.mos)) : Int) < (IntKind.i64.wrap (m.args.length - S.fix)))) || (((Int.tmod (IntKind.i64.wrap (m.args.length - S.fix)) S.grp) : Int) != 0))), rfl⟩
  all_goals simp [go_sem]
 rintro _ ⟨w44, rfl⟩
 refine VX.C ?_ ?_ <;> intro h44 <;> simp [go_sem] at h44
 ·refine VX.R ?_
  refine VX.ret (Co ?_); simp [go_sem]
  exact ⟨false, by first | rfl | simp [go_sem], (by first | exact fun h => Bool.noConfusion h | exact fun h => by (have := of_decide_eq_true h; omega) | exact fun h => by (simp at h; omega))⟩
 refine VX.cut (fun s => ∃ (w80 : Bool), s = ⟨[(1, .ptr 0 0), (80, .lb w80)], [.box 56 [.li m.kind, .mY m.tok, .mI m.args, .mY m.data], .box 177 [.li S.fix, .li S.grp, .li S.lea, .li S.mos, .li S.dat]]⟩) ?_ ?_
 ·refine VX.R ?_
  refine VX.C ?_ ?_ <;> intro h80 <;> simp [go_sem] at h80
  ·refine VX.skip ?_
   refine ⟨[0, 1], _, Bp (by decide) ?_ ?_, by simp, (decide ((0 : Int) <= S.dat) && ((m.data.length : Int) != S.dat)), rfl⟩
   all_goals simp [go_sem]
  refine VX.R1 ?_
  refine ⟨[0, 1], _, Bp (by decide) ?_ ?_, by simp, decide ((200 : Int) < m.data.length), rfl⟩
  all_goals simp [go_sem]
 rintro _ ⟨w80, rfl⟩
 refine VX.C ?_ ?_ <;> intro h80 <;> simp [go_sem] at h80
 ·refine VX.R ?_
  refine VX.ret (Co ?_); simp [go_sem]
  exact ⟨false, by first | rfl | simp [go_sem], (by first | exact fun h => Bool.noConfusion h | exact fun h => by (have := of_decide_eq_true h; omega) | exact fun h => by (simp at h; omega))⟩
 refine VX.skip <| .seq <| .R <| .block ?_
 refine VX.rangeE m.args.length (fun i1 (y1 : Unit) => ⟨[(1, .ptr 0 0), (97, .mI m.args), (98, .li m.args.length), (99, .li i1)], [.box 56 [.li m.kind, .mY m.tok, .mI m.args, .mY m.data]]⟩) (fun i1 y1 => True) () ⟨[0], Bp (by decide) ?_ ?_, by simp⟩ (trivial) fun i1 y1 hi1 hy1 => ?_
 ·simp [go_sem]
 ·simp [go_sem]
 refine VX.R <| .seq ?_
 refine VX.C ?_ ?_ <;> intro h100 <;> simp [go_sem] at h100
 ·refine VX.skip <| .seq <| .block ?_
  obtain ⟨e1, H1⟩ := gx m.args i1
  refine VX.H H1 ?_
  refine VX.H H1 ?_
  refine VX.C ?_ ?_ <;> intro h108 <;> simp [go_sem] at h108
  ·refine VX.H H1 ?_
   refine VX.ret (Co ?_); simp [go_sem, H1]
   exact ⟨false, by first | rfl | simp [go_sem], (by first | exact fun h => Bool.noConfusion h | exact fun h => by (have := of_decide_eq_true h; omega) | exact fun h => by (simp at h; omega))⟩
  refine VX.skip <| .H1 H1 ?_
  refine ⟨by omega, (), ?_, [0], Bp (by decide) ?_ ?_, by simp⟩
  ·trivial
  all_goals simp [go_sem, Bq ((i1 : Int) + 1), H1]
 refine VX.exit <| .L ok0 (Hn m h1 h2 h3) ?_
 refine VX.ret (Co ?_); simp [go_sem]
 exact ⟨decide ((((Dm m h1 h2 h3).length) : Int) <= 200), by first | rfl | simp [go_sem], (by first | exact fun h => Bool.noConfusion h | exact fun h => by (have := of_decide_eq_true h; omega) | exact fun h => by (simp at h; omega))⟩
theorem M4 (m : B3) (h1 : m.tok.length <= 10000) (h2 : m.args.length <= 10000) (h3 : m.data.length <= 10000) : Ct 67 [m.g] (fun d : List Int × Int => .tup [.mY d.1, .li d.2]) (fun d => d.1.length <= 200 /\ (By m.tok -> By m.data -> By d.1)) := by
 refine Cb Tryz.func67 ?_
 refine VX.R <| .seq ?_
 obtain ⟨Y1, cY1, qY1⟩ := got (Nt m h1 h2 h3)
 refine VX.L ok0 cY1 ?_
 refine VX.C ?_ ?_ <;> intro h6 <;> simp [go_sem] at h6
 ·refine VX.R ?_
  exact .ret (fin ok0 ([], 6) (by first | exact ⟨Ae _, fun _ _ => Kt⟩ | exact ⟨qY1 (by simpa using h6), Hp m h1 h2 h3⟩))
 refine VX.skip <| .L ok0 (Hn m h1 h2 h3) ?_
 exact .ret (fin ok0 ((Dm m h1 h2 h3), 0) (by first | exact ⟨Ae _, fun _ _ => Kt⟩ | exact ⟨qY1 (by simpa using h6), Hp m h1 h2 h3⟩))
def Akj (r d : I4) : Prop := d.num = r.num /\ d.ag = r.ag
theorem Mb (r : I4) (n : Int) (hb : Rd r) : Ct 147 [r.g, .li n] (fun d : I4 => d.g) (fun d => Rd d /\ Akj r d /\ d.toks = Gs r.toks n hb.toks hb.tsec /\ d.vehs = r.vehs /\ d.bk = Z9 r.bk) := by
 refine Cb Tryz.func147 ?_
 have hq := Aac r.toks n hb.toks hb.tsec
 refine VX.R ?_
 refine VX.L ok0 (K9 r hb) ?_
 refine VX.L ok0 (Zo r.toks n hb.toks hb.tsec) ?_
 refine VX.L ok0 (Afu r.bk) ?_
 refine VX.R ?_
 exact .ret (fin ok0 ⟨r.num, r.ag, (Gs r.toks n hb.toks hb.tsec), r.vehs, (Z9 r.bk)⟩ ⟨⟨hb.sec, hb.lims, by dsimp only; rw [hq.1]; exact hb.toks, hq.2, hb.vehs⟩, ⟨rfl, rfl⟩, rfl, rfl, rfl⟩)
noncomputable def Eb (r : I4) (n : Int) (hb : Rd r) : I4 := (got (Mb r n hb)).choose
theorem X6 (r : I4) (n : Int) (hb : Rd r) : PP 147 [] [r.g, .li n] [] (.agg ((Eb r n hb).a false)) := (got (Mb r n hb)).choose_spec.1
theorem Q5 (r : I4) (n : Int) (hb : Rd r) : Rd (Eb r n hb) /\ Akj r (Eb r n hb) /\ (Eb r n hb).toks = Gs r.toks n hb.toks hb.tsec /\ (Eb r n hb).vehs = r.vehs /\ (Eb r n hb).bk = Z9 r.bk := (got (Mb r n hb)).choose_spec.2
theorem P1 (x : Bv) (n : Int) (hb : Ra x) : Ct 124 [x.g, .li n] (fun d : Bv => d.g) (fun d => Ra d /\ d.reg = Eb x.reg n hb.reg /\ d.reqs = x.reqs.filter (fun r => decide (n <= r.unt)) /\ d.draws = x.draws /\ d.aud = x.aud) := by
 refine Cb Tryz.func124 ?_
 refine VX.R ?_
 refine VX.L ok0 (Jb x hb) ?_
 refine VX.L ok0 (X6 x.reg n hb.reg) ?_
 refine VX.L ok0 (Wc x.reqs n hb.reqs hb.legs) ?_
 refine VX.R ?_
 exact .ret (fin ok0 ⟨(Eb x.reg n hb.reg), (List.filter (fun r : Cg => decide (n <= r.unt)) x.reqs), x.draws, x.aud⟩ ⟨⟨(Q5 x.reg n hb.reg).1, Ak (Az _ _) hb.reqs, fun r h => hb.legs r (Bn.1 h).1, hb.draws, hb.draw, hb.aud⟩, rfl, rfl, rfl, rfl⟩)
noncomputable def Fr (x : Bv) (n : Int) (hb : Ra x) : Bv := (got (P1 x n hb)).choose
theorem Ad5 (x : Bv) (n : Int) (hb : Ra x) : PP 124 [] [x.g, .li n] [] (.agg ((Fr x n hb).a false)) := (got (P1 x n hb)).choose_spec.1
theorem Aep (x : Bv) (n : Int) (hb : Ra x) : Ra (Fr x n hb) /\ (Fr x n hb).reg = Eb x.reg n hb.reg /\ (Fr x n hb).reqs = x.reqs.filter (fun r => decide (n <= r.unt)) /\ (Fr x n hb).draws = x.draws /\ (Fr x n hb).aud = x.aud := (got (P1 x n hb)).choose_spec.2
theorem Tc (x : Bv) (l : List E7) (now : Int) (hr : x.reqs.length <= 1000000) (hq4 : x.reg.ag.rq <= 4) (hl : l.length <= 4) (hv : ∀ v ∈ l, v.col.length <= 8 /\ v.cnt.length <= 8) : Ct 131 [x.g, .mView l, .li now] (fun d : B3 => d.g) (fun d => d.kind = 17 /\ d.args = [now] /\ d.tok = [] /\ d.data.length <= 60) := by
 refine Cb Tryz.func131 ?_
 have hlM : l.length <= 1000000 := by omega
 have hv8 : ∀ v ∈ l, v.col.length <= 8 := fun v h => (hv v h).1
 obtain ⟨Y1, cY1, qY1⟩ := got (Zg x.reqs x.reg.ag.rq l now hr hlM hv8 hq4)
 have hc := qY1
 have hcM : Y1.length <= 1000 := by omega
 refine VX.R ?_
 refine VX.L ok0 cY1 ?_
 obtain ⟨Y2, cY2, qY2⟩ := got (Vu now l Y1 hl hv hcM)
 refine VX.L ok0 cY2 ?_
 exact .ret (fin ok0 Y2 (by have hm := qY2; have hB := Kj l hl hv; exact ⟨hm.1, hm.2.1, hm.2.2.1, by rw [hm.2.2.2]; simp only [Bo]; omega⟩))
theorem S0 (r : I4) (l : List Int) (slot : Int) (now : Int) (sec : List Int) (hb : Rd r) (hl : 3 <= l.length) (hs : sec.length <= 1000) : Cx 233 [.box 66 (r.a false)] [.ptr 0 0, .mI l, .li slot, .li now, .mY sec] (fun d : B3 × Int × I4 => [.box 66 (d.2.2.a false)]) (fun d => .tup [d.1.g, .li d.2.1]) (fun d => Rd d.2.2 /\ d.2.2.num = r.num /\ d.2.2.ag = r.ag /\ d.2.2.vehs = r.vehs /\ d.2.2.bk = r.bk /\ d.1.tok = [] /\ d.1.args.length <= 1 /\ d.1.data.length <= 1002) := by
 refine Pr Tryz.func233 ?_
 have hsM : sec.length <= 1000000 := by omega
 refine VX.R ?_
 refine VX.H ok0 <| .seq ?_
 refine VX.Z ok0 2 ?_
 obtain ⟨e1, H1⟩ := gx l 0
 obtain ⟨e2, H2⟩ := gx l 1
 obtain ⟨e3, H3⟩ := gx l 2
 obtain ⟨Y1, cY1, qY1⟩ := got (Rf r.toks slot e1 e2 e3 (List.replicate 8 0) now hb.toks hb.tsec (by simp))
 refine VX.M (cj3 H1 H2 H3) cY1 ?_
 refine VX.H (cj3 H1 H2 H3) ?_
 refine VX.C ?_ ?_ <;> intro h43 <;> simp [go_sem] at h43
 ·refine VX.H (cj3 H1 H2 H3) ?_
  exact .ret ⟨(⟨0, [], [], []⟩, Y1.2.2, r), rW (cj3 H1 H2 H3) [0], ⟨hb, rfl, rfl, rfl, rfl, rfl, by simp, by simp⟩⟩
 refine VX.skip <| .seq <| .H (cj3 H1 H2 H3) ?_
 refine VX.C ?_ ?_ <;> intro h48 <;> simp [go_sem] at h48
 ·refine VX.H (cj3 H1 H2 H3) ?_
  exact .ret ⟨(⟨0, [], [], []⟩, 18, r), rW (cj3 H1 H2 H3) [0], ⟨hb, rfl, rfl, rfl, rfl, rfl, by simp, by simp⟩⟩
 refine VX.skip ?_
 obtain ⟨Y2, cY2, qY2⟩ := got (Rf r.toks slot e1 e2 e3 sec now hb.toks hb.tsec hsM)
 have hqd := qY2
 refine VX.M (cj3 H1 H2 H3) cY2 <| .seq ?_
 refine VX.H (cj3 H1 H2 H3) ?_
 refine VX.C ?_ ?_ <;> intro h72 <;> simp [go_sem] at h72
 ·refine VX.H (cj3 H1 H2 H3) ?_
  exact .ret ⟨(⟨0, [], [], []⟩, Y2.2.2, r), rW (cj3 H1 H2 H3) [0], ⟨hb, rfl, rfl, rfl, rfl, rfl, by simp, by simp⟩⟩
 refine VX.skip <| .H (cj3 H1 H2 H3) ?_
 refine VX.L (cj3 H1 H2 H3) (Abr r.num Y2.2.1 sec hs) ?_
 refine VX.H (cj3 H1 H2 H3) ?_
 refine VX.Z ok0 3 ?_
 exact .ret ⟨(⟨16, [], [Y2.2.1], (O3 r.num Y2.2.1 sec hs)⟩, 0, ⟨r.num, r.ag, Y2.1, r.vehs, r.bk⟩), rW (cj3 H1 H2 H3) [0], ⟨⟨hb.sec, hb.lims, Ak hqd.1 hb.toks, hqd.2, hb.vehs⟩, rfl, rfl, rfl, rfl, rfl, by simp, by dsimp only; rw [Ab3]; omega⟩⟩
end Go.Proofs.YtkkimgjinbaemaaGreat
