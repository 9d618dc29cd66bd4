/- The walk. -/
import Derived.Test.YtkkimgjinbaemaaGreatKbf
namespace Go.Proofs.YtkkimgjinbaemaaGreat
open Go.RowKit
set_option linter.unusedVariables false
set_option linter.unusedSimpArgs false
set_option maxRecDepth 100000
set_option maxHeartbeats 4000000
theorem Zh (j : Df) (c : Kr) (t : Int) (hj : Ln j) (hl : c.lights.length = j.phs.length) (hn : O8 j c.nxt) (h0 : 0 <= t) (h1 : t < j.phs.length) : Cx 203 [.box 133 [.own 1 c.lights.length, .li c.grp, .own 2 c.nxt.length, .li c.wt], .row 185 2 false false (Fj c.lights), .row 3 1 false false (tI c.nxt)] [j.g, .ptr 0 0, .li t] (fun d : Kr × Bool × (List Int) => (bif d.2.1 then [.box 133 [.own 1 d.1.lights.length, .li d.1.grp, .own 3 d.1.nxt.length, .li d.1.wt], .row 185 2 false false (Fj d.1.lights), .row 3 1 false false (tI d.2.2), .row 3 1 false false (tI d.1.nxt)] else [.box 133 [.own 1 d.1.lights.length, .li d.1.grp, .own 2 d.1.nxt.length, .li d.1.wt], .row 185 2 false false (Fj d.1.lights), .row 3 1 false false (tI d.1.nxt)])) (fun d => .tup []) (fun d => d.1.lights.length = c.lights.length /\ d.1.wt = c.wt /\ O8 j d.1.nxt) := by
 refine Pr Tryz.func203 ?_
 have hjl := hj.len
 have hjc := hj.con
 have hnl := hn.len
 refine VX.R ?_
 refine VX.R <| .block ?_
 refine VX.rangeE 2 (fun i1 (y1 : Int × Int × (List Cz) × (List Int) × Bool × (List Int)) => ⟨[(1, .ptr 0 0), (2, .li t), (3, .ptr 3 0), (8, .li i1)], bif y1.2.2.2.2.1 then [.box 133 [.own 1 y1.2.2.1.length, .li y1.1, .own 4 y1.2.2.2.1.length, .li y1.2.1], .row 185 2 false false (Fj y1.2.2.1), .row 3 1 false false (tI y1.2.2.2.2.2), .box 88 [.mPhase j.phs, .mI j.con, .li j.start], .row 3 1 false false (tI y1.2.2.2.1)] else [.box 133 [.own 1 y1.2.2.1.length, .li y1.1, .own 2 y1.2.2.2.1.length, .li y1.2.1], .row 185 2 false false (Fj y1.2.2.1), .row 3 1 false false (tI y1.2.2.2.1), .box 88 [.mPhase j.phs, .mI j.con, .li j.start]]⟩) (fun i1 y1 => y1.2.2.1.length = j.phs.length /\ y1.2.1 = c.wt /\ O8 j y1.2.2.2.1) (c.grp, c.wt, c.lights, c.nxt, false, []) (wk ok0 [0, 1, 2, 3]) (⟨hl, rfl, hn⟩) fun i1 y1 hi1 hy1 => ?_
 cases hb1 : y1.2.2.2.2.1
 ·
  simp only [hb1, cond_false]
  refine VX.R <| .seq ?_
  refine VX.C ?_ ?_ <;> intro h9 <;> simp [go_sem] at h9
  ·refine VX.skip <| .seq <| .block <| .R <| .seq ?_
   have hnl1 := hy1.2.2.len
   have hll1 := hy1.1
   obtain ⟨Y1, cY1, qY1⟩ := got (Lv j ⟨y1.2.2.1, y1.1, y1.2.2.2.1, y1.2.1⟩ i1 (by first | assumption | omega) (by first | assumption | omega))
   refine VX.M ok0 cY1 ?_
   refine VX.C ?_ ?_ <;> intro h17 <;> simp [go_sem] at h17
   ·refine VX.exit <| .R1 ?_
    refine ⟨by omega, (y1.1, y1.2.1, y1.2.2.1, y1.2.2.2.1, false, []), ?_, wk (Bq ((i1 : Int) + 1)) [0, 1, 2, 3]⟩
    first | exact hy1 | exact ⟨by dsimp only; rw [hqN.1]; exact hy1.1, hqN.2.1.trans hy1.2.1, hqN.2.2⟩
   refine VX.skip <| .R <| .seq ?_
   obtain ⟨e1, H1⟩ := gx j.phs t.toNat
   refine VX.H H1 ?_
   refine VX.C ?_ ?_ <;> intro h26 <;> simp [go_sem] at h26
   ·have hri : 0 <= (i1 : Int) /\ (i1 : Int) < 2 := by omega
    obtain ⟨Y2, cY2, qY2⟩ := got (Pd j ⟨y1.2.2.1, y1.1, y1.2.2.2.1, y1.2.1⟩ i1 t hj.len hnl1 hri hj.con)
    have hvc := cY2
    have hqc := qY2
    generalize Y2 = Q at hvc hqc
    refine VX.M1 H1 (hvc) ?_
    refine VX.H H1 ?_
    refine VX.C ?_ ?_ <;> intro h35 <;> simp [go_sem] at h35
    ·have hp : 0 <= Q /\ Q < j.phs.length := by first | exact ⟨h0, h1⟩ | (rcases hqc with hqc | hqc; exact absurd hqc h35; exact hqc)
     obtain ⟨⟨N, b, o⟩, hN, hqN⟩ := Fx j ⟨y1.2.2.1, y1.1, y1.2.2.2.1, y1.2.1⟩ Q hj (by first | exact hy1.1 | exact hl) (by first | exact hy1.2.2 | exact hn) hp.1 hp.2
     by_cases hc9 : b = true
     ·subst hc9
      simp only [cond_true] at hN hqN
      refine VX.S1 (fun K kk => by simp [go_sem, H1]; refine .o [0, 1, 2] (hN) ?_; simp [go_sem, H1]; exact kk) ?_
      refine VX.H1 H1 ?_
      refine ⟨by omega, (N.grp, N.wt, N.lights, N.nxt, true, o), ?_, wk (cj2 (Bq ((i1 : Int) + 1)) H1) [0, 1, 2, 3, 4]⟩
      first | exact hy1 | exact ⟨by dsimp only; rw [hqN.1]; exact hy1.1, hqN.2.1.trans hy1.2.1, hqN.2.2⟩
     have hc9 : b = false := by simpa using hc9
     subst hc9
     simp only [cond_false] at hN hqN
     refine VX.S1 (fun K kk => by simp [go_sem, H1]; refine .o [0, 1, 2] (hN) ?_; simp [go_sem, H1]; exact kk) ?_
     refine VX.H1 H1 ?_
     refine ⟨by omega, (N.grp, N.wt, N.lights, N.nxt, false, []), ?_, wk (cj2 (Bq ((i1 : Int) + 1)) H1) [0, 1, 2, 3]⟩
     first | exact hy1 | exact ⟨by dsimp only; rw [hqN.1]; exact hy1.1, hqN.2.1.trans hy1.2.1, hqN.2.2⟩
    refine VX.skip <| .H1 H1 ?_
    refine ⟨by omega, (y1.1, y1.2.1, y1.2.2.1, y1.2.2.2.1, false, []), ?_, wk (cj2 (Bq ((i1 : Int) + 1)) H1) [0, 1, 2, 3]⟩
    first | exact hy1 | exact ⟨by dsimp only; rw [hqN.1]; exact hy1.1, hqN.2.1.trans hy1.2.1, hqN.2.2⟩
   refine VX.skip <| .H H1 ?_
   refine VX.C ?_ ?_ <;> intro h35 <;> simp [go_sem] at h35
   ·have hp : 0 <= t /\ t < j.phs.length := by first | exact ⟨h0, h1⟩ | (rcases hqc with hqc | hqc; exact absurd hqc h35; exact hqc)
    obtain ⟨⟨N, b, o⟩, hN, hqN⟩ := Fx j ⟨y1.2.2.1, y1.1, y1.2.2.2.1, y1.2.1⟩ t hj (by first | exact hy1.1 | exact hl) (by first | exact hy1.2.2 | exact hn) hp.1 hp.2
    by_cases hc9 : b = true
    ·subst hc9
     simp only [cond_true] at hN hqN
     refine VX.S1 (fun K kk => by simp [go_sem, H1]; refine .o [0, 1, 2] (hN) ?_; simp [go_sem, H1]; exact kk) ?_
     refine VX.H1 H1 ?_
     refine ⟨by omega, (N.grp, N.wt, N.lights, N.nxt, true, o), ?_, wk (cj2 (Bq ((i1 : Int) + 1)) H1) [0, 1, 2, 3, 4]⟩
     first | exact hy1 | exact ⟨by dsimp only; rw [hqN.1]; exact hy1.1, hqN.2.1.trans hy1.2.1, hqN.2.2⟩
    have hc9 : b = false := by simpa using hc9
    subst hc9
    simp only [cond_false] at hN hqN
    refine VX.S1 (fun K kk => by simp [go_sem, H1]; refine .o [0, 1, 2] (hN) ?_; simp [go_sem, H1]; exact kk) ?_
    refine VX.H1 H1 ?_
    refine ⟨by omega, (N.grp, N.wt, N.lights, N.nxt, false, []), ?_, wk (cj2 (Bq ((i1 : Int) + 1)) H1) [0, 1, 2, 3]⟩
    first | exact hy1 | exact ⟨by dsimp only; rw [hqN.1]; exact hy1.1, hqN.2.1.trans hy1.2.1, hqN.2.2⟩
   refine VX.skip <| .H1 H1 ?_
   refine ⟨by omega, (y1.1, y1.2.1, y1.2.2.1, y1.2.2.2.1, false, []), ?_, wk (cj2 (Bq ((i1 : Int) + 1)) H1) [0, 1, 2, 3]⟩
   first | exact hy1 | exact ⟨by dsimp only; rw [hqN.1]; exact hy1.1, hqN.2.1.trans hy1.2.1, hqN.2.2⟩
  refine VX.exit ?_
  refine ⟨(⟨y1.2.2.1, y1.1, y1.2.2.2.1, y1.2.1⟩, false, []), Aeh [0, 1, 2] (by simp [go_sem]) (by decide) (Dd rfl) (by simp [go_sem]) ?_, ⟨hy1.1.trans hl.symm, hy1.2⟩⟩
  repeat' (first | exact .nil | refine .cons (by simp [go_sem]) ?_)
 -- the row is a new one
 simp only [hb1, cond_true]
 refine VX.R <| .seq ?_
 refine VX.C ?_ ?_ <;> intro h9 <;> simp [go_sem] at h9
 ·refine VX.skip <| .seq <| .block <| .R <| .seq ?_
  have hnl1 := hy1.2.2.len
  have hll1 := hy1.1
  obtain ⟨Y3, cY3, qY3⟩ := got (Lv j ⟨y1.2.2.1, y1.1, y1.2.2.2.1, y1.2.1⟩ i1 (by first | assumption | omega) (by first | assumption | omega))
  refine VX.M ok0 cY3 ?_
  refine VX.C ?_ ?_ <;> intro h17 <;> simp [go_sem] at h17
  ·refine VX.exit <| .R1 ?_
   refine ⟨by omega, (y1.1, y1.2.1, y1.2.2.1, y1.2.2.2.1, true, y1.2.2.2.2.2), ?_, wk (Bq ((i1 : Int) + 1)) [0, 1, 2, 3, 4]⟩
   first | exact hy1 | exact ⟨by dsimp only; rw [hqN.1]; exact hy1.1, hqN.2.1.trans hy1.2.1, hqN.2.2⟩
  refine VX.skip <| .R <| .seq ?_
  obtain ⟨e2, H2⟩ := gx j.phs t.toNat
  refine VX.H H2 ?_
  refine VX.C ?_ ?_ <;> intro h26 <;> simp [go_sem] at h26
  ·have hri : 0 <= (i1 : Int) /\ (i1 : Int) < 2 := by omega
   obtain ⟨Y4, cY4, qY4⟩ := got (Pd j ⟨y1.2.2.1, y1.1, y1.2.2.2.1, y1.2.1⟩ i1 t hj.len hnl1 hri hj.con)
   have hvc := cY4
   have hqc := qY4
   generalize Y4 = Q at hvc hqc
   refine VX.M1 H2 (hvc) ?_
   refine VX.H H2 ?_
   refine VX.C ?_ ?_ <;> intro h35 <;> simp [go_sem] at h35
   ·have hp : 0 <= Q /\ Q < j.phs.length := by first | exact ⟨h0, h1⟩ | (rcases hqc with hqc | hqc; exact absurd hqc h35; exact hqc)
    obtain ⟨⟨N, b, o⟩, hN, hqN⟩ := Fx j ⟨y1.2.2.1, y1.1, y1.2.2.2.1, y1.2.1⟩ Q hj (by first | exact hy1.1 | exact hl) (by first | exact hy1.2.2 | exact hn) hp.1 hp.2
    by_cases hc9 : b = true
    ·subst hc9
     simp only [cond_true] at hN hqN
     refine VX.S1 (fun K kk => by simp [go_sem, H2]; refine .o [0, 1, 4] (hN) ?_; simp [go_sem, H2]; exact kk) ?_
     refine VX.H1 H2 ?_
     refine ⟨by omega, (N.grp, N.wt, N.lights, N.nxt, true, y1.2.2.2.2.2), ?_, wk (cj2 (Bq ((i1 : Int) + 1)) H2) [0, 1, 2, 3, 5]⟩
     first | exact hy1 | exact ⟨by dsimp only; rw [hqN.1]; exact hy1.1, hqN.2.1.trans hy1.2.1, hqN.2.2⟩
    have hc9 : b = false := by simpa using hc9
    subst hc9
    simp only [cond_false] at hN hqN
    refine VX.S1 (fun K kk => by simp [go_sem, H2]; refine .o [0, 1, 4] (hN) ?_; simp [go_sem, H2]; exact kk) ?_
    refine VX.H1 H2 ?_
    refine ⟨by omega, (N.grp, N.wt, N.lights, N.nxt, true, y1.2.2.2.2.2), ?_, wk (cj2 (Bq ((i1 : Int) + 1)) H2) [0, 1, 2, 3, 4]⟩
    first | exact hy1 | exact ⟨by dsimp only; rw [hqN.1]; exact hy1.1, hqN.2.1.trans hy1.2.1, hqN.2.2⟩
   refine VX.skip <| .H1 H2 ?_
   refine ⟨by omega, (y1.1, y1.2.1, y1.2.2.1, y1.2.2.2.1, true, y1.2.2.2.2.2), ?_, wk (cj2 (Bq ((i1 : Int) + 1)) H2) [0, 1, 2, 3, 4]⟩
   first | exact hy1 | exact ⟨by dsimp only; rw [hqN.1]; exact hy1.1, hqN.2.1.trans hy1.2.1, hqN.2.2⟩
  refine VX.skip <| .H H2 ?_
  refine VX.C ?_ ?_ <;> intro h35 <;> simp [go_sem] at h35
  ·have hp : 0 <= t /\ t < j.phs.length := by first | exact ⟨h0, h1⟩ | (rcases hqc with hqc | hqc; exact absurd hqc h35; exact hqc)
   obtain ⟨⟨N, b, o⟩, hN, hqN⟩ := Fx j ⟨y1.2.2.1, y1.1, y1.2.2.2.1, y1.2.1⟩ t hj (by first | exact hy1.1 | exact hl) (by first | exact hy1.2.2 | exact hn) hp.1 hp.2
   by_cases hc9 : b = true
   ·subst hc9
    simp only [cond_true] at hN hqN
    refine VX.S1 (fun K kk => by simp [go_sem, H2]; refine .o [0, 1, 4] (hN) ?_; simp [go_sem, H2]; exact kk) ?_
    refine VX.H1 H2 ?_
    refine ⟨by omega, (N.grp, N.wt, N.lights, N.nxt, true, y1.2.2.2.2.2), ?_, wk (cj2 (Bq ((i1 : Int) + 1)) H2) [0, 1, 2, 3, 5]⟩
    first | exact hy1 | exact ⟨by dsimp only; rw [hqN.1]; exact hy1.1, hqN.2.1.trans hy1.2.1, hqN.2.2⟩
   have hc9 : b = false := by simpa using hc9
   subst hc9
   simp only [cond_false] at hN hqN
   refine VX.S1 (fun K kk => by simp [go_sem, H2]; refine .o [0, 1, 4] (hN) ?_; simp [go_sem, H2]; exact kk) ?_
   refine VX.H1 H2 ?_
   refine ⟨by omega, (N.grp, N.wt, N.lights, N.nxt, true, y1.2.2.2.2.2), ?_, wk (cj2 (Bq ((i1 : Int) + 1)) H2) [0, 1, 2, 3, 4]⟩
   first | exact hy1 | exact ⟨by dsimp only; rw [hqN.1]; exact hy1.1, hqN.2.1.trans hy1.2.1, hqN.2.2⟩
  refine VX.skip <| .H1 H2 ?_
  refine ⟨by omega, (y1.1, y1.2.1, y1.2.2.1, y1.2.2.2.1, true, y1.2.2.2.2.2), ?_, wk (cj2 (Bq ((i1 : Int) + 1)) H2) [0, 1, 2, 3, 4]⟩
  first | exact hy1 | exact ⟨by dsimp only; rw [hqN.1]; exact hy1.1, hqN.2.1.trans hy1.2.1, hqN.2.2⟩
 refine VX.exit ?_
 refine ⟨(⟨y1.2.2.1, y1.1, y1.2.2.2.1, y1.2.1⟩, true, y1.2.2.2.2.2), Aeh [0, 1, 2, 4] (by simp [go_sem]) (by decide) (Dd rfl) (by simp [go_sem]) ?_, ⟨hy1.1.trans hl.symm, hy1.2⟩⟩
 repeat' (first | exact .nil | refine .cons (by simp [go_sem]) ?_)
theorem Rg (j : Df) (hj : Ln j) : Ct 222 [j.g] (fun d : Int => .li d) (fun d => 1 <= d /\ d <= 4) := by
 refine Cb Tryz.func222 ?_
 have hjl := hj.len
 refine VX.R ?_
 refine VX.R <| .seq ?_
 refine VX.R <| .block ?_
 refine VX.rangeE j.phs.length (fun i1 (y1 : Int) => ⟨[(3, .li y1), (7, .mPhase j.phs), (8, .li j.phs.length), (9, .li i1)], []⟩) (fun i1 y1 => 0 <= y1 /\ y1 <= 4 /\ (0 < i1 -> 1 <= y1)) (0) (wk ok0 []) (⟨by omega, by omega, fun h => by omega⟩) fun i1 y1 hi1 hy1 => ?_
 refine VX.R <| .seq ?_
 refine VX.C ?_ ?_ <;> intro h10 <;> simp [go_sem] at h10
 ·refine VX.skip <| .seq <| .block ?_
  obtain ⟨e1, H1⟩ := gx j.phs i1
  refine VX.H H1 ?_
  have hg := hj.grp e1 (Ac H1)
  have hw2 := Bq (e1.grp + 1 : Int)
  refine VX.H1 (cj2 H1 hw2) ?_
  refine VX.H1 (cj2 H1 hw2) ?_
  refine ⟨by omega, ((if y1 < (e1.grp + 1) then (e1.grp + 1) else y1)), ?_, wk (cj3 (Bq ((i1 : Int) + 1)) H1 hw2) []⟩
  (split <;> omega)
 refine VX.exit <| .R ?_
 exact .ret (fin ok0 y1 (by have := hj.pos; omega))
theorem Zi (j : Df) (c : Kr) (hj : Ln j) (hl : c.lights.length = j.phs.length) (hn : O8 j c.nxt) : Cx 204 [.box 133 [.own 1 c.lights.length, .li c.grp, .own 2 c.nxt.length, .li c.wt], .row 185 2 false false (Fj c.lights), .row 3 1 false false (tI c.nxt)] [j.g, .ptr 0 0] (fun d : Kr × Bool × (List Int) => (bif d.2.1 then [.box 133 [.own 1 d.1.lights.length, .li d.1.grp, .own 3 d.1.nxt.length, .li d.1.wt], .row 185 2 false false (Fj d.1.lights), .row 3 1 false false (tI d.2.2), .row 3 1 false false (tI d.1.nxt)] else [.box 133 [.own 1 d.1.lights.length, .li d.1.grp, .own 2 d.1.nxt.length, .li d.1.wt], .row 185 2 false false (Fj d.1.lights), .row 3 1 false false (tI d.1.nxt)])) (fun d => .tup []) (fun d => d.1.lights.length = c.lights.length /\ d.1.wt = c.wt /\ O8 j d.1.nxt) := by
 refine Pr Tryz.func204 ?_
 have hjl := hj.len
 have hjc := hj.con
 have hnl := hn.len
 have hll : c.lights.length <= 1000000 := by omega
 refine VX.R ?_
 obtain ⟨Y1, cY1, qY1⟩ := got (Ta c hll)
 refine VX.L ok0 cY1 <| .seq ?_
 refine VX.R <| .block ?_
 refine VX.rangeE c.nxt.length (fun i1 (y1 : Bool) => ⟨[(1, .ptr 0 0), (2, .ptr 3 0), (4, .lb y1), (15, .own 2 c.nxt.length), (16, .li c.nxt.length), (17, .li i1)], [.box 133 [.own 1 c.lights.length, .li c.grp, .own 2 c.nxt.length, .li c.wt], .row 185 2 false false (Fj c.lights), .row 3 1 false false (tI c.nxt), .box 88 [.mPhase j.phs, .mI j.con, .li j.start]]⟩) (fun i1 y1 => True) (Y1) (wk ok0 [0, 1, 2, 3]) (trivial) fun i1 y1 hi1 hy1 => ?_
 refine VX.R <| .seq ?_
 refine VX.C ?_ ?_ <;> intro h18 <;> simp [go_sem] at h18
 ·refine VX.skip <| .seq <| .block ?_
  obtain ⟨e1, H1⟩ := gx c.nxt i1
  refine VX.H H1 ?_
  refine VX.H H1 ?_
  refine VX.C ?_ ?_ <;> intro h22 <;> simp [go_sem] at h22
  ·refine VX.H1 H1 ?_
   refine VX.H1 H1 ?_
   exact ⟨by omega, (false), trivial, wk (cj2 (Bq ((i1 : Int) + 1)) H1) [0, 1, 2, 3]⟩
  refine VX.skip <| .H1 H1 ?_
  exact ⟨by omega, (y1), trivial, wk (cj2 (Bq ((i1 : Int) + 1)) H1) [0, 1, 2, 3]⟩
 refine VX.exit <| .seq <| .R ?_
 refine VX.C ?_ ?_ <;> intro h24 <;> simp [go_sem] at h24
 ·obtain ⟨Y2, cY2, qY2⟩ := got (Rg j hj)
  have hvg := cY2
  have hqg := qY2
  generalize Y2 = G at hvg hqg
  obtain ⟨E, hE, hqE⟩ := M6 j ⟨c.lights, c.grp, c.nxt, c.wt⟩ (Int.tmod (IntKind.i64.wrap (c.grp + 1)) G) hj
  refine VX.E1 (fun K kk => by simp [go_sem]; refine .l (hvg) ?_; simp [go_sem]; (repeat refine aK ?_); refine .o [0, 1, 2] (hE) ?_; simp [go_sem]; exact kk) ?_
  refine VX.R <| .block ?_
  refine VX.rangeE 2 (fun i2 (y2 : Int × Int × (List Cz) × (List Int) × (List Int)) => ⟨[(1, .ptr 0 0), (2, .ptr 3 0), (36, .li i2)], [.box 133 [.own 1 y2.2.2.1.length, .li y2.1, .own 4 y2.2.2.2.2.length, .li y2.2.1], .row 185 2 false false (Fj y2.2.2.1), .row 3 1 false false (tI y2.2.2.2.1), .box 88 [.mPhase j.phs, .mI j.con, .li j.start], .row 3 1 false false (tI y2.2.2.2.2)]⟩) (fun i2 y2 => y2.2.2.1.length = j.phs.length /\ y2.2.1 = c.wt /\ O8 j y2.2.2.2.2) (E.1.grp, E.1.wt, E.1.lights, E.2, E.1.nxt) (wk ok0 [0, 1, 2, 3, 4]) (⟨by rw [hqE.1]; exact hl, hqE.2.2.1, hqE.2.2.2⟩) fun i2 y2 hi2 hy2 => ?_
  refine VX.R <| .seq ?_
  refine VX.C ?_ ?_ <;> intro h37 <;> simp [go_sem] at h37
  ·refine VX.skip <| .seq <| .block <| .R ?_
   first | (have hnl1 := hy2.2.2.len; have hll1 := hy2.1) | (have hnl1 := hy3.2.2.len; have hll1 := hy3.1)
   obtain ⟨e2, H2⟩ := gx y2.2.2.2.2 i2
   obtain ⟨Y3, cY3, qY3⟩ := got (Lv j ⟨y2.2.2.1, y2.1, y2.2.2.2.2, y2.2.1⟩ i2 (by first | assumption | omega) (by first | assumption | omega))
   refine VX.M H2 cY3 ?_
   refine VX.C ?_ ?_ <;> intro h54 <;> simp [go_sem] at h54
   ·have hp : 0 <= e2 /\ e2 < j.phs.length := by (have hq := O8.ok (by first | exact hy3.2.2 | exact hy2.2.2) _ (Ac H2); rcases hq with hq | hq; exact absurd hq h54.2; exact hq)
    obtain ⟨⟨N, b, o⟩, hN, hqN⟩ := Fx j ⟨y2.2.2.1, y2.1, y2.2.2.2.2, y2.2.1⟩ e2 hj (by first | exact hy3.1 | exact hy2.1) (by first | exact hy3.2.2 | exact hy2.2.2) hp.1 hp.2
    by_cases hc14 : b = true
    ·subst hc14
     simp only [cond_true] at hN hqN
     refine VX.E1 (fun K kk => by simp [go_sem, H2]; (repeat refine aK ?_); refine .o [0, 1, 4] (hN) ?_; simp [go_sem, H2]; exact kk) ?_
     refine VX.H1 H2 ?_
     refine ⟨by omega, (N.grp, N.wt, N.lights, y2.2.2.2.1, N.nxt), ?_, wk (cj2 (Bq ((i2 : Int) + 1)) H2) [0, 1, 2, 3, 5]⟩
     first | exact hy2 | exact ⟨by dsimp only; rw [hqN.1]; exact hy2.1, hqN.2.1.trans hy2.2.1, hqN.2.2⟩
    have hc14 : b = false := by simpa using hc14
    subst hc14
    simp only [cond_false] at hN hqN
    refine VX.E1 (fun K kk => by simp [go_sem, H2]; (repeat refine aK ?_); refine .o [0, 1, 4] (hN) ?_; simp [go_sem, H2]; exact kk) ?_
    refine VX.H1 H2 ?_
    refine ⟨by omega, (N.grp, N.wt, N.lights, y2.2.2.2.1, N.nxt), ?_, wk (cj2 (Bq ((i2 : Int) + 1)) H2) [0, 1, 2, 3, 4]⟩
    first | exact hy2 | exact ⟨by dsimp only; rw [hqN.1]; exact hy2.1, hqN.2.1.trans hy2.2.1, hqN.2.2⟩
   refine VX.skip <| .H1 H2 ?_
   refine ⟨by omega, (y2.1, y2.2.1, y2.2.2.1, y2.2.2.2.1, y2.2.2.2.2), ?_, wk (cj2 (Bq ((i2 : Int) + 1)) H2) [0, 1, 2, 3, 4]⟩
   first | exact hy2 | exact ⟨by dsimp only; rw [hqN.1]; exact hy2.1, hqN.2.1.trans hy2.2.1, hqN.2.2⟩
  refine VX.exit ?_
  refine ⟨(⟨y2.2.2.1, y2.1, y2.2.2.2.2, y2.2.1⟩, true, y2.2.2.2.1), Aeh [0, 1, 2, 4] (by simp [go_sem]) (by decide) (Dd rfl) (by simp [go_sem]) ?_, ⟨hy2.1.trans hl.symm, hy2.2⟩⟩
  repeat' (first | exact .nil | refine .cons (by simp [go_sem]) ?_)
 refine VX.skip <| .R <| .block ?_
 refine VX.rangeE 2 (fun i3 (y3 : Int × Int × (List Cz) × (List Int) × Bool × (List Int)) => ⟨[(1, .ptr 0 0), (2, .ptr 3 0), (36, .li i3)], bif y3.2.2.2.2.1 then [.box 133 [.own 1 y3.2.2.1.length, .li y3.1, .own 4 y3.2.2.2.1.length, .li y3.2.1], .row 185 2 false false (Fj y3.2.2.1), .row 3 1 false false (tI y3.2.2.2.2.2), .box 88 [.mPhase j.phs, .mI j.con, .li j.start], .row 3 1 false false (tI y3.2.2.2.1)] else [.box 133 [.own 1 y3.2.2.1.length, .li y3.1, .own 2 y3.2.2.2.1.length, .li y3.2.1], .row 185 2 false false (Fj y3.2.2.1), .row 3 1 false false (tI y3.2.2.2.1), .box 88 [.mPhase j.phs, .mI j.con, .li j.start]]⟩) (fun i3 y3 => y3.2.2.1.length = j.phs.length /\ y3.2.1 = c.wt /\ O8 j y3.2.2.2.1) (c.grp, c.wt, c.lights, c.nxt, false, []) (wk ok0 [0, 1, 2, 3]) (⟨hl, rfl, hn⟩) fun i3 y3 hi3 hy3 => ?_
 cases hb3 : y3.2.2.2.2.1
 ·
  simp only [hb3, cond_false]
  refine VX.R <| .seq ?_
  refine VX.C ?_ ?_ <;> intro h37 <;> simp [go_sem] at h37
  ·refine VX.skip <| .seq <| .block <| .R ?_
   first | (have hnl1 := hy2.2.2.len; have hll1 := hy2.1) | (have hnl1 := hy3.2.2.len; have hll1 := hy3.1)
   obtain ⟨e3, H3⟩ := gx y3.2.2.2.1 i3
   obtain ⟨Y4, cY4, qY4⟩ := got (Lv j ⟨y3.2.2.1, y3.1, y3.2.2.2.1, y3.2.1⟩ i3 (by first | assumption | omega) (by first | assumption | omega))
   refine VX.M H3 cY4 ?_
   refine VX.C ?_ ?_ <;> intro h54 <;> simp [go_sem] at h54
   ·have hp : 0 <= e3 /\ e3 < j.phs.length := by (have hq := O8.ok (by first | exact hy3.2.2 | exact hy2.2.2) _ (Ac H3); rcases hq with hq | hq; exact absurd hq h54.2; exact hq)
    obtain ⟨⟨N, b, o⟩, hN, hqN⟩ := Fx j ⟨y3.2.2.1, y3.1, y3.2.2.2.1, y3.2.1⟩ e3 hj (by first | exact hy3.1 | exact hy2.1) (by first | exact hy3.2.2 | exact hy2.2.2) hp.1 hp.2
    by_cases hc14 : b = true
    ·subst hc14
     simp only [cond_true] at hN hqN
     refine VX.E1 (fun K kk => by simp [go_sem, H3]; (repeat refine aK ?_); refine .o [0, 1, 2] (hN) ?_; simp [go_sem, H3]; exact kk) ?_
     refine VX.H1 H3 ?_
     refine ⟨by omega, (N.grp, N.wt, N.lights, N.nxt, true, o), ?_, wk (cj2 (Bq ((i3 : Int) + 1)) H3) [0, 1, 2, 3, 4]⟩
     first | exact hy3 | exact ⟨by dsimp only; rw [hqN.1]; exact hy3.1, hqN.2.1.trans hy3.2.1, hqN.2.2⟩
    have hc14 : b = false := by simpa using hc14
    subst hc14
    simp only [cond_false] at hN hqN
    refine VX.E1 (fun K kk => by simp [go_sem, H3]; (repeat refine aK ?_); refine .o [0, 1, 2] (hN) ?_; simp [go_sem, H3]; exact kk) ?_
    refine VX.H1 H3 ?_
    refine ⟨by omega, (N.grp, N.wt, N.lights, N.nxt, false, []), ?_, wk (cj2 (Bq ((i3 : Int) + 1)) H3) [0, 1, 2, 3]⟩
    first | exact hy3 | exact ⟨by dsimp only; rw [hqN.1]; exact hy3.1, hqN.2.1.trans hy3.2.1, hqN.2.2⟩
   refine VX.skip <| .H1 H3 ?_
   refine ⟨by omega, (y3.1, y3.2.1, y3.2.2.1, y3.2.2.2.1, false, []), ?_, wk (cj2 (Bq ((i3 : Int) + 1)) H3) [0, 1, 2, 3]⟩
   first | exact hy3 | exact ⟨by dsimp only; rw [hqN.1]; exact hy3.1, hqN.2.1.trans hy3.2.1, hqN.2.2⟩
  refine VX.exit ?_
  refine ⟨(⟨y3.2.2.1, y3.1, y3.2.2.2.1, y3.2.1⟩, false, []), Aeh [0, 1, 2] (by simp [go_sem]) (by decide) (Dd rfl) (by simp [go_sem]) ?_, ⟨hy3.1.trans hl.symm, hy3.2⟩⟩
  repeat' (first | exact .nil | refine .cons (by simp [go_sem]) ?_)
 -- the row is a new one
 simp only [hb3, cond_true]
 refine VX.R <| .seq ?_
 refine VX.C ?_ ?_ <;> intro h37 <;> simp [go_sem] at h37
 ·refine VX.skip <| .seq <| .block <| .R ?_
  first | (have hnl1 := hy2.2.2.len; have hll1 := hy2.1) | (have hnl1 := hy3.2.2.len; have hll1 := hy3.1)
  obtain ⟨e4, H4⟩ := gx y3.2.2.2.1 i3
  obtain ⟨Y5, cY5, qY5⟩ := got (Lv j ⟨y3.2.2.1, y3.1, y3.2.2.2.1, y3.2.1⟩ i3 (by first | assumption | omega) (by first | assumption | omega))
  refine VX.M H4 cY5 ?_
  refine VX.C ?_ ?_ <;> intro h54 <;> simp [go_sem] at h54
  ·have hp : 0 <= e4 /\ e4 < j.phs.length := by (have hq := O8.ok (by first | exact hy3.2.2 | exact hy2.2.2) _ (Ac H4); rcases hq with hq | hq; exact absurd hq h54.2; exact hq)
   obtain ⟨⟨N, b, o⟩, hN, hqN⟩ := Fx j ⟨y3.2.2.1, y3.1, y3.2.2.2.1, y3.2.1⟩ e4 hj (by first | exact hy3.1 | exact hy2.1) (by first | exact hy3.2.2 | exact hy2.2.2) hp.1 hp.2
   by_cases hc14 : b = true
   ·subst hc14
    simp only [cond_true] at hN hqN
    refine VX.E1 (fun K kk => by simp [go_sem, H4]; (repeat refine aK ?_); refine .o [0, 1, 4] (hN) ?_; simp [go_sem, H4]; exact kk) ?_
    refine VX.H1 H4 ?_
    refine ⟨by omega, (N.grp, N.wt, N.lights, N.nxt, true, y3.2.2.2.2.2), ?_, wk (cj2 (Bq ((i3 : Int) + 1)) H4) [0, 1, 2, 3, 5]⟩
    first | exact hy3 | exact ⟨by dsimp only; rw [hqN.1]; exact hy3.1, hqN.2.1.trans hy3.2.1, hqN.2.2⟩
   have hc14 : b = false := by simpa using hc14
   subst hc14
   simp only [cond_false] at hN hqN
   refine VX.E1 (fun K kk => by simp [go_sem, H4]; (repeat refine aK ?_); refine .o [0, 1, 4] (hN) ?_; simp [go_sem, H4]; exact kk) ?_
   refine VX.H1 H4 ?_
   refine ⟨by omega, (N.grp, N.wt, N.lights, N.nxt, true, y3.2.2.2.2.2), ?_, wk (cj2 (Bq ((i3 : Int) + 1)) H4) [0, 1, 2, 3, 4]⟩
   first | exact hy3 | exact ⟨by dsimp only; rw [hqN.1]; exact hy3.1, hqN.2.1.trans hy3.2.1, hqN.2.2⟩
  refine VX.skip <| .H1 H4 ?_
  refine ⟨by omega, (y3.1, y3.2.1, y3.2.2.1, y3.2.2.2.1, true, y3.2.2.2.2.2), ?_, wk (cj2 (Bq ((i3 : Int) + 1)) H4) [0, 1, 2, 3, 4]⟩
  first | exact hy3 | exact ⟨by dsimp only; rw [hqN.1]; exact hy3.1, hqN.2.1.trans hy3.2.1, hqN.2.2⟩
 refine VX.exit ?_
 refine ⟨(⟨y3.2.2.1, y3.1, y3.2.2.2.1, y3.2.1⟩, true, y3.2.2.2.2.2), Aeh [0, 1, 2, 4] (by simp [go_sem]) (by decide) (Dd rfl) (by simp [go_sem]) ?_, ⟨hy3.1.trans hl.symm, hy3.2⟩⟩
 repeat' (first | exact .nil | refine .cons (by simp [go_sem]) ?_)
theorem Uf (j : Df) (r g : Int) : ∀ (i : Nat) (x : Int), x ∈ G9 j r g i -> 0 <= x /\ x < i
 | 0, x, h => by simp [G9] at h
 | i + 1, x, h => by
  unfold G9 at h
  split at h
  ·rcases A0.1 h with h | h
   ·have := Uf j r g i x h; omega
   simp at h; omega
  have := Uf j r g i x h; omega
theorem Ani {j : Df} {r g x : Int} (h : x ∈ Agy j r g) : 0 <= x /\ x < j.phs.length := Uf j r g _ x h
theorem Re (c : List Int) (s : Int) (hl : c.length <= 1000000) : ∃ res, PP 220 [] [.mI c, .li s] [] res /\ IsD (fun d : Int × Int => .tup [.li d.1, .li d.2]) (fun _ => True) res := by
 obtain ⟨res, h, a, b, rfl⟩ := Zk c s hl
 exact ⟨_, h, (a, b), rfl, trivial⟩
noncomputable def R9 (c : List Int) (s : Int) (hl : c.length <= 1000000) : Int × Int := (got (Re c s hl)).choose
theorem Zs (c : List Int) (s : Int) (hl : c.length <= 1000000) : PP 220 [] [.mI c, .li s] [] (.tup [.lit (.int .i64 (R9 c s hl).1), .lit (.int .i64 (R9 c s hl).2)]) := (got (Re c s hl)).choose_spec.1
theorem Afk (j : Df) (hj : Ln j) : Ct 83 [j.g] (fun d : Kr => d.g) (fun d => d.lights.length = j.phs.length /\ O8 j d.nxt) := by
 refine Cb Tryz.func83 ?_
 have hjl := hj.len
 refine VX.R ?_
 refine VX.G ok0 ?_
 obtain ⟨E, hE, hqE⟩ := M6 j ⟨List.replicate j.phs.length ⟨0, 0⟩, 0, [], j.start⟩ 0 hj
 refine VX.own0c 3 2 3 1 (by decide) rfl rfl ?_
 simp [go_sem, -Prod.exists]
 refine VX.dull 2 rfl ?_
 simp [go_sem, -Prod.exists]
 refine VX.dull 4 rfl ?_
 simp [go_sem, -Prod.exists]
 refine VX.S (fun K kk => by simp [go_sem]; refine .o [3, 2, 4] (hE) ?_; simp [go_sem]; exact kk) ?_
 refine VX.R ?_
 refine VX.Z ok0 2 ?_
 refine VX.Z ok0 5 ?_
 exact .ret (fin ok0 ⟨E.1.lights, E.1.grp, E.1.nxt, E.1.wt⟩ ⟨by rw [hqE.1]; simp, hqE.2.2.2⟩)
theorem Px (j : Df) (c : Kr) (hj : Ln j) (h1 : c.lights.length <= 1000000) (h2 : c.nxt.length <= 1000000) : Ct 201 [j.g, c.g] (fun d : Bool => .lb d) (fun d => d = true -> c.lights.length = j.phs.length /\ O8 j c.nxt) := by
 refine Cb Tryz.func201 ?_
 have hjl := hj.len
 have hjc := hj.con
 have hpl : ∀ r g, (Agy j r g).length <= 1000000 := fun r g => Ak (Ug j r g _) hj.len
 refine VX.R <| .seq ?_
 refine VX.R ?_
 refine VX.C ?_ ?_ <;> intro h23 <;> simp [go_sem] at h23
 ·refine VX.R ?_
  exact .ret (fin ok0 false (by first | exact fun h => Bool.noConfusion h | (refine fun _ => ⟨hA, hB, fun x hx => ?_⟩; obtain ⟨k, hk⟩ := A3.1 hx; have hk2 := (Ab.1 hk).1; exact hy2 k x (by omega) hk)))
 obtain ⟨hA, hB⟩ : c.lights.length = j.phs.length /\ c.nxt.length = 2 := by omega
 refine VX.skip <| .seq <| .R <| .block ?_
 refine VX.rangeE j.phs.length (fun i1 (y1 : Unit) => ⟨[(2, .ptr 0 0), (3, .ptr 1 0), (25, .mPhase j.phs), (26, .li j.phs.length), (27, .li i1)], [.box 88 [.mPhase j.phs, .mI j.con, .li j.start], .box 133 [.mLight c.lights, .li c.grp, .mI c.nxt, .li c.wt]]⟩) (fun i1 y1 => True) () (wk ok0 [0, 1]) (trivial) fun i1 y1 hi1 hy1 => ?_
 refine VX.R <| .seq ?_
 refine VX.C ?_ ?_ <;> intro h28 <;> simp [go_sem] at h28
 ·refine VX.skip <| .seq <| .block ?_
  obtain ⟨e1, H1⟩ := gx j.phs i1
  refine VX.H H1 ?_
  obtain ⟨e2, H2⟩ := gx c.lights i1
  obtain ⟨Y1, cY1, qY1⟩ := got (Adn e1 e2)
  refine VX.M (cj2 H1 H2) cY1 ?_
  refine VX.C ?_ ?_ <;> intro h39 <;> simp [go_sem] at h39
  ·refine VX.H (cj2 H1 H2) ?_
   exact .ret (fin (cj2 H1 H2) false (by first | exact fun h => Bool.noConfusion h | (refine fun _ => ⟨hA, hB, fun x hx => ?_⟩; obtain ⟨k, hk⟩ := A3.1 hx; have hk2 := (Ab.1 hk).1; exact hy2 k x (by omega) hk)))
  refine VX.skip <| .H1 (cj2 H1 H2) ?_
  exact ⟨by omega, (), trivial, wk (cj3 (Bq ((i1 : Int) + 1)) H1 H2) [0, 1]⟩
 refine VX.exit <| .seq ?_
 obtain ⟨Y2, cY2, qY2⟩ := got (Ah2 c h1)
 refine VX.E (fun K kk => by simp [go_sem]; refine .l cY2 ?_; simp [go_sem]; refine .l (Zs j.con Y2 hjc) ?_; simp [go_sem]; exact kk) ?_
 refine VX.R ?_
 refine VX.C ?_ ?_ <;> intro h50 <;> simp [go_sem] at h50
 ·refine VX.R ?_
  exact .ret (fin ok0 false (by first | exact fun h => Bool.noConfusion h | (refine fun _ => ⟨hA, hB, fun x hx => ?_⟩; obtain ⟨k, hk⟩ := A3.1 hx; have hk2 := (Ab.1 hk).1; exact hy2 k x (by omega) hk)))
 refine VX.skip <| .seq ?_
 refine VX.draw_seq (by kernel_rfl) (by rfl) (by kernel_rfl) fun K1 hK1 => ?_
 simp [go_sem]
 refine Jq (by simp [go_sem]) (by simp [go_sem]) ?_
 simp [go_sem]
 obtain ⟨Y3, cY3, qY3⟩ := got (Rg j hj)
 first | refine .lo cY3 rfl (by simp [AV.cln, Cp]) ?_ | refine .skip ?_
 simp [go_sem]
 refine hK1 _ _ (by kernel_rfl) ?_; clear hK1
 refine VX.C ?_ ?_ <;> intro h60 <;> simp [go_sem] at h60
 ·refine VX.R ?_
  exact .ret (fin ok0 false (by first | exact fun h => Bool.noConfusion h | (refine fun _ => ⟨hA, hB, fun x hx => ?_⟩; obtain ⟨k, hk⟩ := A3.1 hx; have hk2 := (Ab.1 hk).1; exact hy2 k x (by omega) hk)))
 refine VX.skip <| .seq <| .R <| .block ?_
 refine VX.rangeE c.nxt.length (fun i2 (y2 : Unit) => ⟨[(2, .ptr 0 0), (3, .ptr 1 0), (62, .mI c.nxt), (63, .li c.nxt.length), (64, .li i2)], [.box 88 [.mPhase j.phs, .mI j.con, .li j.start], .box 133 [.mLight c.lights, .li c.grp, .mI c.nxt, .li c.wt]]⟩) (fun i2 y2 => ∀ k x, k < i2 -> c.nxt[k]? = some x -> (x = -1 \/ (0 <= x /\ x < j.phs.length))) () (wk ok0 [0, 1]) (fun k x h => by omega) fun i2 y2 hi2 hy2 => ?_
 refine VX.R <| .seq ?_
 refine VX.C ?_ ?_ <;> intro h65 <;> simp [go_sem] at h65
 ·refine VX.skip <| .seq <| .block ?_
  obtain ⟨e3, H3⟩ := gx c.nxt i2
  refine VX.H H3 ?_
  refine VX.region_seq (by rfl) fun K1 hK1 => ?_
  simp [go_sem, H3]
  refine Bz (by simp [go_sem]) (by simp [go_sem]) ?_
  simp [go_sem, H3]
  first | refine .lo (Akn j i2 c.grp (by first | assumption | omega)) rfl (by simp [AV.cln, Cp]) ?_ | refine .skip ?_
  simp [go_sem, H3]
  refine Bz (by simp [go_sem]) (by simp [go_sem]) ?_
  simp [go_sem, H3]
  obtain ⟨Y4, cY4, qY4⟩ := got (Xw (Agy j i2 c.grp) e3 (hpl _ _))
  first | refine .lo cY4 rfl (by simp [AV.cln, Cp]) ?_ | refine .skip ?_
  simp [go_sem, H3]
  refine hK1 _ ?_; clear hK1
  refine VX.C ?_ ?_ <;> intro h80 <;> simp [go_sem] at h80
  ·refine VX.H H3 ?_
   exact .ret (fin H3 false (by first | exact fun h => Bool.noConfusion h | (refine fun _ => ⟨hA, hB, fun x hx => ?_⟩; obtain ⟨k, hk⟩ := A3.1 hx; have hk2 := (Ab.1 hk).1; exact hy2 k x (by omega) hk)))
  refine VX.skip <| .H1 H3 ?_
  exact ⟨by omega, (), (Amc hy2 H3 (by by_cases he : e3 = -1; exact .inl he; exact .inr (Ani (qY4 (by simpa [he] using h80))))), wk (cj2 (Bq ((i2 : Int) + 1)) H3) [0, 1]⟩
 refine VX.exit <| .seq <| .R ?_
 refine VX.C ?_ ?_ <;> intro h91 <;> simp [go_sem] at h91
 ·refine VX.R ?_
  exact .ret (fin ok0 false (by first | exact fun h => Bool.noConfusion h | (refine fun _ => ⟨hA, hB, fun x hx => ?_⟩; obtain ⟨k, hk⟩ := A3.1 hx; have hk2 := (Ab.1 hk).1; exact hy2 k x (by omega) hk)))
 refine VX.skip ?_
 refine VX.region_seq (by rfl) fun K1 hK1 => ?_
 simp [go_sem]
 refine Bz (by simp [go_sem]) (by simp [go_sem]) ?_
 simp [go_sem]
 obtain ⟨Y5, cY5, qY5⟩ := got (Ta c h1)
 first | refine .lo cY5 rfl (by simp [AV.cln, Cp]) ?_ | refine .skip ?_
 simp [go_sem]
 refine hK1 _ ?_; clear hK1
 refine VX.ret (Co ?_); simp [go_sem]
 exact ⟨_, by first | rfl | simp [go_sem], (by first | exact fun h => Bool.noConfusion h | (refine fun _ => ⟨hA, hB, fun x hx => ?_⟩; obtain ⟨k, hk⟩ := A3.1 hx; have hk2 := (Ab.1 hk).1; exact hy2 k x (by omega) hk))⟩
noncomputable def U7 (j : Df) (c : Kr) (hj : Ln j) (h1 : c.lights.length <= 1000000) (h2 : c.nxt.length <= 1000000) : Bool := (got (Px j c hj h1 h2)).choose
theorem Uo (j : Df) (c : Kr) (hj : Ln j) (h1 : c.lights.length <= 1000000) (h2 : c.nxt.length <= 1000000) : PP 201 [] [j.g, c.g] [] (.lb (U7 j c hj h1 h2)) := (got (Px j c hj h1 h2)).choose_spec.1
theorem Ael (j : Df) (c : Kr) (hj : Ln j) (h1 : c.lights.length <= 1000000) (h2 : c.nxt.length <= 1000000) : (U7 j c hj h1 h2) = true -> c.lights.length = j.phs.length /\ O8 j c.nxt := (got (Px j c hj h1 h2)).choose_spec.2
end Go.Proofs.YtkkimgjinbaemaaGreat
