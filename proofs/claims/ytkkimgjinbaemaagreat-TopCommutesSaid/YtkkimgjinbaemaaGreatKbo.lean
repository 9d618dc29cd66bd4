/- The walk. -/
import Derived.Test.YtkkimgjinbaemaaGreatKbi
import Derived.Test.YtkkimgjinbaemaaGreatKbn
namespace Go.Proofs.YtkkimgjinbaemaaGreat
open Go.RowKit
set_option linter.unusedVariables false
set_option linter.unusedSimpArgs false
set_option maxRecDepth 100000
set_option maxHeartbeats 4000000
structure Ew (x : Bv) : Prop where
  b : Ra x
  vehs : x.reg.vehs.length <= 9
  reqs : x.reqs.length <= 4
  dr : ∀ s ∈ x.draws, s.length <= 1000
  rq : x.reg.ag.rq <= 4
theorem L9 {α : Type} {l : List α} {n : Nat} {p : α -> Prop} (h : ∀ x ∈ l, p x) : ∀ x ∈ l.drop n, p x := fun x hx => h x (Ay hx)
theorem L8 {α : Type} {l : List α} {f : α -> Bool} {p : α -> Prop} (h : ∀ x ∈ l, p x) : ∀ x ∈ l.filter f, p x := fun x hx => h x (Bn.1 hx).1
theorem Yp : E4 ⟨0, [], [], []⟩ := by simp [E4]
theorem Oc {x : Bv} (hd : Ew x) {d : I4 × B3 × Bool × Int} (hQ : Rd d.1 /\ d.1.vehs.length <= 9 /\ (d.2.2.2 = 0 -> d.1.num = x.reg.num /\ d.1.ag = x.reg.ag) /\ E4 d.2.1) (h0 : d.2.2.2 = 0) {rq : List Cg} {dr : List (List Int)} (h1 : rq.length <= 4) (h2 : ∀ r ∈ rq, r.legs.length <= 1000000) (h3 : dr.length <= 1000000) (h4 : ∀ s ∈ dr, s.length <= 1000) :
 Ew ⟨d.1, rq, dr, x.aud⟩ /\ (⟨d.1, rq, dr, x.aud⟩ : Bv).aud = x.aud /\ (⟨d.1, rq, dr, x.aud⟩ : Bv).reg.num = x.reg.num /\ (⟨d.1, rq, dr, x.aud⟩ : Bv).reg.ag = x.reg.ag /\ E4 d.2.1 := by
 have hE := hQ.2.2.1 h0
 exact ⟨⟨⟨hQ.1, Ak h1 (by decide), h2, h3, fun s h => Ak (h4 s h) (by decide), hd.b.aud⟩, hQ.2.1, h1, h4, by rw [show (⟨d.1, rq, dr, x.aud⟩ : Bv).reg.ag = x.reg.ag from hE.2]; exact hd.rq⟩, rfl, hE.1, hE.2, hQ.2.2.2⟩
theorem Xu (x : Bv) (m : B3) (slot : Int) (now : Int) (hd : Ew x) (h1 : m.tok.length <= 2000) (h2 : m.args.length <= 2000) (h3 : m.data.length <= 2000) (a2 : m.kind = 2 -> 3 <= m.args.length) (a1 : m.kind = 3 \/ m.kind = 4 \/ m.kind = 5 -> 1 <= m.args.length) (a4 : m.kind = 4 -> 2 <= m.args.length) : Ct 189 [x.g, m.g, .li slot, .li now] (fun d : Bv × B3 × Int => .tup [d.1.g, d.2.1.g, .li d.2.2]) (fun d => Ew d.1 /\ d.1.aud = x.aud /\ d.1.reg.num = x.reg.num /\ d.1.reg.ag = x.reg.ag /\ E4 d.2.1) := by
 refine Cb Tryz.func189 ?_
 have h2M : m.args.length <= 1000000 := by omega
 have hdb := hd.b
 refine VX.R ?_
 refine VX.R <| .seq ?_
 refine VX.R ?_
 refine VX.C ?_ ?_ <;> intro h19 <;> simp [go_sem] at h19
 ·obtain ⟨e1, H1⟩ := gx x.draws 0
  refine VX.H1 H1 ?_
  obtain ⟨Y1, cY1, qY1⟩ := got (Tb x.reg m slot now e1 hd.b.reg hd.vehs h1 h2 h3 a2 a1 a4 (hd.dr e1 (Ac H1)))
  refine VX.L H1 cY1 <| .seq ?_
  refine VX.H H1 ?_
  refine VX.C ?_ ?_ <;> intro h37 <;> simp [go_sem] at h37
  ·refine VX.H H1 ?_
   exact .ret (fin H1 (x, ⟨0, [], [], []⟩, Y1.2.2.2) ⟨hd, rfl, rfl, rfl, Yp⟩)
  refine VX.skip <| .H H1 <| .seq ?_
  refine VX.H H1 ?_
  refine VX.C ?_ ?_ <;> intro h49 <;> simp [go_sem] at h49
  ·refine VX.H1 H1 <| .seq ?_
   refine VX.H H1 ?_
   refine VX.C ?_ ?_ <;> intro h56 <;> simp [go_sem] at h56
   ·have ha := a1 (.inr (.inr h56))
    obtain ⟨e2, H2⟩ := gx m.args 0
    refine VX.M1 (cj2 H1 H2) (Ho x.reqs e2 hd.b.reqs hd.b.legs) ?_
    refine VX.G (cj2 H1 H2) ?_
    exact .ret (fin (cj2 H1 H2) (⟨Y1.1, (List.filter (fun r : Cg => r.veh != e2) x.reqs), x.draws.drop 1, x.aud⟩, Y1.2.1, 0) (Oc hd qY1 (by first | exact h37 | omega) (by first | exact hd.reqs | exact Ak (Az _ _) hd.reqs) (by first | exact hd.b.legs | exact L8 hd.b.legs) (by first | exact hd.b.draws | (have := hd.b.draws; simp only [Bc]; omega)) (by first | exact hd.dr | exact L9 hd.dr)))
   refine VX.skip <| .G H1 ?_
   exact .ret (fin H1 (⟨Y1.1, x.reqs, x.draws.drop 1, x.aud⟩, Y1.2.1, 0) (Oc hd qY1 (by first | exact h37 | omega) (by first | exact hd.reqs | exact Ak (Az _ _) hd.reqs) (by first | exact hd.b.legs | exact L8 hd.b.legs) (by first | exact hd.b.draws | (have := hd.b.draws; simp only [Bc]; omega)) (by first | exact hd.dr | exact L9 hd.dr)))
  refine VX.skip <| .seq <| .H H1 ?_
  refine VX.C ?_ ?_ <;> intro h56 <;> simp [go_sem] at h56
  ·have ha := a1 (.inr (.inr h56))
   obtain ⟨e3, H3⟩ := gx m.args 0
   refine VX.M1 (cj2 H1 H3) (Ho x.reqs e3 hd.b.reqs hd.b.legs) ?_
   refine VX.G (cj2 H1 H3) ?_
   exact .ret (fin (cj2 H1 H3) (⟨Y1.1, (List.filter (fun r : Cg => r.veh != e3) x.reqs), x.draws, x.aud⟩, Y1.2.1, 0) (Oc hd qY1 (by first | exact h37 | omega) (by first | exact hd.reqs | exact Ak (Az _ _) hd.reqs) (by first | exact hd.b.legs | exact L8 hd.b.legs) (by first | exact hd.b.draws | (have := hd.b.draws; simp only [Bc]; omega)) (by first | exact hd.dr | exact L9 hd.dr)))
  refine VX.skip <| .G H1 ?_
  exact .ret (fin H1 (⟨Y1.1, x.reqs, x.draws, x.aud⟩, Y1.2.1, 0) (Oc hd qY1 (by first | exact h37 | omega) (by first | exact hd.reqs | exact Ak (Az _ _) hd.reqs) (by first | exact hd.b.legs | exact L8 hd.b.legs) (by first | exact hd.b.draws | (have := hd.b.draws; simp only [Bc]; omega)) (by first | exact hd.dr | exact L9 hd.dr)))
 refine VX.skip ?_
 obtain ⟨Y2, cY2, qY2⟩ := got (Tb x.reg m slot now [] hd.b.reg hd.vehs h1 h2 h3 a2 a1 a4 (by simp))
 refine VX.L ok0 cY2 <| .seq ?_
 refine VX.R ?_
 refine VX.C ?_ ?_ <;> intro h37 <;> simp [go_sem] at h37
 ·refine VX.R ?_
  exact .ret (fin ok0 (x, ⟨0, [], [], []⟩, Y2.2.2.2) ⟨hd, rfl, rfl, rfl, Yp⟩)
 refine VX.skip <| .R <| .seq ?_
 refine VX.R ?_
 refine VX.C ?_ ?_ <;> intro h49 <;> simp [go_sem] at h49
 ·refine VX.H1 ok0 <| .seq ?_
  refine VX.R ?_
  refine VX.C ?_ ?_ <;> intro h56 <;> simp [go_sem] at h56
  ·have ha := a1 (.inr (.inr h56))
   obtain ⟨e4, H4⟩ := gx m.args 0
   refine VX.M1 H4 (Ho x.reqs e4 hd.b.reqs hd.b.legs) ?_
   refine VX.G H4 ?_
   exact .ret (fin H4 (⟨Y2.1, (List.filter (fun r : Cg => r.veh != e4) x.reqs), x.draws.drop 1, x.aud⟩, Y2.2.1, 0) (Oc hd qY2 (by first | exact h37 | omega) (by first | exact hd.reqs | exact Ak (Az _ _) hd.reqs) (by first | exact hd.b.legs | exact L8 hd.b.legs) (by first | exact hd.b.draws | (have := hd.b.draws; simp only [Bc]; omega)) (by first | exact hd.dr | exact L9 hd.dr)))
  refine VX.skip <| .D ?_
  exact .ret (fin ok0 (⟨Y2.1, x.reqs, x.draws.drop 1, x.aud⟩, Y2.2.1, 0) (Oc hd qY2 (by first | exact h37 | omega) (by first | exact hd.reqs | exact Ak (Az _ _) hd.reqs) (by first | exact hd.b.legs | exact L8 hd.b.legs) (by first | exact hd.b.draws | (have := hd.b.draws; simp only [Bc]; omega)) (by first | exact hd.dr | exact L9 hd.dr)))
 refine VX.skip <| .seq <| .R ?_
 refine VX.C ?_ ?_ <;> intro h56 <;> simp [go_sem] at h56
 ·have ha := a1 (.inr (.inr h56))
  obtain ⟨e5, H5⟩ := gx m.args 0
  refine VX.M1 H5 (Ho x.reqs e5 hd.b.reqs hd.b.legs) ?_
  refine VX.G H5 ?_
  exact .ret (fin H5 (⟨Y2.1, (List.filter (fun r : Cg => r.veh != e5) x.reqs), x.draws, x.aud⟩, Y2.2.1, 0) (Oc hd qY2 (by first | exact h37 | omega) (by first | exact hd.reqs | exact Ak (Az _ _) hd.reqs) (by first | exact hd.b.legs | exact L8 hd.b.legs) (by first | exact hd.b.draws | (have := hd.b.draws; simp only [Bc]; omega)) (by first | exact hd.dr | exact L9 hd.dr)))
 refine VX.skip <| .D ?_
 exact .ret (fin ok0 (⟨Y2.1, x.reqs, x.draws, x.aud⟩, Y2.2.1, 0) (Oc hd qY2 (by first | exact h37 | omega) (by first | exact hd.reqs | exact Ak (Az _ _) hd.reqs) (by first | exact hd.b.legs | exact L8 hd.b.legs) (by first | exact hd.b.draws | (have := hd.b.draws; simp only [Bc]; omega)) (by first | exact hd.dr | exact L9 hd.dr)))
theorem Abh (cfg : Dy) (x : Bv) (l : List Int) (slot : Int) (now : Int) (hd : Ew x) (hl : 3 <= l.length) (hl2 : l.length <= 1000) (hn : ∀ a ∈ l, 0 <= a) (s0 : 0 <= slot) (s1 : slot < x.reg.toks.length) : Ct 212 [cfg.g, x.g, .mI l, .li slot, .li now] (fun d : List Cg × Int => .tup [.mReq d.1, .li d.2]) (fun d => d.1.length <= 4 /\ ∀ r ∈ d.1, r.legs.length <= 1000000) := by
 refine Cb Tryz.func212 ?_
 have hv : x.reg.vehs.length <= 1000000 := hd.b.reg.vehs
 have hs1 : ¬ slot < 0 := by omega
 have hs2 : ¬ (x.reg.toks.length : Int) <= slot := by omega
 obtain ⟨tk, htk⟩ : ∃ e, x.reg.toks[slot.toNat]? = some e := ⟨_, Aa (by omega)⟩
 refine VX.R ?_
 obtain ⟨e1, H1⟩ := gx l 1
 obtain ⟨Y1, cY1, qY1⟩ := got (Ze x.reg.vehs e1 hv)
 refine VX.M H1 cY1 <| .seq ?_
 refine VX.H H1 ?_
 refine VX.C ?_ ?_ <;> intro h32 <;> simp [go_sem] at h32
 ·refine VX.H H1 ?_
  exact .ret (fin H1 ([], 12) (by first | exact ⟨Ae _, fun r h => by cases h⟩ | exact (Fw x.reqs x.reg.ag.rq e11 Y1.1 e12 y1.1 now hd.reqs hd.b.legs (by omega)).2))
 refine VX.skip <| .H H1 <| .seq ?_
 refine VX.G (cj4 H1 hs1 hs2 htk) ?_
 refine VX.C ?_ ?_ <;> intro h53 <;> simp [go_sem] at h53
 ·refine VX.H H1 ?_
  exact .ret (fin H1 ([], 17) (by first | exact ⟨Ae _, fun r h => by cases h⟩ | exact (Fw x.reqs x.reg.ag.rq e11 Y1.1 e12 y1.1 now hd.reqs hd.b.legs (by omega)).2))
 refine VX.skip <| .H H1 <| .seq ?_
 refine VX.H H1 <| .block ?_
 refine VX.own0 15 166 5 (by decide) (k' := 5) (by simp [go_sem]) ?_
 simp [go_sem, -Prod.exists]
 refine VX.whileE (fun (y1 : (List Dp) × Int) => ⟨[(2, .mI l), (4, .li now), (5, .ptr 0 0), (6, .ptr 1 0), (12, .ptr 2 0), (15, .own 3 y1.1.length), (16, .li y1.2)], [.box 30 [.mJun cfg.juns, .mAg cfg.ags, .li cfg.per, .li cfg.cap, .li cfg.hold, .li cfg.lock], .box 70 [.li x.reg.num, .mY x.reg.ag.sec, .li x.reg.ag.ri, .li x.reg.ag.cls, .mI x.reg.ag.lims, .li x.reg.ag.rq, .li x.reg.ag.se, .li x.reg.ag.ra, .li x.reg.ag.bu, .mTok x.reg.toks, .mVeh x.reg.vehs, .li x.reg.bk.lv, .li x.reg.bk.ra, .li x.reg.bk.bu, .mReq x.reqs, .mYs x.draws, .mB x.aud], .box 216 [.li (Y1.1.id), .li (Y1.1.cls)], .row 166 5 false false (C7 y1.1)]⟩) (fun y1 => 3 <= y1.2 /\ y1.1.length <= y1.2 /\ y1.2 <= 2000) (fun y1 => (l.length - y1.2).toNat) ([], 3) (wk H1 [0, 1, 2, 3]) (⟨by omega, by simp, by dsimp only; omega⟩) fun y1 hy1 => ?_
 refine VX.seq ?_
 have hw2 := Bq (y1.2 + 3 : Int)
 refine VX.H (cj2 H1 hw2) ?_
 refine VX.C ?_ ?_ <;> intro h58 <;> simp [go_sem] at h58
 ·refine VX.skip <| .seq <| .block ?_
  obtain ⟨e3, H3⟩ := gx l y1.2.toNat
  have hw4 := Bq (y1.2 + 1 : Int)
  obtain ⟨e5, H5⟩ := gx l ((y1.2 + 1).toNat)
  refine VX.G (cj5 H1 hw2 H3 hw4 H5) <| .seq ?_
  by_cases hc12 : e3 < cfg.juns.length
  ·have hnj : ¬ (cfg.juns.length : Int) <= e3 := by omega
   have h0e := hn e3 (Ac H3)
   have h0f := hn e5 (Ac H5)
   obtain ⟨e6, H6⟩ := gx cfg.juns e3.toNat
   refine VX.S (fun K kk => by simp [go_sem, H1, hw2, H3, hw4, H5, hc12, hnj, H6]; repeat first | exact kk | refine aK ?_) ?_
   refine VX.C ?_ ?_ <;> intro h85 <;> simp [go_sem] at h85
   ·refine VX.S (fun K kk => by simp [go_sem, H1, hw2, H3, hw4, H5, hc12, hnj, H6]; exact kk) ?_
    refine VX.ret (Co ?_); simp [go_sem, H1, hw2, H3, hw4, H5, hc12, hnj, H6]
    exact ⟨([], 8), by first | rfl | simp [go_sem], (by first | exact ⟨Ae _, fun r h => by cases h⟩ | exact (Fw x.reqs x.reg.ag.rq e11 Y1.1 e12 y1.1 now hd.reqs hd.b.legs (by omega)).2)⟩
   refine VX.skip ?_
   have hw7 := Bq (y1.2 + 2 : Int)
   obtain ⟨e8, H8⟩ := gx l ((y1.2 + 2).toNat)
   obtain ⟨e9, H9⟩ := gx l ((y1.2 + 3).toNat)
   refine VX.E (fun K kk => by simp [go_sem, H1, hw2, H3, hw4, H5, hc12, hnj, H6, hw7, H8, H9]; (repeat refine aK ?_); refine .l (Te e3 e5 e8 e9 now) ?_; simp [go_sem, H1, hw2, H3, hw4, H5, hc12, hnj, H6, hw7, H8, H9]; exact kk) <| .seq ?_
   refine VX.S (fun K kk => by simp [go_sem, H1, hw2, H3, hw4, H5, hc12, hnj, H6, hw7, H8, H9]; exact kk) ?_
   refine VX.C ?_ ?_ <;> intro h104 <;> simp [go_sem] at h104
   ·refine VX.S (fun K kk => by simp [go_sem, H1, hw2, H3, hw4, H5, hc12, hnj, H6, hw7, H8, H9]; exact kk) ?_
    refine VX.ret (Co ?_); simp [go_sem, H1, hw2, H3, hw4, H5, hc12, hnj, H6, hw7, H8, H9]
    exact ⟨([], 8), by first | rfl | simp [go_sem], (by first | exact ⟨Ae _, fun r h => by cases h⟩ | exact (Fw x.reqs x.reg.ag.rq e11 Y1.1 e12 y1.1 now hd.reqs hd.b.legs (by omega)).2)⟩
   refine VX.skip <| .S1 (fun K kk => by simp [go_sem, H1, hw2, H3, hw4, H5, hc12, hnj, H6, hw7, H8, H9]; repeat first | exact kk | refine aK ?_) ?_
   have hw10 := Bq (y1.2 + 4 : Int)
   refine VX.S1 (fun K kk => by simp [go_sem, H1, hw2, H3, hw4, H5, hc12, hnj, H6, hw7, H8, H9, hw10]; exact kk) ?_
   refine ⟨(y1.1 ++ ([(J8 e3 e5 e8 e9 now).1]), (y1.2 + 4)), ?_, ?_, [0, 1, 2, 3], Bp (by decide) ?_ ?_, by simp⟩
   ·omega
   ·exact ⟨by dsimp only; omega, by simp; omega, by dsimp only; omega⟩
   all_goals simp [go_sem, H1, hw2, H3, hw4, H5, hc12, hnj, H6, hw7, H8, H9, hw10]
  have hnj : (cfg.juns.length : Int) <= e3 := by omega
  have h0e := hn e3 (Ac H3)
  have h0f := hn e5 (Ac H5)
  refine VX.S (fun K kk => by simp [go_sem, H1, hw2, H3, hw4, H5, hc12, hnj]; repeat first | exact kk | refine aK ?_) ?_
  refine VX.C ?_ ?_ <;> intro h85 <;> simp [go_sem] at h85
  refine VX.S (fun K kk => by simp [go_sem, H1, hw2, H3, hw4, H5, hc12, hnj]; exact kk) ?_
  refine VX.ret (Co ?_); simp [go_sem, H1, hw2, H3, hw4, H5, hc12, hnj]
  exact ⟨([], 8), by first | rfl | simp [go_sem], (by first | exact ⟨Ae _, fun r h => by cases h⟩ | exact (Fw x.reqs x.reg.ag.rq e11 Y1.1 e12 y1.1 now hd.reqs hd.b.legs (by omega)).2)⟩
 refine VX.exit <| .Z (cj2 H1 hw2) 3 ?_
 obtain ⟨e11, H11⟩ := gx l 0
 obtain ⟨e12, H12⟩ := gx l 2
 refine VX.M (cj4 H1 hw2 H11 H12) (Wb x.reqs x.reg.ag.rq e11 (Y1.1) e12 y1.1 now hd.reqs hd.b.legs (by omega)) ?_
 exact .ret (fin (cj4 H1 hw2 H11 H12) ((E6 x.reqs x.reg.ag.rq e11 (Y1.1) e12 y1.1 now hd.reqs hd.b.legs (by omega)).1, (E6 x.reqs x.reg.ag.rq e11 (Y1.1) e12 y1.1 now hd.reqs hd.b.legs (by omega)).2) (by first | exact ⟨Ae _, fun r h => by cases h⟩ | exact (Fw x.reqs x.reg.ag.rq e11 Y1.1 e12 y1.1 now hd.reqs hd.b.legs (by omega)).2))
theorem Ah3 (cfg : Dy) (x : Bv) (m : B3) (slot : Int) (now : Int) (hd : Ew x) (h1 : 1 <= m.args.length) (k6 : m.kind = 6 -> 3 <= m.args.length) (hl2 : m.args.length <= 1000) (hn : ∀ a ∈ m.args, 0 <= a) (s0 : 0 <= slot) (s1 : slot < x.reg.toks.length) : Ct 190 [cfg.g, x.g, m.g, .li slot, .li now] (fun d : List Cg × Int => .tup [.mReq d.1, .li d.2]) (fun d => d.1.length <= 4 /\ ∀ r ∈ d.1, r.legs.length <= 1000000) := by
 refine Cb Tryz.func190 ?_
 refine VX.R ?_
 obtain ⟨e1, H1⟩ := gx m.args 0
 refine VX.H H1 <| .seq ?_
 refine VX.H H1 <| .block ?_
 refine VX.H H1 ?_
 refine VX.C ?_ ?_ <;> intro h21 <;> simp [go_sem] at h21
 ·obtain ⟨Y1, cY1, qY1⟩ := got (Abh cfg x m.args slot now hd (k6 h21) hl2 hn s0 s1)
  refine VX.L H1 cY1 ?_
  exact .ret (fin H1 (Y1.1, Y1.2) qY1)
 refine VX.H H1 ?_
 refine VX.C ?_ ?_ <;> intro h32 <;> simp [go_sem] at h32
 ·refine VX.H H1 <| .seq ?_
  refine VX.H H1 <| .block ?_
  refine VX.own0 13 122 2 (by decide) (k' := 2) (by simp [go_sem]) ?_
  simp [go_sem, -Prod.exists]
  refine VX.whileE (fun (y1 : (List (Int × Int)) × Int) => ⟨[(4, .li now), (6, .ptr 0 0), (7, .ptr 1 0), (12, .li e1), (13, .own 2 y1.1.length), (14, .li y1.2)], [.box 70 [.li x.reg.num, .mY x.reg.ag.sec, .li x.reg.ag.ri, .li x.reg.ag.cls, .mI x.reg.ag.lims, .li x.reg.ag.rq, .li x.reg.ag.se, .li x.reg.ag.ra, .li x.reg.ag.bu, .mTok x.reg.toks, .mVeh x.reg.vehs, .li x.reg.bk.lv, .li x.reg.bk.ra, .li x.reg.bk.bu, .mReq x.reqs, .mYs x.draws, .mB x.aud], .box 56 [.li m.kind, .mY m.tok, .mI m.args, .mY m.data], .row 122 2 false false (Zy y1.1)]⟩) (fun y1 => 1 <= y1.2 /\ y1.1.length <= y1.2 /\ y1.2 <= 2000) (fun y1 => (m.args.length - y1.2).toNat) ([], 1) (wk H1 [1, 2, 3]) (⟨by omega, by simp, by dsimp only; omega⟩) fun y1 hy1 => ?_
  refine VX.seq ?_
  have hw2 := Bq (y1.2 + 1 : Int)
  refine VX.H (cj2 H1 hw2) ?_
  refine VX.C ?_ ?_ <;> intro h39 <;> simp [go_sem] at h39
  ·refine VX.skip <| .seq <| .block ?_
   obtain ⟨e3, H3⟩ := gx m.args y1.2.toNat
   obtain ⟨e4, H4⟩ := gx m.args ((y1.2 + 1).toNat)
   refine VX.G1 (cj4 H1 hw2 H3 H4) ?_
   have hw5 := Bq (y1.2 + 2 : Int)
   refine VX.H1 (cj5 H1 hw2 H3 H4 hw5) ?_
   refine ⟨(y1.1 ++ ([(e3, e4)]), (y1.2 + 2)), ?_, ?_, [0, 1, 2], Bp (by decide) ?_ ?_, by simp⟩
   ·omega
   ·exact ⟨by dsimp only; omega, by simp; omega, by dsimp only; omega⟩
   all_goals simp [go_sem, H1, hw2, H3, H4, hw5]
  refine VX.exit <| .Z (cj2 H1 hw2) 2 ?_
  obtain ⟨Y2, cY2, qY2⟩ := got (Vv x.reqs e1 y1.1 now hd.reqs hd.b.legs (by omega))
  refine VX.L (cj2 H1 hw2) cY2 ?_
  exact .ret (fin (cj2 H1 hw2) (Y2.1, Y2.2) qY2)
 refine VX.skip ?_
 obtain ⟨Y3, cY3, qY3⟩ := got (V2 x.reqs e1 hd.b.reqs hd.b.legs)
 refine VX.L H1 cY3 ?_
 exact .ret (fin H1 (Y3.1, Y3.2) (by have hq := qY3; exact ⟨Ak hq.1 hd.reqs, hq.2⟩))
theorem Ass {x : Bv} (hd : Ew x) {ro : I4 × Int × Int} (h : ro.2.2 = 0 -> (∃ bk, ro.1 = { x.reg with bk := bk }) /\ Ee x.reg.toks ro.2.1 = true) (h0 : ro.2.2 = 0) :
 Ew ⟨ro.1, x.reqs, x.draws, x.aud⟩ /\ 0 <= ro.2.1 /\ ro.2.1 < ro.1.toks.length /\ ro.1.num = x.reg.num /\ ro.1.ag = x.reg.ag := by
 obtain ⟨⟨bk, e⟩, hu⟩ := h h0
 have hr := Zw hu
 obtain ⟨r, s, c⟩ := ro
 dsimp only at e hr ⊢
 subst e
 exact ⟨⟨⟨⟨hd.b.reg.sec, hd.b.reg.lims, hd.b.reg.toks, hd.b.reg.tsec, hd.b.reg.vehs⟩, hd.b.reqs, hd.b.legs, hd.b.draws, hd.b.draw, hd.b.aud⟩, hd.vehs, hd.reqs, hd.dr, hd.rq⟩, hr.1, hr.2, rfl, rfl⟩
theorem Ajn (k v : Int) : E4 (Jm k v) := by
 have h := Air k v
 unfold E4
 rw [h.1, h.2.1, h.2.2]
 simp
theorem Agc {x : Bv} {k now : Int} (h1 : x.reqs.length <= 1000) (h2 : x.reg.toks.length <= 1000000) : E4 (Jy x k now h1 h2) := by
 have h := Agw x k now h1 h2
 unfold E4
 rw [h.1, h.2.1]
 exact ⟨Ae _, h.2.2, Ae _⟩
def Aqd (x : Bv) (y : Bv) (m : B3) : Prop := Ew y /\ y.aud.length = x.aud.length /\ y.reg.num = x.reg.num /\ y.reg.ag = x.reg.ag /\ E4 m
theorem Ew.reqsI {x : Bv} (h : Ew x) {l : List Cg} (hl : l.length <= 4 /\ ∀ r ∈ l, r.legs.length <= 1000000) : Ew ⟨x.reg, l, x.draws, x.aud⟩ := ⟨⟨h.b.reg, Ak hl.1 (by decide), hl.2, h.b.draws, h.b.draw, h.b.aud⟩, h.vehs, hl.1, h.dr, h.rq⟩
theorem Ew.audI {x : Bv} (h : Ew x) {l : List Bool} (hl : l.length = x.aud.length) : Ew ⟨x.reg, x.reqs, x.draws, l⟩ := ⟨⟨h.b.reg, h.b.reqs, h.b.legs, h.b.draws, h.b.draw, by have := h.b.aud; dsimp only; omega⟩, h.vehs, h.reqs, h.dr, h.rq⟩
theorem B8.dull {P : Program} {f : FuncId} {σa : List Ob} {args : List AV} {ty k : Nat} {fr fz : Bool} {es : List (List T)} {res : AV} (h : B8 P f σa args [.row ty k fr fz es] res) : B8 P f σa args [.row ty k false fz es] res :=
 ⟨h.1, fun E β us hn ho hβ r => (h.2 E β us hn ho hβ r).mono fun e w' ⟨v, β', he, r'⟩ => ⟨v, β', he, (r'.flag (id := 0) rfl (fun h => Bool.noConfusion h) (fun h => h)).1⟩⟩
theorem Xv (cfg : Dy) (x : Bv) (ses : Int) (it : Gc) (now : Int) (hd : Ew x) (hp : it.pay.length <= 1000) : Cx 170 [.row 4 1 false false (tB x.aud)] [cfg.g, .agg [.li x.reg.num, .mY x.reg.ag.sec, .li x.reg.ag.ri, .li x.reg.ag.cls, .mI x.reg.ag.lims, .li x.reg.ag.rq, .li x.reg.ag.se, .li x.reg.ag.ra, .li x.reg.ag.bu, .mTok x.reg.toks, .mVeh x.reg.vehs, .li x.reg.bk.lv, .li x.reg.bk.ra, .li x.reg.bk.bu, .mReq x.reqs, .mYs x.draws, .own 0 x.aud.length], .li ses, it.g, .li now] (fun d : Bv × B3 × Int × Int => [.row 4 1 false true (tB d.1.aud)]) (fun d => .tup [d.1.g, d.2.1.g, .li d.2.2.1, .li d.2.2.2]) (fun d => Aqd x d.1 d.2.1) := by
 refine Pr Tryz.func170 ?_
 have hpM : it.pay.length <= 1000000 := by omega
 obtain ⟨Y1, cY1, qY1⟩ := got (V5 it.kind it.pay hpM)
 have hv41 := cY1
 have hqd := qY1
 have hsh := (Od it.kind).2.2.2.2.2.2.2.2
 generalize Y1 = mr at hv41 hqd
 refine VX.R <| .seq ?_
 refine VX.R ?_
 refine VX.C ?_ ?_ <;> intro h25 <;> simp [go_sem] at h25
 ·refine VX.D ?_
  refine VX.Z ok0 0 ?_
  exact .ret ⟨(x, ⟨0, [], [], []⟩, (-1), it.code), rW ok0 [0], ⟨hd, rfl, rfl, rfl, Yp⟩⟩
 refine VX.skip <| .seq <| .L ok0 (S7 it.kind) ?_
 refine VX.C ?_ ?_ <;> intro h33 <;> simp [go_sem] at h33
 ·refine VX.R ?_
  refine VX.Z ok0 0 ?_
  exact .ret ⟨(x, ⟨0, [], [], []⟩, (-1), 5), rW ok0 [0], ⟨hd, rfl, rfl, rfl, Yp⟩⟩
 refine VX.skip <| .L ok0 (hv41) <| .seq ?_
 refine VX.R ?_
 refine VX.C ?_ ?_ <;> intro h45 <;> simp [go_sem] at h45
 ·refine VX.R ?_
  refine VX.Z ok0 0 ?_
  exact .ret ⟨(x, ⟨0, [], [], []⟩, (-1), 6), rW ok0 [0], ⟨hd, rfl, rfl, rfl, Yp⟩⟩
 refine VX.skip ?_
 obtain ⟨hk, hf1, hfl0, hft, hfd, hnn⟩ := hqd h45
 have ht : mr.1.tok.length <= 1000000 := by omega
 have hfl : mr.1.args.length <= 1000 := hfl0
 obtain ⟨Y2, cY2, qY2⟩ := got (Xs x.reg mr.1 now hd.b.reg ht)
 have hvo := cY2
 have hqo := qY2
 generalize Y2 = ro at hvo hqo
 refine VX.L ok0 (hvo) <| .seq ?_
 refine VX.R ?_
 refine VX.C ?_ ?_ <;> intro h58 <;> simp [go_sem] at h58
 ·refine VX.R ?_
  refine VX.Z ok0 0 ?_
  exact .ret ⟨(x, ⟨0, [], [], []⟩, (-1), ro.2.2), rW ok0 [0], ⟨hd, rfl, rfl, rfl, Yp⟩⟩
 refine VX.skip ?_
 obtain ⟨hI, hs0, hs1, hnum, hag⟩ := Ass hd hqo h58
 rw [<- hk] at hsh hf1
 have m1 : mr.1.tok.length <= 2000 := by omega
 have m2 : mr.1.args.length <= 2000 := by omega
 have m3 : mr.1.data.length <= 2000 := by omega
 have a2 : mr.1.kind = 2 -> 3 <= mr.1.args.length := fun h => by have := hsh.1 h; omega
 have a3 : mr.1.kind = 3 \/ mr.1.kind = 4 \/ mr.1.kind = 5 -> 1 <= mr.1.args.length := fun h => by rcases h with h | h | h; (have := hsh.2.2.2 (.inl h); omega); (have := hsh.2.1 h; omega); (have := hsh.2.2.2 (.inr (.inl h)); omega)
 have a4 : mr.1.kind = 4 -> 2 <= mr.1.args.length := fun h => by have := hsh.2.1 h; omega
 have k6 : mr.1.kind = 6 -> 3 <= mr.1.args.length := fun h => by have := hsh.2.2.1 h; omega
 refine VX.R <| .seq ?_
 refine VX.R <| .block ?_
 refine VX.orcases2 (by rfl) fun K1 hK1 => ?_
 simp [go_sem]
 refine hK1 _ ⟨_, _, _, _, _, _, _, _, rfl, .more (by decide) rfl rfl (.more (by decide) rfl rfl (.one (by decide) rfl rfl)), by decide, rfl, by simp [go_sem]; rfl, by simp [go_sem]; rfl, by simp [go_sem], ?_⟩; clear hK1
 refine VX.C ?_ ?_ <;> intro h66 <;> simp [go_sem] at h66
 ·refine VX.Z ok0 0 ?_
  obtain ⟨Y3, cY3, qY3⟩ := got (Xu ⟨ro.1, x.reqs, x.draws, x.aud⟩ mr.1 ro.2.1 now hI m1 m2 m3 a2 a3 a4)
  refine VX.L ok0 cY3 ?_
  have hau := qY3.2.1
  refine VX.G hau ?_
  exact .ret ⟨(Y3.1, Y3.2.1, (-1), Y3.2.2), rW hau [0], (by have hq := qY3; exact ⟨hq.1, congrArg List.length hq.2.1, hq.2.2.1.trans hnum, hq.2.2.2.1.trans hag, hq.2.2.2.2⟩)⟩
 refine VX.orcases2 (by rfl) fun K1 hK1 => ?_
 simp [go_sem]
 refine hK1 _ ⟨_, _, _, _, _, _, _, _, rfl, .more (by decide) rfl rfl (.one (by decide) rfl rfl), by decide, rfl, by simp [go_sem]; rfl, by simp [go_sem]; rfl, by simp [go_sem], ?_⟩; clear hK1
 refine VX.C ?_ ?_ <;> intro h83 <;> simp [go_sem] at h83
 ·have hk83 : mr.1.kind = 6 \/ mr.1.kind = 7 \/ mr.1.kind = 8 := by omega
  have ha1 : 1 <= mr.1.args.length := by rcases hk83 with h | h | h; (have := k6 h; omega); (have := hsh.2.2.2 (.inr (.inr (.inl h))); omega); (have := hsh.2.2.2 (.inr (.inr (.inr (.inl h)))); omega)
  refine VX.Z ok0 0 ?_
  obtain ⟨Y4, cY4, qY4⟩ := got (Ah3 cfg ⟨ro.1, x.reqs, x.draws, x.aud⟩ mr.1 ro.2.1 now hI ha1 k6 hfl hnn hs0 hs1)
  refine VX.L ok0 cY4 <| .seq ?_
  refine VX.R ?_
  refine VX.C ?_ ?_ <;> intro h97 <;> simp [go_sem] at h97
  ·refine VX.R ?_
   exact .ret ⟨(⟨ro.1, x.reqs, x.draws, x.aud⟩, ⟨0, [], [], []⟩, (-1), Y4.2), rW ok0 [0], ⟨hI, rfl, hnum, hag, Yp⟩⟩
  refine VX.skip <| .R ?_
  obtain ⟨e1, H1⟩ := gx mr.1.args 0
  refine VX.M H1 (P7 mr.1.kind e1) ?_
  exact .ret ⟨(⟨ro.1, Y4.1, x.draws, x.aud⟩, (Jm mr.1.kind e1), (-1), 0), rW H1 [0], ⟨hI.reqsI qY4, rfl, hnum, hag, Ajn _ _⟩⟩
 refine VX.R ?_
 refine VX.C ?_ ?_ <;> intro h111 <;> simp [go_sem] at h111
 ·refine VX.seq ?_
  have ha1 : 1 <= mr.1.args.length := by have := hsh.2.2.2 (.inr (.inr (.inr (.inr (.inl h111))))); omega
  obtain ⟨e2, H2⟩ := gx mr.1.args 0
  refine VX.H H2 ?_
  refine VX.C ?_ ?_ <;> intro h117 <;> simp [go_sem] at h117
  ·refine VX.H H2 ?_
   refine VX.Z H2 0 ?_
   exact .ret ⟨(⟨ro.1, x.reqs, x.draws, x.aud⟩, ⟨0, [], [], []⟩, (-1), 8), rW H2 [0], (by first | exact ⟨hI, rfl, hnum, hag, Ajn _ _⟩ | exact ⟨hI, rfl, hnum, hag, Yp⟩ | exact ⟨hI, rfl, hnum, hag, Agc (Ak hI.reqs (by decide)) hI.b.reg.toks⟩)⟩
  refine VX.skip <| .seq <| .H H2 ?_
  refine VX.C ?_ ?_ <;> intro h128 <;> simp [go_sem] at h128
  ·obtain ⟨e3, H3⟩ := gx x.aud ses.toNat
   refine VX.G1 (cj2 H2 H3) ?_
   refine VX.M (cj2 H2 H3) (P7 mr.1.kind e2) ?_
   refine VX.Z (cj2 H2 H3) 0 ?_
   exact .ret ⟨(⟨ro.1, x.reqs, x.draws, (x.aud).set ses.toNat ((e2 : Int) == 1)⟩, (Jm mr.1.kind e2), (-1), 0), rW (cj2 H2 H3) [0], ⟨hI.audI (by simp), by simp, hnum, hag, Ajn _ _⟩⟩
  refine VX.skip <| .M H2 (P7 mr.1.kind e2) ?_
  refine VX.Z H2 0 ?_
  exact .ret ⟨(⟨ro.1, x.reqs, x.draws, x.aud⟩, (Jm mr.1.kind e2), (-1), 0), rW H2 [0], (by first | exact ⟨hI, rfl, hnum, hag, Ajn _ _⟩ | exact ⟨hI, rfl, hnum, hag, Yp⟩ | exact ⟨hI, rfl, hnum, hag, Agc (Ak hI.reqs (by decide)) hI.b.reg.toks⟩)⟩
 refine VX.R ?_
 refine VX.C ?_ ?_ <;> intro h146 <;> simp [go_sem] at h146
 ·refine VX.seq ?_
  have ha1 : 1 <= mr.1.args.length := by have := hsh.2.2.2 (.inr (.inr (.inr (.inr (.inr h146))))); omega
  obtain ⟨e4, H4⟩ := gx mr.1.args 0
  refine VX.G H4 ?_
  refine VX.C ?_ ?_ <;> intro h155 <;> simp [go_sem] at h155
  ·refine VX.H H4 ?_
   refine VX.Z H4 0 ?_
   exact .ret ⟨(⟨ro.1, x.reqs, x.draws, x.aud⟩, ⟨0, [], [], []⟩, (-1), 8), rW H4 [0], (by first | exact ⟨hI, rfl, hnum, hag, Ajn _ _⟩ | exact ⟨hI, rfl, hnum, hag, Yp⟩ | exact ⟨hI, rfl, hnum, hag, Agc (Ak hI.reqs (by decide)) hI.b.reg.toks⟩)⟩
  refine VX.skip <| .M H4 (P7 mr.1.kind e4) ?_
  refine VX.Z H4 0 ?_
  exact .ret ⟨(⟨ro.1, x.reqs, x.draws, x.aud⟩, (Jm mr.1.kind e4), e4, 0), rW H4 [0], (by first | exact ⟨hI, rfl, hnum, hag, Ajn _ _⟩ | exact ⟨hI, rfl, hnum, hag, Yp⟩ | exact ⟨hI, rfl, hnum, hag, Agc (Ak hI.reqs (by decide)) hI.b.reg.toks⟩)⟩
 refine VX.skip <| .Z ok0 0 ?_
 refine VX.M ok0 (Af4 ⟨ro.1, x.reqs, x.draws, x.aud⟩ mr.1.kind now (Ak hI.reqs (by decide)) hI.b.reg.toks) ?_
 exact .ret ⟨(⟨ro.1, x.reqs, x.draws, x.aud⟩, (Jy ⟨ro.1, x.reqs, x.draws, x.aud⟩ mr.1.kind now (Ak hI.reqs (by decide)) hI.b.reg.toks), (-1), 0), rW ok0 [0], (by first | exact ⟨hI, rfl, hnum, hag, Ajn _ _⟩ | exact ⟨hI, rfl, hnum, hag, Yp⟩ | exact ⟨hI, rfl, hnum, hag, Agc (Ak hI.reqs (by decide)) hI.b.reg.toks⟩)⟩
theorem Ja (x : Bv) (hb : Ra x) : PP 86 [] [x.g] [.row 4 1 false false (tB x.aud)] (.agg [.li x.reg.num, .mY x.reg.ag.sec, .li x.reg.ag.ri, .li x.reg.ag.cls, .mI x.reg.ag.lims, .li x.reg.ag.rq, .li x.reg.ag.se, .li x.reg.ag.ra, .li x.reg.ag.bu, .mTok x.reg.toks, .mVeh x.reg.vehs, .li x.reg.bk.lv, .li x.reg.bk.ra, .li x.reg.bk.bu, .mReq x.reqs, .mYs x.draws, .own 0 x.aud.length]) := (Tj x hb).dull
theorem Ou (cfg : Dy) (x : Bv) (ses : Int) (it : Gc) (now : Int) (hd : Ew x) (hp : it.pay.length <= 1000) : Ct 149 [cfg.g, x.g, .li ses, it.g, .li now] (fun d : Bv × B3 × Jp × Int => .tup [d.1.g, d.2.1.g, d.2.2.1.g, .li d.2.2.2]) (fun d => Aqd x d.1 d.2.1) := by
 refine Cb Tryz.func149 ?_
 obtain ⟨Y1, cY1, qY1⟩ := Xv cfg x ses it now hd hp
 have hQ := qY1
 refine VX.R ?_
 refine VX.E (fun K kk => by simp [go_sem]; refine .l (Ja x hd.b) ?_; simp [go_sem]; refine .o [6] cY1 ?_; simp [go_sem]; exact kk) <| .seq ?_
 refine VX.R ?_
 refine VX.C ?_ ?_ <;> intro h31 <;> simp [go_sem] at h31
 ·refine VX.R ?_
  refine VX.R1 ?_
  refine VX.R ?_
  refine VX.D ?_
  refine VX.Z ok0 8 ?_
  exact .ret (fin ok0 (Y1.1, ⟨15, [], [it.kind, Y1.2.2.2], []⟩, ⟨Y1.1.reg.num, it.kind, Y1.2.2.2⟩, (-1)) (by first | exact hQ | exact ⟨hQ.1, hQ.2.1, hQ.2.2.1, hQ.2.2.2.1, by simp [E4]⟩))
 refine VX.skip <| .R ?_
 refine VX.D ?_
 exact .ret (fin ok0 (Y1.1, Y1.2.1, ⟨Y1.1.reg.num, it.kind, Y1.2.2.2⟩, Y1.2.2.1) (by first | exact hQ | exact ⟨hQ.1, hQ.2.1, hQ.2.2.1, hQ.2.2.2.1, by simp [E4]⟩))
noncomputable def B4 (cfg : Dy) (x : Bv) (ses : Int) (it : Gc) (now : Int) (hd : Ew x) (hp : it.pay.length <= 1000) : Bv × B3 × Jp × Int := (got (Ou cfg x ses it now hd hp)).choose
theorem Ox (cfg : Dy) (x : Bv) (ses : Int) (it : Gc) (now : Int) (hd : Ew x) (hp : it.pay.length <= 1000) : PP 149 [] [cfg.g, x.g, .li ses, it.g, .li now] [] (.tup [.agg ((B4 cfg x ses it now hd hp).1.a false), .agg ((B4 cfg x ses it now hd hp).2.1.a false), .agg ((B4 cfg x ses it now hd hp).2.2.1.a false), .lit (.int .i64 (B4 cfg x ses it now hd hp).2.2.2)]) := (got (Ou cfg x ses it now hd hp)).choose_spec.1
theorem O4 (cfg : Dy) (x : Bv) (ses : Int) (it : Gc) (now : Int) (hd : Ew x) (hp : it.pay.length <= 1000) : Aqd x (B4 cfg x ses it now hd hp).1 (B4 cfg x ses it now hd hp).2.1 := (got (Ou cfg x ses it now hd hp)).choose_spec.2
theorem Rh (a : TAg) : Ct 130 [a.g] (fun d : Int => .li d) (fun d => 0 <= d /\ d <= 2 /\ (1 <= a.se /\ a.se <= 2 -> d = a.se)) := by
 refine Cb Tryz.func130 ?_
 iterate 2 refine VX.R ?_
 refine VX.ret (Co ?_); simp [go_sem]
 exact ⟨(if 2 < (if a.se < 0 then 0 else a.se) then 2 else (if a.se < 0 then 0 else a.se)), by first | rfl | simp [go_sem], (by dsimp only; (repeat' split) <;> omega)⟩
noncomputable def Dk (a : TAg) : Int := (got (Rh a)).choose
theorem W9 (a : TAg) : PP 130 [] [a.g] [] (.li (Dk a)) := (got (Rh a)).choose_spec.1
theorem Gz (a : TAg) : 0 <= (Dk a) /\ (Dk a) <= 2 /\ (1 <= a.se /\ a.se <= 2 -> (Dk a) = a.se) := (got (Rh a)).choose_spec.2
noncomputable def Fk (l : List TAg) : Nat -> Int
 | 0 => 0
 | k + 1 => Fk l k + match l[k]? with
  | some a => Dk a
  | none => 0
theorem Ld (l : List TAg) : ∀ k, 0 <= Fk l k /\ Fk l k <= 2 * (k : Int)
 | 0 => by simp [Fk]
 | k + 1 => by
  have ih := Ld l k
  rw [Fk]
  cases h : l[k]? with
  | none => simp only; omega
  | some a => have := Gz a; simp only; omega
theorem Xg {l : List TAg} {k : Nat} {a : TAg} (h : l[k]? = some a) : Fk l (k + 1) = Fk l k + Dk a := by rw [Fk, h]
noncomputable def U0 (l : List TAg) (k : Nat) (a : TAg) : List (Int × Int × Int) := (List.range (Dk a).toNat).map fun (n : Nat) => ((k : Int), (n : Int), Fk l k + (n : Int))
theorem Ss (l : List TAg) (k : Nat) (a : TAg) : ((U0 l k a).length : Int) = Dk a := by
 have := Gz a
 simp [U0]
 omega
theorem Akw {l : List TAg} {k : Nat} {a : TAg} {n : Nat} (h : (n : Int) < Dk a) : (U0 l k a)[n]? = some ((k : Int), (n : Int), Fk l k + n) := by
 have hn : n < (Dk a).toNat := by omega
 unfold U0
 rw [Ap, List.getElem?_range hn]
 rfl
abbrev cfT (c : Dy) : List T := [.sl 3 (Aby c.juns), .sl 8 (tAg c.ags), .li c.per, .li c.cap, .li c.hold, .li c.lock]
abbrev plA (x : Int × Int × Int) : AV := .agg [.li x.1, .li x.2.1, .li x.2.2]
theorem Ti (c : Dy) (k : Nat) (ag : TAg) (hk : c.ags[k]? = some ag) (h : c.ags.length <= 1000000) : Sn Tryz.prog 129 [.iptr false (cfT c) 0, .iptr false [.li (k : Int)] 0] ((U0 c.ags k ag).map fun a => [plA a]) := by
 have hkl := (Ab.1 hk).1
 refine Y7 Tryz.func129 rfl rfl rfl (by simp [Tryz.ntmps129]) rfl fun yl => ?_
 refine VI.region_seq (by rfl) fun K1 hK1 => ?_
 simp [go_sem]
 refine hK1 _ ?_; clear hK1
 refine VI.seq ?_
 refine VI.region_seq (by rfl) fun K1 hK1 => ?_
 simp [go_sem]
 repeat' with_reducible refine Ax ?_ ?_
 all_goals try (intros; (repeat' refine Ax ?_ ?_) <;> omega)
 refine hK1 _ ?_; clear hK1
 refine VI.block ?_
 refine VI.range k (fun j => ⟨[(0, .lit (.func (.yield yl) #[] #[])), (1, .iptr false (cfT c) 0), (2, .iptr false [.li (k : Int)] 0), (4, .li (Fk c.ags j)), (11, .imm false 8 ((tAg c.ags).take k)), (12, .li (k : Int)), (13, .li (j : Int))], []⟩) (fun j => 0)
  (fun j => True) ⟨[], Bp (by decide) ?_ ?_, by simp⟩ ⟨rfl, rfl, trivial⟩ fun j hj _ => ?_
 ·simp [go_sem, Fk, Nat.min_eq_left (Nat.le_of_lt hkl)]
 ·simp [go_sem]
 refine VI.region_seq (by rfl) fun K1 hK1 => ?_
 simp [go_sem]
 refine hK1 _ ?_; clear hK1
 refine VI.seq ?_
 refine VI.cond (by simp [go_sem]) (by simp [go_sem]) (fun h14 => ?_) (fun h14 => ?_) <;> simp [go_sem] at h14
 ·
  refine VI.skip ?_
  refine VI.seq ?_
  refine VI.block ?_
  obtain ⟨e1, hx⟩ : ∃ e, c.ags[j]? = some e := ⟨_, Aa (by omega)⟩
  have hb := Ld c.ags j
  have hq := Gz e1
  have hxt : ((tAg c.ags).take k)[j]? = some e1.t := by rw [Ag (by omega), Ap, hx]; rfl
  refine VI.region_seq (by rfl) fun K1 hK1 => ?_
  simp [go_sem, hx, hxt]
  repeat' with_reducible refine Ax ?_ ?_
  all_goals try (intros; (repeat' refine Ax ?_ ?_) <;> omega)
  refine hK1 _ ?_; clear hK1
  refine VI.region1 (by rfl) fun K1 hK1 => ?_
  simp [go_sem, hx]
  refine .l (W9 e1) ?_
  simp [go_sem]
  refine hK1 _ ?_; clear hK1
  refine VI.region1 (by rfl) fun K1 hK1 => ?_
  simp [go_sem]
  refine hK1 _ ?_; clear hK1
  refine ⟨by omega, rfl, rfl, trivial, [], Bp (by decide) ?_ ?_, by simp⟩
  ·simp [go_sem, Bq ((j : Int) + 1), Xg hx, Bq (Fk c.ags j + Dk e1)]
  simp [go_sem]
 -- the agency itself
 obtain rfl : j = k := by omega
 refine VI.exit ?_
 have hb := Ld c.ags j
 have hq := Gz ag
 refine VI.region_seq (by rfl) fun K1 hK1 => ?_
 simp [go_sem, hk]
 repeat' with_reducible refine Ax ?_ ?_
 all_goals try (intros; (repeat' refine Ax ?_ ?_) <;> omega)
 refine .l (W9 ag) ?_
 simp [go_sem, hk]
 refine hK1 _ ?_; clear hK1
 refine VI.block ?_
 refine VI.range (Dk ag).toNat (fun n => ⟨[(0, .lit (.func (.yield yl) #[] #[])), (2, .iptr false [.li (j : Int)] 0), (4, .li (Fk c.ags j)), (27, .li (Dk ag)), (28, .li (n : Int))], []⟩) (fun n => n)
  (fun n => True) ⟨[], Bp (by decide) ?_ ?_, by simp⟩ ⟨rfl, rfl, trivial⟩ fun n hn _ => ?_
 ·simp [go_sem]
 ·simp [go_sem]
 refine VI.region_seq (by rfl) fun K1 hK1 => ?_
 simp [go_sem]
 refine hK1 _ ?_; clear hK1
 refine VI.seq ?_
 refine VI.cond (by simp [go_sem]) (by simp [go_sem]) (fun h29 => ?_) (fun h29 => ?_) <;> simp [go_sem] at h29
 ·refine VI.skip ?_
  refine VI.seq ?_
  refine VI.block ?_
  refine VI.region_seq (by rfl) fun K1 hK1 => ?_
  simp [go_sem]
  refine hK1 _ ?_; clear hK1
  refine VI.seq (VI.region ?_)
  refine VIL.first 7 (by rfl) fun K1 hK1 => ?_
  simp [go_sem, Bq (Fk c.ags j + n)]
  refine hK1 _ ?_; clear hK1
  refine VIL.yield (vs := [plA ((j : Int), (n : Int), Fk c.ags j + n)]) (by simp [go_sem]) (by simp [go_sem]) (by decide) (by simp [go_sem]) (by simp [go_sem]) (by simp [go_sem]) (by simp [Akw (l := c.ags) (k := j) (a := ag) (n := n) (by omega)]) (by simp [go_sem]) rfl fun b => ?_
  refine VIL.rest (by rfl) fun K1 hK1 => ?_
  cases b with
  | true =>
   simp [go_sem]
   refine hK1 _ ?_; clear hK1
   refine VI.cond (by simp [go_sem]) (by simp [go_sem]) (fun h39 => ?_) (fun h39 => ?_) <;> simp [go_sem] at h39
   exact VI.ret ⟨.inr rfl, fun h => by cases h⟩
  | false =>
   simp [go_sem]
   refine hK1 _ ?_; clear hK1
   refine VI.cond (by simp [go_sem]) (by simp [go_sem]) (fun h39 => ?_) (fun h39 => ?_) <;> simp [go_sem] at h39
   refine VI.skip ?_
   refine VI.region1 (by rfl) fun K1 hK1 => ?_
   simp [go_sem]
   refine hK1 _ ?_; clear hK1
   refine ⟨by omega, rfl, rfl, trivial, [], Bp (by decide) ?_ ?_, by simp⟩
   ·simp [go_sem, Bq ((n : Int) + 1)]
   simp [go_sem]
 refine VI.exit ?_
 exact ⟨.inl rfl, fun _ => by have := Ss c.ags j ag; simp only [A2]; omega⟩
theorem Pk (c : Dy) (k : Int) : PP 98 [] [c.g, .li k] [] (.fn 129 [.iptr false (cfT c) 0, .iptr false [.li k] 0]) := by
 refine B8.boxes (σr := [.box 30 [.mJun c.juns, .mAg c.ags, .li c.per, .li c.cap, .li c.hold, .li c.lock], .box 3 [.li k]]) (res := .fn 129 [.ptr 0 0, .ptr 1 0]) ?_ (by simp [go_sem, St.o])
 refine B0 Tryz.func98 ?_
 iterate 2 refine VW.R ?_
 exact .ret (rW ok0 [0, 1])
end Go.Proofs.YtkkimgjinbaemaaGreat
