/- The walk. -/
import Derived.Test.YtkkimgjinbaemaaGreatKar
namespace Go.Proofs.YtkkimgjinbaemaaGreat
open Go.RowKit
set_option linter.unusedVariables false
set_option linter.unusedSimpArgs false
set_option maxRecDepth 100000
set_option maxHeartbeats 4000000
theorem H0 (x : Cn) (h1 : x.st.buf.length <= 1000000) : PP 60 [] [x.g] [] (x.g) := by
 refine B0 Tryz.func60 ?_
 refine VW.R ?_
 refine VW.S (fun K kk => by simp [go_sem]; refine .lo (B8.froz (B6 _ (by simpa using h1) (by simp [T.plain]))) rfl (by simp) ?_; simp [go_sem]; exact kk) ?_
 refine VW.R ?_
 exact .ret (rL ok0)
theorem Ml (x : Fl) (h1 : x.ctl.lights.length <= 1000000) (h2 : x.ctl.nxt.length <= 1000000) : PP 88 [] [x.g] [] (x.g) := by
 refine B0 Tryz.func88 ?_
 refine VW.R ?_
 refine VW.S (fun K kk => by simp [go_sem]; refine .lo (B8.froz (Oz _ (by simpa using h1) (by simp [T.plain, Cz.t]))) rfl (by simp) ?_; simp [go_sem]; exact kk) ?_
 refine VW.S (fun K kk => by simp [go_sem]; refine .lo (B8.froz (Ep _ (by simpa using h2) (by simp [T.plain]))) rfl (by simp) ?_; simp [go_sem]; exact kk) ?_
 refine VW.R ?_
 exact .ret (rL ok0)
theorem Ia (x : C8) (h1 : x.ended.length <= 1000000) : PP 90 [] [x.g] [] (x.g) := by
 refine B0 Tryz.func90 ?_
 refine VW.R ?_
 refine VW.S (fun K kk => by simp [go_sem]; refine .lo (B8.froz (Ep _ (by simpa using h1) (by simp [T.plain]))) rfl (by simp) ?_; simp [go_sem]; exact kk) ?_
 refine VW.R ?_
 exact .ret (rL ok0)
theorem Rv (l : List E7) (h0 : l.length <= 1000000) (hc : ∀ x ∈ l, x.col.length <= 1000000 /\ x.cnt.length <= 1000000) : PP 92 [] [.mView l] [] (.mView l) := by
 refine B0 Tryz.func92 ?_
 refine VW.R ?_
 refine VW.S (fun K kk => by simp [go_sem]; refine .lo (Ad7 _ (by simpa using h0)) rfl (by simp) ?_; simp [go_sem]; exact kk) <| .seq ?_
 refine VW.R <| .block ?_
 refine VW.range l.length (fun i1 => ⟨[(0, .own 0 l.length), (7, .li l.length), (8, .li i1)], [.row 128 4 false false (Uz l)]⟩) (wk ok0 [0]) fun i1 hi1 => ?_
 refine VW.R <| .seq ?_
 refine VW.C ?_ ?_ <;> intro h9 <;> simp [go_sem] at h9
 ·have hx : l[i1]? = some l[i1] := Aa h9
  generalize l[i1] = x at hx
  have hs := Du (f := E7.t) hx
  simp only [E7.t] at hs
  refine VW.skip <| .seq <| .block <| .R ?_
  refine VW.S (fun K kk => by simp [go_sem, hx, hs]; (repeat refine aK ?_); refine .lo (B8.froz (Ep _ (by simpa using (hc x (Ac hx)).1) (by simp [T.plain]))) rfl (by simp) ?_; simp [go_sem, hx, hs]; (repeat first | exact kk | refine aK ?_)) ?_
  refine VW.S1 (fun K kk => by simp [go_sem, hx, hs]; (repeat refine aK ?_); refine .lo (B8.froz (Ep _ (by simpa using (hc x (Ac hx)).2) (by simp [T.plain]))) rfl (by simp) ?_; simp [go_sem, hx, hs]; (repeat first | exact kk | refine aK ?_)) ?_
  refine VW.R1 ?_
  refine ⟨by omega, [0], Bp (by decide) ?_ ?_, by simp⟩
  ·simp [go_sem, Bq ((i1 : Int) + 1)]
  simp [go_sem]
 refine VW.exit ?_
 refine VW.freeze 0 (by simp [go_sem, Db]) ?_
 simp [go_sem]
 refine VW.R ?_
 exact .ret (rL h9)
structure Rd (x : I4) : Prop where
  sec : x.ag.sec.length <= 1000000
  lims : x.ag.lims.length <= 1000000
  toks : x.toks.length <= 1000000
  tsec : ∀ t ∈ x.toks, t.sec.length <= 1000000
  vehs : x.vehs.length <= 1000000
theorem N6 (x : I4) (hb : Rd x) : PP 115 [] [x.g] [] (x.g) := by
 refine B0 Tryz.func115 ?_
 have hb1 := hb.toks
 refine VW.R ?_
 refine VW.S (fun K kk => by simp [go_sem]; refine .lo (B8.froz (B6 _ (by simpa using hb.sec) (by simp [T.plain]))) rfl (by simp) ?_; simp [go_sem]; exact kk) ?_
 refine VW.S (fun K kk => by simp [go_sem]; refine .lo (B8.froz (Ep _ (by simpa using hb.lims) (by simp [T.plain]))) rfl (by simp) ?_; simp [go_sem]; exact kk) ?_
 refine VW.S (fun K kk => by simp [go_sem]; refine .lo (Oy _ (by simpa using hb.toks)) rfl (by simp) ?_; simp [go_sem]; exact kk) <| .seq ?_
 refine VW.R <| .block ?_
 refine VW.range x.toks.length (fun i1 => ⟨[(1, .ptr 0 0), (2, .ptr 1 0), (22, .li x.toks.length), (23, .li i1)], [.box 66 [.li x.num, .imm true 1 (tY x.ag.sec), .li x.ag.ri, .li x.ag.cls, .imm true 1 (tI x.ag.lims), .li x.ag.rq, .li x.ag.se, .li x.ag.ra, .li x.ag.bu, .own 2 x.toks.length, .mVeh x.vehs, .li x.bk.lv, .li x.bk.ra, .li x.bk.bu], .box 66 [.li 0, .nil 1, .li 0, .li 0, .nil 1, .li 0, .li 0, .li 0, .li 0, .nil 6, .nil 2, .li 0, .li 0, .li 0], .row 73 6 false false (Ni x.toks)]⟩) (wk ok0 [0, 1, 2]) fun i1 hi1 => ?_
 refine VW.R <| .seq ?_
 refine VW.C ?_ ?_ <;> intro h24 <;> simp [go_sem] at h24
 ·have hx : x.toks[i1]? = some x.toks[i1] := Aa h24
  generalize x.toks[i1] = t at hx
  have hs := Du (f := Dc.t) hx
  simp only [Dc.t] at hs
  refine VW.skip <| .seq <| .block <| .R ?_
  refine VW.E1 (fun K kk => by simp [go_sem, hx, hs]; (repeat refine aK ?_); refine .lo (B8.froz (B6 _ (by simpa using hb.tsec t (Ac hx)) (by simp [T.plain]))) rfl (by simp) ?_; simp [go_sem, hx, hs]; (repeat first | exact kk | refine aK ?_)) ?_
  refine VW.R1 ?_
  refine ⟨by omega, [0, 1, 2], Bp (by decide) ?_ ?_, by simp⟩
  ·simp [go_sem, Bq ((i1 : Int) + 1)]
  simp [go_sem]
 refine VW.exit ?_
 refine VW.freeze 2 (by simp [go_sem, Db]) ?_
 simp [go_sem]
 refine VW.S (fun K kk => by simp [go_sem]; refine .lo (B8.froz (Q0 _ (by simpa using hb.vehs) (by simp [T.plain, Eg.t]))) rfl (by simp) ?_; simp [go_sem]; exact kk) ?_
 refine VW.R ?_
 exact .ret (rL h24)
structure Ra (x : Bv) : Prop where
  reg : Rd x.reg
  reqs : x.reqs.length <= 1000000
  legs : ∀ r ∈ x.reqs, r.legs.length <= 1000000
  draws : x.draws.length <= 1000000
  draw : ∀ b ∈ x.draws, b.length <= 1000000
  aud : x.aud.length <= 1000000
theorem Tj (x : Bv) (hb : Ra x) : PP 86 [] [x.g] [.row 4 1 true false (tB x.aud)] (.agg [.li x.reg.num, .mY x.reg.ag.sec, .li x.reg.ag.ri, .li x.reg.ag.cls, .mI x.reg.ag.lims, .li x.reg.ag.rq, .li x.reg.ag.se, .li x.reg.ag.ra, .li x.reg.ag.bu, .mTok x.reg.toks, .mVeh x.reg.vehs, .li x.reg.bk.lv, .li x.reg.bk.ra, .li x.reg.bk.bu, .mReq x.reqs, .mYs x.draws, .own 0 x.aud.length]) := by
 refine B0 Tryz.func86 ?_
 have hb1 := hb.reqs
 have hb2 := hb.draws
 refine VW.R ?_
 refine VW.L ok0 (N6 x.reg hb.reg) ?_
 refine VW.S (fun K kk => by simp [go_sem]; refine .lo (Q2 _ (by simpa using hb.reqs)) rfl (by simp) ?_; simp [go_sem]; exact kk) <| .seq ?_
 refine VW.R <| .block ?_
 refine VW.range x.reqs.length (fun i1 => ⟨[(1, .ptr 0 0), (2, .ptr 1 0), (15, .li x.reqs.length), (16, .li i1)], [.box 70 [.li x.reg.num, .mY x.reg.ag.sec, .li x.reg.ag.ri, .li x.reg.ag.cls, .mI x.reg.ag.lims, .li x.reg.ag.rq, .li x.reg.ag.se, .li x.reg.ag.ra, .li x.reg.ag.bu, .mTok x.reg.toks, .mVeh x.reg.vehs, .li x.reg.bk.lv, .li x.reg.bk.ra, .li x.reg.bk.bu, .own 2 x.reqs.length, .mYs x.draws, .mB x.aud], .box 70 [.li 0, .nil 1, .li 0, .li 0, .nil 1, .li 0, .li 0, .li 0, .li 0, .nil 6, .nil 2, .li 0, .li 0, .li 0, .nil 5, .nil 1, .nil 1], .row 164 5 false false (Et x.reqs)]⟩) (wk ok0 [0, 1, 2]) fun i1 hi1 => ?_
 refine VW.R <| .seq ?_
 refine VW.C ?_ ?_ <;> intro h17 <;> simp [go_sem] at h17
 ·have hx : x.reqs[i1]? = some x.reqs[i1] := Aa h17
  generalize x.reqs[i1] = t at hx
  have hs := Du (f := Cg.t) hx
  simp only [Cg.t] at hs
  refine VW.skip <| .seq <| .block <| .R ?_
  refine VW.E1 (fun K kk => by simp [go_sem, hx, hs]; (repeat refine aK ?_); refine .lo (B8.froz (Js _ (by simpa using hb.legs t (Ac hx)) (by simp [T.plain, Dp.t]))) rfl (by simp) ?_; simp [go_sem, hx, hs]; (repeat first | exact kk | refine aK ?_)) ?_
  refine VW.R1 ?_
  refine ⟨by omega, [0, 1, 2], Bp (by decide) ?_ ?_, by simp⟩
  ·simp [go_sem, Bq ((i1 : Int) + 1)]
  simp [go_sem]
 refine VW.exit ?_
 refine VW.freeze 2 (by simp [go_sem, Db]) ?_
 simp [go_sem]
 refine VW.region_seq (by rfl) fun K1 hK1 => ?_
 simp [go_sem]
 refine .lo (Rx _ (by simpa using hb.draws)) rfl (by simp) ?_
 simp [go_sem]
 refine hK1 _ ?_; clear hK1
 refine VW.seq <| .R <| .block ?_
 refine VW.range x.draws.length (fun i2 => ⟨[(1, .ptr 0 0), (2, .ptr 1 0), (38, .li x.draws.length), (39, .li i2)], [.box 70 [.li x.reg.num, .mY x.reg.ag.sec, .li x.reg.ag.ri, .li x.reg.ag.cls, .mI x.reg.ag.lims, .li x.reg.ag.rq, .li x.reg.ag.se, .li x.reg.ag.ra, .li x.reg.ag.bu, .mTok x.reg.toks, .mVeh x.reg.vehs, .li x.reg.bk.lv, .li x.reg.bk.ra, .li x.reg.bk.bu, .mReq x.reqs, .own 2 x.draws.length, .mB x.aud], .box 70 [.li 0, .nil 1, .li 0, .li 0, .nil 1, .li 0, .li 0, .li 0, .li 0, .nil 6, .nil 2, .li 0, .li 0, .li 0, .nil 5, .nil 1, .nil 1], .row 44 1 false false (tYs x.draws)]⟩) (wk ok0 [0, 1, 3]) fun i2 hi2 => ?_
 refine VW.R <| .seq ?_
 refine VW.C ?_ ?_ <;> intro h40 <;> simp [go_sem] at h40
 ·have hx : x.draws[i2]? = some x.draws[i2] := Aa h40
  generalize x.draws[i2] = t at hx
  have hs := Du (f := fun x => [T.sl 1 (tY x)]) hx
  refine VW.skip <| .seq <| .block <| .R ?_
  refine VW.draw1 (by kernel_rfl) (by rfl) (by kernel_rfl) fun K1 hK1 => ?_
  simp [go_sem, hx, hs]
  repeat' refine Ax ?_ ?_
  all_goals try (intros; (repeat' refine Ax ?_ ?_) <;> omega)
  refine .lo (B8.froz (B6 _ (by simpa using hb.draw t (Ac hx)) (by simp [T.plain]))) rfl (by simp) ?_
  simp [go_sem, hx, hs]
  repeat' refine Ax ?_ ?_
  all_goals try (intros; (repeat' refine Ax ?_ ?_) <;> omega)
  refine hK1 _ _ (by kernel_rfl) ?_; clear hK1
  refine VW.R1 ?_
  refine ⟨by omega, [0, 1, 2], Bp (by decide) ?_ ?_, by simp⟩
  ·simp [go_sem, Bq ((i2 : Int) + 1)]
  simp [go_sem]
 refine VW.exit ?_
 refine VW.freeze 2 (by simp [go_sem, Db]) ?_
 simp [go_sem]
 refine VW.S (fun K kk => by simp [go_sem]; refine .lo (Tk _ (by simpa using hb.aud) (by simp [T.plain])) rfl (by simp) ?_; simp [go_sem]; exact kk) ?_
 refine VW.R ?_
 exact .ret (rW ok0 [3])
theorem Jb (x : Bv) (hb : Ra x) : PP 86 [] [x.g] [] (x.g) := (Tj x hb).frozA (by simp [go_sem])
structure Ahx (x : Ed) : Prop where
  desks : x.desks.length <= 1000000
  desk : ∀ d ∈ x.desks, Ra d
  sigs : x.sigs.length <= 1000000
  sig : ∀ g ∈ x.sigs, g.ctl.lights.length <= 1000000 /\ g.ctl.nxt.length <= 1000000
  svcs : x.svcs.length <= 1000000
  svc : ∀ g ∈ x.svcs, g.ended.length <= 1000000
  stuck : x.stuck.length <= 1000000
  views : x.views.length <= 1000000
  view : ∀ v ∈ x.views, v.col.length <= 1000000 /\ v.cnt.length <= 1000000
theorem Lq (x : Ed) (hb : Ahx x) : PP 61 [] [x.g] [.row 70 17 false false (Ga x.desks), .row 135 5 false false (Nj x.sigs), .row 138 3 false false (O0 x.svcs), .row 3 1 true false (tI x.stuck)] (.agg [.mJun x.cfg.juns, .mAg x.cfg.ags, .li x.cfg.per, .li x.cfg.cap, .li x.cfg.hold, .li x.cfg.lock, .lb x.ref, .li x.now, .own 0 x.desks.length, .own 1 x.sigs.length, .own 2 x.svcs.length, .own 3 x.stuck.length, .mView x.views]) := by
 refine B0 Tryz.func61 ?_
 have hb1 := hb.desks
 have hb2 := hb.sigs
 have hb3 := hb.svcs
 refine VW.R ?_
 refine VW.S (fun K kk => by simp [go_sem]; refine .lo (Ux _ (by simpa using hb.desks)) rfl (by simp) ?_; simp [go_sem]; exact kk) <| .seq ?_
 refine VW.R <| .block ?_
 refine VW.range x.desks.length (fun i1 => ⟨[(1, .ptr 0 0), (2, .ptr 1 0), (12, .li x.desks.length), (13, .li i1)], [.box 37 [.mJun x.cfg.juns, .mAg x.cfg.ags, .li x.cfg.per, .li x.cfg.cap, .li x.cfg.hold, .li x.cfg.lock, .lb x.ref, .li x.now, .own 2 x.desks.length, .mSig x.sigs, .mSvc x.svcs, .mI x.stuck, .mView x.views], .box 37 [.nil 3, .nil 8, .li 0, .li 0, .li 0, .li 0, .lb false, .li 0, .nil 17, .nil 5, .nil 3, .nil 1, .nil 4], .row 70 17 false false (Ga x.desks)]⟩) (wk ok0 [0, 1, 2]) fun i1 hi1 => ?_
 refine VW.R <| .seq ?_
 refine VW.C ?_ ?_ <;> intro h14 <;> simp [go_sem] at h14
 ·have hx : x.desks[i1]? = some x.desks[i1] := Aa h14
  generalize x.desks[i1] = t at hx
  have hs := Du (f := Bv.t) hx
  simp only [Bv.t] at hs
  refine VW.skip <| .seq <| .block <| .R ?_
  refine VW.M1 (cj2 hx hs) (Jb t (hb.desk t (Ac hx))) ?_
  refine VW.R1 ?_
  refine ⟨by omega, [0, 1, 2], Bp (by decide) ?_ ?_, by simp⟩
  ·simp [go_sem, Bq ((i1 : Int) + 1)]
  simp [go_sem]
 refine VW.exit <| .S (fun K kk => by simp [go_sem]; refine .lo (Ry _ (by simpa using hb.sigs)) rfl (by simp) ?_; simp [go_sem]; exact kk) <| .seq ?_
 refine VW.R <| .block ?_
 refine VW.range x.sigs.length (fun i2 => ⟨[(1, .ptr 0 0), (2, .ptr 1 0), (33, .li x.sigs.length), (34, .li i2)], [.box 37 [.mJun x.cfg.juns, .mAg x.cfg.ags, .li x.cfg.per, .li x.cfg.cap, .li x.cfg.hold, .li x.cfg.lock, .lb x.ref, .li x.now, .own 2 x.desks.length, .own 3 x.sigs.length, .mSvc x.svcs, .mI x.stuck, .mView x.views], .box 37 [.nil 3, .nil 8, .li 0, .li 0, .li 0, .li 0, .lb false, .li 0, .nil 17, .nil 5, .nil 3, .nil 1, .nil 4], .row 70 17 false false (Ga x.desks), .row 135 5 false false (Nj x.sigs)]⟩) (wk ok0 [0, 1, 2, 3]) fun i2 hi2 => ?_
 refine VW.R <| .seq ?_
 refine VW.C ?_ ?_ <;> intro h35 <;> simp [go_sem] at h35
 ·have hx : x.sigs[i2]? = some x.sigs[i2] := Aa h35
  generalize x.sigs[i2] = t at hx
  have hs := Du (f := Fl.t) hx
  simp only [Fl.t] at hs
  refine VW.skip <| .seq <| .block <| .R ?_
  refine VW.M1 (cj2 hx hs) (Ml t (hb.sig t (Ac hx)).1 (hb.sig t (Ac hx)).2) ?_
  refine VW.R1 ?_
  refine ⟨by omega, [0, 1, 2, 3], Bp (by decide) ?_ ?_, by simp⟩
  ·simp [go_sem, Bq ((i2 : Int) + 1)]
  simp [go_sem]
 refine VW.exit <| .S (fun K kk => by simp [go_sem]; refine .lo (Q1 _ (by simpa using hb.svcs)) rfl (by simp) ?_; simp [go_sem]; exact kk) <| .seq ?_
 refine VW.R <| .block ?_
 refine VW.range x.svcs.length (fun i3 => ⟨[(1, .ptr 0 0), (2, .ptr 1 0), (54, .li x.svcs.length), (55, .li i3)], [.box 37 [.mJun x.cfg.juns, .mAg x.cfg.ags, .li x.cfg.per, .li x.cfg.cap, .li x.cfg.hold, .li x.cfg.lock, .lb x.ref, .li x.now, .own 2 x.desks.length, .own 3 x.sigs.length, .own 4 x.svcs.length, .mI x.stuck, .mView x.views], .box 37 [.nil 3, .nil 8, .li 0, .li 0, .li 0, .li 0, .lb false, .li 0, .nil 17, .nil 5, .nil 3, .nil 1, .nil 4], .row 70 17 false false (Ga x.desks), .row 135 5 false false (Nj x.sigs), .row 138 3 false false (O0 x.svcs)]⟩) (wk ok0 [0, 1, 2, 3, 4]) fun i3 hi3 => ?_
 refine VW.R <| .seq ?_
 refine VW.C ?_ ?_ <;> intro h56 <;> simp [go_sem] at h56
 ·have hx : x.svcs[i3]? = some x.svcs[i3] := Aa h56
  generalize x.svcs[i3] = t at hx
  have hs := Du (f := C8.t) hx
  simp only [C8.t] at hs
  refine VW.skip <| .seq <| .block <| .R ?_
  refine VW.M1 (cj2 hx hs) (Ia t (hb.svc t (Ac hx))) ?_
  refine VW.R1 ?_
  refine ⟨by omega, [0, 1, 2, 3, 4], Bp (by decide) ?_ ?_, by simp⟩
  ·simp [go_sem, Bq ((i3 : Int) + 1)]
  simp [go_sem]
 refine VW.exit <| .S (fun K kk => by simp [go_sem]; refine .lo (Ep _ (by simpa using hb.stuck) (by simp [T.plain])) rfl (by simp) ?_; simp [go_sem]; exact kk) ?_
 refine VW.L ok0 (Rv x.views hb.views hb.view) ?_
 refine VW.R ?_
 exact .ret (rW ok0 [2, 3, 4, 5])
structure As6 (x : Hd) : Prop where
  city : Ahx x.city
  sess : x.sess.length <= 1000000
  ses : ∀ t ∈ x.sess, t.st.buf.length <= 1000000
theorem Yg (x : Hd) (hb : As6 x) : PP 38 [] [x.g] [.row 70 17 false false (Ga x.city.desks), .row 135 5 false false (Nj x.city.sigs), .row 138 3 false false (O0 x.city.svcs), .row 3 1 true false (tI x.city.stuck), .row 100 4 false false (Tm x.sess)] (.agg [.mJun x.city.cfg.juns, .mAg x.city.cfg.ags, .li x.city.cfg.per, .li x.city.cfg.cap, .li x.city.cfg.hold, .li x.city.cfg.lock, .lb x.city.ref, .li x.city.now, .own 0 x.city.desks.length, .own 1 x.city.sigs.length, .own 2 x.city.svcs.length, .own 3 x.city.stuck.length, .mView x.city.views, .own 4 x.sess.length]) := by
 refine B0 Tryz.func38 ?_
 have hb1 := hb.sess
 refine VW.R ?_
 refine VW.H ok0 <| .seq ?_
 refine VW.R <| .block ?_
 refine VW.range x.sess.length (fun i1 => ⟨[(1, .ptr 0 0), (2, .ptr 1 0), (3, .own 2 x.sess.length), (11, .imm false 4 (Tm x.sess)), (12, .li x.sess.length), (13, .li i1)], [.box 40 [.mJun x.city.cfg.juns, .mAg x.city.cfg.ags, .li x.city.cfg.per, .li x.city.cfg.cap, .li x.city.cfg.hold, .li x.city.cfg.lock, .lb x.city.ref, .li x.city.now, .mDesk x.city.desks, .mSig x.city.sigs, .mSvc x.city.svcs, .mI x.city.stuck, .mView x.city.views, .imm false 4 (Tm x.sess)], .box 40 [.nil 3, .nil 8, .li 0, .li 0, .li 0, .li 0, .lb false, .li 0, .nil 17, .nil 5, .nil 3, .nil 1, .nil 4, .nil 4], .row 100 4 false false (Q9 Cn.t [.lb false, .lb false, .sl 1 [], .lb false] x.sess i1)]⟩) ⟨[0, 1, 2], Bp (by decide) ?_ ?_, by simp⟩ fun i1 hi1 => ?_
 ·simp [go_sem, Add]
 ·simp [go_sem, Add]
 refine VW.R <| .seq ?_
 refine VW.C ?_ ?_ <;> intro h14 <;> simp [go_sem] at h14
 ·have hx : x.sess[i1]? = some x.sess[i1] := Aa h14
  generalize x.sess[i1] = t at hx
  have hs := Anz (f := Cn.t) (z := [.lb false, .lb false, .sl 1 [], .lb false]) hx
  simp only [Cn.t] at hs
  have hg := An1 (f := Cn.t) (z := [.lb false, .lb false, .sl 1 [], .lb false]) h14
  have hl := An0 (f := Cn.t) (z := [.lb false, .lb false, .sl 1 [], .lb false]) hi1
  refine VW.skip <| .seq <| .block <| .H hx ?_
  refine VW.L1 (cj4 hx hs hg hl) (H0 t (hb.ses t (Ac hx))) ?_
  refine VW.R1 ?_
  refine ⟨by omega, [0, 1, 2], Bp (by decide) ?_ ?_, by simp⟩
  ·simp [go_sem, Bq ((i1 : Int) + 1)]
  simp [go_sem]
 have he : i1 = x.sess.length := by omega
 subst he
 simp only [An2]
 refine VW.exit <| .L ok0 (Lq x.city hb.city) ?_
 exact .ret (rW ok0 [3, 4, 5, 6, 2])
def Yx (j p : Int) : Bool := decide (0 <= j) && decide (j < 4) && decide (0 <= p) && decide (p < 8)
def Ah5 (l : Dp) (now : Int) : Bool := decide (l.fr <= now) && decide (now <= l.to)
def Ajt (l : Dp) : Bool := Yx l.j l.p && decide (0 <= l.fr) && decide (l.fr <= l.to) && decide (l.to <= 2147483648) && decide (-1 <= l.si) && decide (l.si <= 1073741824)
def Gm (l : Dp) (now : Int) : Dp := if Ah5 l now then (if l.si = -1 then { l with si := now } else l) else { l with si := -1 }
def J8 (j p fr to now : Int) : Dp × Int :=
 if !Yx j p || decide (now < 0) || decide (1073741824 < now) then (⟨0, 0, 0, 0, 0⟩, 8)
 else if decide (fr < 0) || decide (to < fr) || decide (600 < to) then (⟨0, 0, 0, 0, 0⟩, 8)
 else (⟨j, p, IntKind.i64.wrap (now + fr), IntKind.i64.wrap (now + to), -1⟩, 0)
theorem Rp (j p : Int) : PP 262 [] [.li j, .li p] [] (.lb (Yx j p)) := by
 refine B0 Tryz.func262 ?_
 iterate 2 refine VW.R ?_
 refine VW.ret (B2 (by simp [go_sem]) ?_)
 simp [go_sem, Yx]
theorem Tf (l : Dp) (now : Int) : PP 194 [] [l.g, .li now] [] (.lb (Ah5 l now)) := by
 refine B0 Tryz.func194 ?_
 iterate 2 refine VW.R ?_
 refine VW.ret (B2 (by simp [go_sem]) ?_)
 simp [go_sem, Ah5]
theorem Zm (l : Dp) : PP 279 [] [l.g] [] (.lb (Ajt l)) := by
 refine B0 Tryz.func279 ?_
 refine VW.R ?_
 refine VW.L ok0 (Rp l.j l.p) ?_
 refine VW.ret (B2 (by simp [go_sem]) ?_)
 simp [go_sem, Ajt]
theorem Em (l : Dp) (now : Int) : PP 172 [] [l.g, .li now] [] (.agg ((Gm l now).a false)) := by
 refine B0 Tryz.func172 ?_
 refine VW.R <| .seq ?_
 refine VW.L ok0 (Tf l now) ?_
 refine VW.C ?_ ?_ <;> intro h8 <;> simp [go_sem] at h8
 ·refine VW.R1 ?_
  refine VW.R ?_
  refine VW.ret (B2 (by simp [go_sem]) ?_)
  first
   | (simp [go_sem, Gm, h8]; done)
   | (simp [go_sem, Gm, *]; done)
   | (simp [go_sem]; unfold Gm; (repeat' split) <;> first | (simp_all; done) | (simp_all; omega) | (simp at *; omega))
 refine VW.R ?_
 refine VW.C ?_ ?_ <;> intro h12 <;> simp [go_sem] at h12
 ·refine VW.R1 ?_
  refine VW.R ?_
  refine VW.ret (B2 (by simp [go_sem]) ?_)
  first
   | (simp [go_sem, Gm, h8, h12]; done)
   | (simp [go_sem, Gm, *]; done)
   | (simp [go_sem]; unfold Gm; (repeat' split) <;> first | (simp_all; done) | (simp_all; omega) | (simp at *; omega))
 refine VW.skip <| .R ?_
 refine VW.ret (B2 (by simp [go_sem]) ?_)
 first
  | (simp [go_sem, Gm, h8, h12]; done)
  | (simp [go_sem, Gm, *]; done)
  | (simp [go_sem]; unfold Gm; (repeat' split) <;> first | (simp_all; done) | (simp_all; omega) | (simp at *; omega))
theorem Te (j p fr to now : Int) : PP 240 [] [.li j, .li p, .li fr, .li to, .li now] [] (.tup [.agg ((J8 j p fr to now).1.a false), .lit (.int .i64 (J8 j p fr to now).2)]) := by
 refine B0 Tryz.func240 ?_
 refine VW.R <| .seq ?_
 refine VW.L ok0 (Rp j p) ?_
 refine VW.C ?_ ?_ <;> intro h23 <;> simp [go_sem] at h23
 ·refine VW.R ?_
  refine VW.ret (B2 (by simp [go_sem]) ?_)
  first
   | (simp [go_sem, J8, h23]; done)
   | (simp [go_sem, J8, *]; done)
   | (simp [go_sem]; unfold J8; (repeat' split) <;> first | (simp_all; done) | (simp_all; omega) | (simp at *; omega))
 refine VW.skip <| .seq <| .R ?_
 refine VW.C ?_ ?_ <;> intro h35 <;> simp [go_sem] at h35
 ·refine VW.R ?_
  refine VW.ret (B2 (by simp [go_sem]) ?_)
  first
   | (simp [go_sem, J8, h23, h35]; done)
   | (simp [go_sem, J8, *]; done)
   | (simp [go_sem]; unfold J8; (repeat' split) <;> first | (simp_all; done) | (simp_all; omega) | (simp at *; omega))
 refine VW.skip <| .R ?_
 refine VW.ret (B2 (by simp [go_sem]) ?_)
 first
  | (simp [go_sem, J8, h23, h35]; done)
  | (simp [go_sem, J8, *]; done)
  | (simp [go_sem]; unfold J8; (repeat' split) <;> first | (simp_all; done) | (simp_all; omega) | (simp at *; omega))
def Su (r : Int) : Bool := decide (0 <= r) && decide (r <= 63)
def Agl (a b : Int) : Bool := Su a && Su b && (Cm .andNot .i64 a b == 0)
def Agk (n : Int) : Bool := decide (0 <= n) && decide (n <= 4294967295)
def Aj4 (n : Int) : Bool := decide (0 <= n) && decide (n <= 3)
def Am5 (n : Int) : Bool := decide (0 <= n) && decide (n <= 1073741824)
def Xk (k : Int) : Bool := decide (1 <= k) && decide (k <= 12)
def Agj (rate burst : Int) : Ky := ⟨burst, rate, burst⟩
def Z9 (b : Ky) : Ky := { b with lv := if b.bu < IntKind.i64.wrap (b.lv + b.ra) then b.bu else IntKind.i64.wrap (b.lv + b.ra) }
def Qb (b : Ky) : Ky × Bool := if b.lv <= 0 then (b, false) else ({ b with lv := IntKind.i64.wrap (b.lv - 1) }, true)
def Lg (c : Cj) : Bool := c.cls == 2 || c.cls == 3
theorem Ka (r : Int) : PP 252 [] [.li r] [] (.lb (Su r)) := by
 refine B0 Tryz.func252 ?_
 iterate 2 refine VW.R ?_
 refine VW.ret (B2 (by simp [go_sem]) ?_)
 simp [go_sem, Su]
theorem Qx (a b : Int) : PP 272 [] [.li a, .li b] [] (.lb (Agl a b)) := by
 refine B0 Tryz.func272 ?_
 refine VW.R ?_
 refine VW.region_seq (by rfl) fun K1 hK1 => ?_
 simp [go_sem]
 refine .l (Ka a) ?_
 simp [go_sem]
 refine Bz (by simp [go_sem]) (by simp [go_sem]) ?_
 simp [go_sem]
 first | refine .lo (Ka b) rfl (by simp) ?_ | refine .skip ?_
 simp [go_sem]
 refine hK1 _ ?_; clear hK1
 refine VW.ret (B2 (by simp [go_sem]) ?_)
 simp [go_sem, Agl]
theorem Hz (n : Int) : PP 263 [] [.li n] [] (.lb (Agk n)) := by
 refine B0 Tryz.func263 ?_
 iterate 2 refine VW.R ?_
 refine VW.ret (B2 (by simp [go_sem]) ?_)
 simp [go_sem, Agk]
theorem Qz (n : Int) : PP 264 [] [.li n] [] (.lb (Aj4 n)) := by
 refine B0 Tryz.func264 ?_
 iterate 2 refine VW.R ?_
 refine VW.ret (B2 (by simp [go_sem]) ?_)
 simp [go_sem, Aj4]
theorem Rq (n : Int) : PP 243 [] [.li n] [] (.lb (Am5 n)) := by
 refine B0 Tryz.func243 ?_
 iterate 2 refine VW.R ?_
 refine VW.ret (B2 (by simp [go_sem]) ?_)
 simp [go_sem, Am5]
theorem S7 (n : Int) : PP 187 [] [.li n] [] (.lb (Xk n)) := by
 refine B0 Tryz.func187 ?_
 iterate 2 refine VW.R ?_
 refine VW.ret (B2 (by simp [go_sem]) ?_)
 simp [go_sem, Xk]
theorem Aia (r b : Int) : PP 112 [] [.li r, .li b] [] (.agg ((Agj r b).a false)) := by
 refine B0 Tryz.func112 ?_
 iterate 2 refine VW.R ?_
 refine VW.ret (B2 (by simp [go_sem]) ?_)
 simp [go_sem, Agj]
theorem Afu (b : Ky) : PP 167 [] [b.g] [] (.agg ((Z9 b).a false)) := by
 refine B0 Tryz.func167 ?_
 iterate 3 refine VW.R ?_
 refine VW.ret (B2 (by simp [go_sem]) ?_)
 simp [go_sem, Z9]
theorem Afv (b : Ky) : PP 209 [] [b.g] [] (.tup [.agg ((Qb b).1.a false), .lb ((Qb b).2)]) := by
 refine B0 Tryz.func209 ?_
 refine VW.R <| .seq ?_
 refine VW.R ?_
 refine VW.C ?_ ?_ <;> intro h6 <;> simp [go_sem] at h6
 ·refine VW.R ?_
  refine VW.ret (B2 (by simp [go_sem]) ?_)
  first
   | (simp [go_sem, Qb, h6]; done)
   | (simp [go_sem, Qb, *]; done)
   | (simp [go_sem]; unfold Qb; (repeat' split) <;> first | (simp_all; done) | (simp_all; omega) | (simp at *; omega))
 refine VW.skip <| .R ?_
 refine VW.R ?_
 refine VW.ret (B2 (by simp [go_sem]) ?_)
 first
  | (simp [go_sem, Qb, h6]; done)
  | (simp [go_sem, Qb, *]; done)
  | (simp [go_sem]; unfold Qb; (repeat' split) <;> first | (simp_all; done) | (simp_all; omega) | (simp at *; omega))
theorem Gn (c : Cj) : PP 197 [] [c.g] [] (.lb (Lg c)) := by
 refine B0 Tryz.func197 ?_
 iterate 2 refine VW.R ?_
 refine VW.ret (B2 (by simp [go_sem]) ?_)
 simp [go_sem, Lg]
end Go.Proofs.YtkkimgjinbaemaaGreat
