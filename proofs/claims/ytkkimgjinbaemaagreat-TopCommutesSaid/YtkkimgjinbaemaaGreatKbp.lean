/- The walk. -/
import Derived.Test.YtkkimgjinbaemaaGreatKbo
namespace Go.Proofs.YtkkimgjinbaemaaGreat
open Go.RowKit
set_option linter.unusedVariables false
set_option linter.unusedSimpArgs false
set_option maxRecDepth 100000
set_option maxHeartbeats 4000000
theorem Abe (c : Ed) (jn : Int) (ph : Int) (hb : Ahx c) (hs : c.stuck.length = c.cfg.juns.length) : Ct 43 [c.g, .li jn, .li ph] (fun d : Ed => d.g) (fun d => d.cfg = c.cfg /\ d.ref = c.ref /\ d.now = c.now /\ d.desks = c.desks /\ d.sigs = c.sigs /\ d.svcs = c.svcs /\ d.views = c.views /\ d.stuck.length = c.stuck.length) := by
 refine Cb Tryz.func43 ?_
 refine VX.R ?_
 refine VX.L ok0 (Lq c hb) <| .seq ?_
 refine VX.R ?_
 refine VX.C ?_ ?_ <;> intro h26 <;> simp [go_sem] at h26
 ·refine VX.R ?_
  refine VX.Z ok0 2 ?_
  refine VX.Z ok0 3 ?_
  refine VX.Z ok0 4 ?_
  refine VX.Z ok0 5 ?_
  exact .ret (fin ok0 ⟨c.cfg, c.ref, c.now, c.desks, c.sigs, c.svcs, c.stuck, c.views⟩ ⟨rfl, rfl, rfl, rfl, rfl, rfl, rfl, by first | rfl | simp⟩)
 refine VX.skip <| .seq ?_
 have hj : 0 <= jn /\ jn < c.cfg.juns.length := by omega
 obtain ⟨j1, hj1⟩ : ∃ e, c.cfg.juns[jn.toNat]? = some e := ⟨_, Aa (by omega)⟩
 refine VX.S (fun K kk => by simp +contextual [go_sem, hj1]; (repeat first | exact kk | refine aK ?_)) ?_
 refine VX.C ?_ ?_ <;> intro h41 <;> simp [go_sem] at h41
 ·have hjs : jn < c.stuck.length := by omega
  obtain ⟨e1, H1⟩ := gx c.stuck jn.toNat
  refine VX.H1 H1 ?_
  refine VX.H H1 ?_
  refine VX.Z ok0 2 ?_
  refine VX.Z ok0 3 ?_
  refine VX.Z ok0 4 ?_
  refine VX.Z ok0 5 ?_
  exact .ret (fin H1 ⟨c.cfg, c.ref, c.now, c.desks, c.sigs, c.svcs, (c.stuck).set jn.toNat ph, c.views⟩ ⟨rfl, rfl, rfl, rfl, rfl, rfl, rfl, by first | rfl | simp⟩)
 refine VX.skip <| .R ?_
 refine VX.Z ok0 2 ?_
 refine VX.Z ok0 3 ?_
 refine VX.Z ok0 4 ?_
 refine VX.Z ok0 5 ?_
 exact .ret (fin ok0 ⟨c.cfg, c.ref, c.now, c.desks, c.sigs, c.svcs, c.stuck, c.views⟩ ⟨rfl, rfl, rfl, rfl, rfl, rfl, rfl, by first | rfl | simp⟩)
theorem B8.frozB {P : Program} {f : FuncId} {args : List AV} {ty k ty2 k2 : Nat} {fr fz fr2 fz2 : Bool} {es es2 : List (List T)} {res res' : AV} (h : B8 P f [] args [.row ty k fr fz es, .row ty2 k2 fr2 fz2 es2] res) (hr : ((res.melt fun i => [Ob.row ty k fr true es, Ob.row ty2 k2 fr2 true es2].getD i .gone).ren fun _ => none).low = res') : B8 P f [] args [] res' := by
 refine ⟨h.1, fun E β us hn ho hβ r => (h.2 E β us hn ho hβ r).mono ?_⟩
 rintro e w' ⟨v, β', rfl, r1⟩
 have r2 := ((r1.freeze (id := 0) (ty := ty) (k := k) (fr := fr) (fz := fz) (es := es) rfl).1.freeze (id := 1) (ty := ty2) (k := k2) (fr := fr2) (fz := fz2) (es := es2) rfl).1.melt
 obtain ⟨β2, r3⟩ := r2.weak (sel := []) (st' := ⟨[(0, res')], []⟩) ⟨.cons (by rw [<- hr]; exact Le.low _) .nil, fun j hj => by simp at hj, rfl, List.nodup_nil⟩ fun id hid => absurd (by show E.o0 id = _; rw [ho]; simp [St.o]) hid
 exact ⟨v, β2, rfl, r3⟩
theorem Adp (n : Int) (hn : n <= 1000) : Ct 57 [.li n] (fun d : C8 => d.g) (fun d => d.ended.length <= 1000) := by
 refine Cb Tryz.func57 ?_
 refine VX.R ?_
 refine VX.R <| .seq ?_
 refine VX.R ?_
 refine VX.C ?_ ?_ <;> intro h11 <;> simp [go_sem] at h11
 ·refine VX.H1 ok0 <| .seq ?_
  refine VX.R <| .block ?_
  refine VX.rangeE n.toNat (fun i1 (y1 : (List Int)) => ⟨[(2, .ptr 0 0), (3, .ptr 1 0), (17, .li n.toNat), (18, .li i1)], [.box 138 [.li 0, .li 0, .nil 1], .box 138 [.li (-1), .li 0, .own 2 y1.length], .row 3 1 false false (tI y1)]⟩) (fun i1 y1 => y1.length = n.toNat) (List.replicate n.toNat 0) (wk ok0 [0, 1, 2]) (by simp) fun i1 y1 hi1 hy1 => ?_
  refine VX.R <| .seq ?_
  refine VX.C ?_ ?_ <;> intro h19 <;> simp [go_sem] at h19
  ·refine VX.skip <| .seq <| .block <| .R ?_
   obtain ⟨e1, H1⟩ := gx y1 i1
   refine VX.H1 H1 ?_
   refine VX.H1 H1 ?_
   refine ⟨by omega, ((y1).set i1 (-1)), ?_, wk (cj2 (Bq ((i1 : Int) + 1)) H1) [0, 1, 2]⟩
   simpa using hy1
  refine VX.exit <| .R ?_
  refine VX.Z ok0 2 ?_
  exact .ret (fin ok0 ⟨(-1), 0, y1⟩ (by first | (simp; done) | (simp only [List.length_replicate]; omega) | (dsimp only; omega) | (simp; omega)))
 refine VX.skip <| .seq <| .R <| .block ?_
 refine VX.rangeE 0 (fun i2 (y2 : Unit) => ⟨[(2, .ptr 0 0), (3, .ptr 1 0), (17, .li 0), (18, .li i2)], [.box 138 [.li 0, .li 0, .nil 1], .box 138 [.li (-1), .li 0, .nil 1]]⟩) (fun i2 y2 => True) () (wk ok0 [0, 1]) (trivial) fun i2 y2 hi2 hy2 => ?_
 refine VX.R <| .seq ?_
 refine VX.C ?_ ?_ <;> intro h19 <;> simp [go_sem] at h19
 ·exfalso; omega
 refine VX.exit <| .R ?_
 exact .ret (fin ok0 ⟨(-1), 0, []⟩ (by first | (simp; done) | (simp only [List.length_replicate]; omega) | (dsimp only; omega) | (simp; omega)))
theorem Os (j : Df) (s : Fl) (v : C8) (h1 : j.phs.length <= 8) (h2 : s.ctl.lights.length <= 8) : ∃ d : E7, PP 58 [] [j.g, s.g, v.g] [.row 3 1 false false (tI d.col), .row 3 1 false false (tI d.cnt)] (.agg [.lb d.fl, .lb d.ov, .own 0 d.col.length, .own 1 d.cnt.length]) /\ (d.col.length <= 8 /\ d.cnt.length <= 8) := by
 refine Km (D := E7) (F := fun d => .agg [.lb d.fl, .lb d.ov, .own 0 d.col.length, .own 1 d.cnt.length]) (S := fun d => [.row 3 1 false false (tI d.col), .row 3 1 false false (tI d.cnt)]) (Q := fun d => d.col.length <= 8 /\ d.cnt.length <= 8) Tryz.func58 rfl rfl rfl (by simp [Tryz.ntmps58]) ?_
 have hf := U9 j (by omega)
 refine VX.R ?_
 refine VX.L ok0 (S6 j (by first | assumption | omega)) <| .seq ?_
 refine VX.R ?_
 refine VX.C ?_ ?_ <;> intro h14 <;> simp [go_sem] at h14
 ·refine VX.R ?_
  exact .ret ⟨⟨(Ch j (by first | assumption | omega)).fl, (Ch j (by first | assumption | omega)).ov, (Ch j (by first | assumption | omega)).col, (Ch j (by first | assumption | omega)).cnt⟩, rW ok0 [4, 5], (by dsimp only; omega)⟩
 refine VX.skip <| .R ?_
 refine VX.R <| .seq ?_
 refine VX.R <| .block ?_
 refine VX.rangeE j.phs.length (fun i1 (y1 : (List Int) × (List Int)) => ⟨[(4, .ptr 0 0), (6, .ptr 1 0), (7, .ptr 4 0), (22, .mPhase j.phs), (23, .li j.phs.length), (24, .li i1)], [.box 135 [.mLight s.ctl.lights, .li s.ctl.grp, .mI s.ctl.nxt, .li s.ctl.wt, .lb s.lat], .box 128 [.lb false, .lb false, .nil 1, .nil 1], .row 3 1 false false (tI y1.1), .row 3 1 false false (tI y1.2), .box 128 [.lb false, .lb ((v.ph : Int) != (-1)), .own 2 y1.1.length, .own 3 y1.2.length]]⟩) (fun i1 y1 => y1.1.length = j.phs.length /\ y1.2.length = j.phs.length) ((Ch j (by first | assumption | omega)).col, (Ch j (by first | assumption | omega)).cnt) (wk ok0 [1, 3, 4, 5, 6]) (hf) fun i1 y1 hi1 hy1 => ?_
 refine VX.R <| .seq ?_
 refine VX.C ?_ ?_ <;> intro h25 <;> simp [go_sem] at h25
 ·refine VX.skip <| .seq <| .block ?_
  obtain ⟨e1, H1⟩ := gx j.phs i1
  refine VX.H H1 <| .seq ?_
  refine VX.H H1 ?_
  refine VX.C ?_ ?_ <;> intro h34 <;> simp [go_sem] at h34
  ·refine VX.exit <| .H H1 ?_
   exact .ret ⟨⟨false, ((v.ph : Int) != (-1)), y1.1, y1.2⟩, rW H1 [2, 3], (by dsimp only; omega)⟩
  refine VX.skip ?_
  obtain ⟨e2, H2⟩ := gx s.ctl.lights i1
  refine VX.H (cj2 H1 H2) ?_
  obtain ⟨e3, H3⟩ := gx y1.1 i1
  refine VX.H (cj3 H1 H2 H3) ?_
  refine VX.gen 2 rfl (by simp) (fun x : Int => [T.lit (Value.int IntKind.i64 x)]) j.phs.length ?_ fun R hR => ?_
  ·apply G7
   ·repeat' first | exact Ii | exact Ih | exact Ig (x := 0) rfl | apply G3 | apply G5 | apply G4 | apply Ij | apply (fun h => Ie (x := _) h rfl) | apply (fun h => G6 (x := _) rfl h)
   first | rfl | omega | simp | (simp; omega)
  simp [go_sem, -Prod.exists]
  refine VX.seq <| .H (cj4 H1 H2 H3 hR) ?_
  refine VX.C ?_ ?_ <;> intro h52 <;> simp [go_sem] at h52
  ·obtain ⟨e4, H4⟩ := gx R i1
   refine VX.H1 (cj5 H1 H2 H3 hR H4) ?_
   obtain ⟨e5, H5⟩ := gx y1.2 i1
   obtain ⟨Y1, cY1, qY1⟩ := got (Um e1 e2)
   refine VX.M1 (cj6 H1 H2 H3 hR H4 H5) cY1 ?_
   refine VX.H1 (cj6 H1 H2 H3 hR H4 H5) ?_
   refine ⟨by omega, ((R).set i1 e2.l, (y1.2).set i1 Y1), ?_, [0, 1, 2, 3, 4], Bp (by decide) ?_ ?_, by simp⟩
   ·first | omega | (simp; omega)
   all_goals simp [go_sem, Bq ((i1 : Int) + 1), H1, H2, H3, hR, H4, H5, hy1.1, hy1.2]
  refine VX.skip ?_
  obtain ⟨e6, H6⟩ := gx y1.2 i1
  obtain ⟨Y2, cY2, qY2⟩ := got (Um e1 e2)
  refine VX.M1 (cj5 H1 H2 H3 hR H6) cY2 ?_
  refine VX.H1 (cj5 H1 H2 H3 hR H6) ?_
  refine ⟨by omega, (R, (y1.2).set i1 Y2), ?_, [0, 1, 2, 3, 4], Bp (by decide) ?_ ?_, by simp⟩
  ·first | omega | (simp; omega)
  all_goals simp [go_sem, Bq ((i1 : Int) + 1), H1, H2, H3, hR, H6, hy1.1, hy1.2]
 refine VX.exit <| .R ?_
 exact .ret ⟨⟨false, ((v.ph : Int) != (-1)), y1.1, y1.2⟩, rW ok0 [2, 3], (by dsimp only; omega)⟩
noncomputable def Fb (j : Df) (s : Fl) (v : C8) (h1 : j.phs.length <= 8) (h2 : s.ctl.lights.length <= 8) : E7 := (Os j s v h1 h2).choose
theorem Abs (j : Df) (s : Fl) (v : C8) (h1 : j.phs.length <= 8) (h2 : s.ctl.lights.length <= 8) : PP 58 [] [j.g, s.g, v.g] [.row 3 1 false false (tI (Fb j s v h1 h2).col), .row 3 1 false false (tI (Fb j s v h1 h2).cnt)] (.agg [.lit (.bool (Fb j s v h1 h2).fl), .lit (.bool (Fb j s v h1 h2).ov), .own 0 ((Fb j s v h1 h2).col).length, .own 1 ((Fb j s v h1 h2).cnt).length]) := (Os j s v h1 h2).choose_spec.1
theorem Xi (j : Df) (s : Fl) (v : C8) (h1 : j.phs.length <= 8) (h2 : s.ctl.lights.length <= 8) : (Fb j s v h1 h2).col.length <= 8 /\ (Fb j s v h1 h2).cnt.length <= 8 := (Os j s v h1 h2).choose_spec.2
theorem W6 (j : Df) (s : Fl) (v : C8) (h1 : j.phs.length <= 8) (h2 : s.ctl.lights.length <= 8) : PP 58 [] [j.g, s.g, v.g] [] (.agg ((Fb j s v h1 h2).a false)) := (Abs j s v h1 h2).frozB (by simp [go_sem])
structure Hj (x : Ed) : Prop where
  ref : x.ref = false
  jun : ∀ j ∈ x.cfg.juns, Ln j /\ j.phs.length <= 8
  nj : x.cfg.juns.length <= 4
  na : x.cfg.ags.length <= 4
  desks : x.desks.length = x.cfg.ags.length
  desk : ∀ d ∈ x.desks, Ew d /\ d.aud.length <= 2
  sigs : x.sigs.length = x.cfg.juns.length
  sig : ∀ g ∈ x.sigs, g.ctl.lights.length <= 8 /\ g.ctl.nxt.length <= 2
  svcs : x.svcs.length = x.cfg.juns.length
  svc : ∀ g ∈ x.svcs, g.ended.length <= 1000
  stuck : x.stuck.length = x.cfg.juns.length
  views : x.views.length = x.cfg.juns.length
  view : ∀ v ∈ x.views, v.col.length <= 8 /\ v.cnt.length <= 8
theorem Hj.b {x : Ed} (h : Hj x) : Ahx x := ⟨by have := h.desks; have := h.na; omega, fun d hd => (h.desk d hd).1.b, by have := h.sigs; have := h.nj; omega, fun g hg => ⟨Ak (h.sig g hg).1 (by decide), Ak (h.sig g hg).2 (by decide)⟩,
 by have := h.svcs; have := h.nj; omega, fun g hg => Ak (h.svc g hg) (by decide), by have := h.stuck; have := h.nj; omega, by have := h.views; have := h.nj; omega, fun v hv => ⟨Ak (h.view v hv).1 (by decide), Ak (h.view v hv).2 (by decide)⟩⟩
theorem C6 {α : Type} {p : α -> Prop} {l : List α} {x : α} (h : ∀ y ∈ l, p y) (hx : p x) : ∀ y ∈ l ++ [x], p y := fun y hy => by
 rcases A0.1 hy with h1 | h1
 ·exact h y h1
 rw [An.1 h1]; exact hx
theorem An7 {n : Int} {a : TAg} {h1 : a.sec.length <= 1000000} {h2 : a.lims.length <= 1000000} (hr : a.rq <= 4) : Ew (G8 n a h1 h2) /\ (G8 n a h1 h2).aud.length <= 2 := by
 have h := Ais n a h1 h2
 have hg := Aae n a h1 h2
 have ht := Ags a h1
 have hv : (G8 n a h1 h2).reg = Dz n a h1 h2 := h.1
 refine ⟨⟨⟨⟨?_, ?_, ?_, ?_, ?_⟩, ?_, ?_, ?_, ?_, ?_⟩, ?_, ?_, ?_, ?_⟩, h.2.2.2⟩
 ·rw [hv, hg.2.1]; exact h1
 ·rw [hv, hg.2.1]; exact h2
 ·rw [hv, hg.2.2.1]; omega
 ·rw [hv, hg.2.2.1]; exact ht.2
 ·rw [hv, hg.2.2.2.1]; exact Ae _
 ·rw [h.2.1]; exact Ae _
 ·rw [h.2.1]; intro r hr; cases hr
 ·rw [h.2.2.1]; exact Ae _
 ·rw [h.2.2.1]; intro r hr; cases hr
 ·have := h.2.2.2; omega
 ·rw [hv, hg.2.2.2.1]; exact Ae _
 ·rw [h.2.1]; exact Ae _
 ·rw [h.2.2.1]; intro r hr; cases hr
 rw [hv, hg.2.1]; exact hr
theorem Afl (c : Dy) (hb : Yw c) (hp : L4 c = true) (hJ : ∀ j ∈ c.juns, Ln j /\ j.phs.length <= 8) (hA : ∀ a ∈ c.ags, a.sec.length <= 1000000 /\ a.lims.length <= 1000000 /\ a.rq <= 4) (hl1 : c.juns.length <= 4) (hl2 : c.ags.length <= 4) : Ct 29 [c.g] (fun d : Ed => d.g) (fun d => Hj d /\ d.cfg = c /\ d.now = 0) := by
 refine Cb Tryz.func29 ?_
 refine VX.H hp ?_
 refine VX.H hp <| .seq ?_
 refine VX.L hp (Abu c hb) ?_
 refine VX.C ?_ ?_ <;> intro h16 <;> simp [go_sem] at h16
 refine VX.skip <| .seq ?_
 refine VX.own0c 2 8 70 17 (by decide) rfl rfl ?_
 simp [go_sem, -Prod.exists]
 refine VX.H hp <| .block ?_
 refine VX.rangeE c.ags.length (fun i1 (y1 : (List Bv)) => ⟨[(1, .ptr 0 0), (2, .ptr 1 0), (3, .ptr 2 0), (35, .mAg c.ags), (36, .li c.ags.length), (37, .li i1)], [.box 30 [.mJun c.juns, .mAg c.ags, .li c.per, .li c.cap, .li c.hold, .li c.lock], .box 37 [.nil 3, .nil 8, .li 0, .li 0, .li 0, .li 0, .lb false, .li 0, .nil 17, .nil 5, .nil 3, .nil 1, .nil 4], .box 37 [.mJun c.juns, .mAg c.ags, .li c.per, .li c.cap, .li c.hold, .li c.lock, .lb false, .li 0, .own 3 y1.length, .nil 5, .nil 3, .nil 1, .nil 4], .row 70 17 false false (Ga y1)]⟩) (fun i1 y1 => y1.length = i1 /\ ∀ d ∈ y1, Ew d /\ d.aud.length <= 2) ([]) (wk ok0 [0, 1, 2, 3]) (⟨rfl, fun d h => (by cases h)⟩) fun i1 y1 hi1 hy1 => ?_
 refine VX.H hp <| .seq ?_
 refine VX.C ?_ ?_ <;> intro h38 <;> simp [go_sem] at h38
 ·refine VX.skip <| .seq <| .block ?_
  obtain ⟨e1, H1⟩ := gx c.ags i1
  refine VX.H (cj2 hp H1) ?_
  have ha := hA e1 (Ac H1)
  refine VX.M1 (cj2 hp H1) (Aic i1 e1 ha.1 ha.2.1) ?_
  refine VX.H1 (cj2 hp H1) ?_
  exact ⟨by omega, (y1 ++ ([(G8 i1 e1 ha.1 ha.2.1)])), ⟨by simp; omega, C6 hy1.2 (An7 ha.2.2)⟩, wk (cj2 (Bq ((i1 : Int) + 1)) H1) [0, 1, 2, 3]⟩
 refine VX.exit <| .seq ?_
 refine VX.own0c 2 12 128 4 (by decide) rfl rfl ?_
 simp [go_sem, -Prod.exists]
 refine VX.own0c 2 9 135 5 (by decide) rfl rfl ?_
 simp [go_sem, -Prod.exists]
 refine VX.own0c 2 10 138 3 (by decide) rfl rfl ?_
 simp [go_sem, -Prod.exists]
 refine VX.own0c 2 11 3 1 (by decide) rfl rfl ?_
 simp [go_sem, -Prod.exists]
 refine VX.H hp <| .block ?_
 refine VX.rangeE c.juns.length (fun i2 (y2 : (List Bv) × (List E7) × (List Fl) × (List C8) × (List Int)) => ⟨[(2, .ptr 0 0), (3, .ptr 1 0), (52, .mJun c.juns), (53, .li c.juns.length), (54, .li i2)], [.box 37 [.nil 3, .nil 8, .li 0, .li 0, .li 0, .li 0, .lb false, .li 0, .nil 17, .nil 5, .nil 3, .nil 1, .nil 4], .box 37 [.mJun c.juns, .mAg c.ags, .li c.per, .li c.cap, .li c.hold, .li c.lock, .lb false, .li 0, .own 2 y2.1.length, .own 4 y2.2.2.1.length, .own 5 y2.2.2.2.1.length, .own 6 y2.2.2.2.2.length, .own 3 y2.2.1.length], .row 70 17 false false (Ga y2.1), .row 128 4 false false (Uz y2.2.1), .row 135 5 false false (Nj y2.2.2.1), .row 138 3 false false (O0 y2.2.2.2.1), .row 3 1 false false (tI y2.2.2.2.2)]⟩) (fun i2 y2 => (y2.1 = y1 /\ y2.2.1.length = i2 /\ y2.2.2.1.length = i2 /\ y2.2.2.2.1.length = i2 /\ y2.2.2.2.2.length = i2) /\ (∀ v ∈ y2.2.1, v.col.length <= 8 /\ v.cnt.length <= 8) /\ (∀ g ∈ y2.2.2.1, g.ctl.lights.length <= 8 /\ g.ctl.nxt.length <= 2) /\ ∀ g ∈ y2.2.2.2.1, g.ended.length <= 1000) (y1, [], [], [], []) (wk ok0 [1, 2, 3, 4, 5, 6, 7]) (⟨⟨rfl, rfl, rfl, rfl, rfl⟩, fun d h => (by cases h), fun d h => (by cases h), fun d h => (by cases h)⟩) fun i2 y2 hi2 hy2 => ?_
 refine VX.H hp <| .seq ?_
 refine VX.C ?_ ?_ <;> intro h55 <;> simp [go_sem] at h55
 ·refine VX.skip <| .seq <| .block ?_
  obtain ⟨e2, H2⟩ := gx c.juns i2
  refine VX.H (cj2 hp H2) ?_
  have hj := hJ e2 (Ac H2)
  obtain ⟨Y1, cY1, qY1⟩ := got (Rj e2 hj.1)
  have hqj := qY1
  refine VX.L (cj2 hp H2) cY1 ?_
  obtain ⟨Y2, cY2, qY2⟩ := got (Adp e2.phs.length (by omega))
  refine VX.L (cj2 hp H2) cY2 ?_
  refine VX.M (cj2 hp H2) (W6 e2 Y1 Y2 hj.2 (by omega)) ?_
  refine VX.H (cj2 hp H2) ?_
  refine VX.H (cj2 hp H2) ?_
  refine VX.H1 (cj2 hp H2) ?_
  refine VX.H1 (cj2 hp H2) ?_
  exact ⟨by omega, (y2.1, y2.2.1 ++ ([(Fb e2 Y1 Y2 hj.2 (by omega))]), y2.2.2.1 ++ ([Y1]), y2.2.2.2.1 ++ ([Y2]), y2.2.2.2.2 ++ ([(-1)])), ⟨⟨hy2.1.1, by simp; omega, by simp; omega, by simp; omega, by simp; omega⟩, C6 hy2.2.1 (Xi e2 Y1 Y2 hj.2 (by omega)), C6 hy2.2.2.1 ⟨by rw [hqj.2.1]; exact hj.2, by rw [hqj.2.2]; exact Aj _⟩, C6 hy2.2.2.2 qY2⟩, wk (cj2 (Bq ((i2 : Int) + 1)) H2) [0, 1, 2, 3, 4, 5, 6]⟩
 refine VX.exit <| .H hp ?_
 refine VX.Z ok0 2 ?_
 refine VX.Z ok0 4 ?_
 refine VX.Z ok0 5 ?_
 refine VX.Z ok0 6 ?_
 refine VX.Z ok0 3 ?_
 exact .ret (fin hp ⟨c, false, 0, y2.1, y2.2.2.1, y2.2.2.2.1, y2.2.2.2.2, y2.2.1⟩ ⟨⟨rfl, hJ, hl1, hl2, by dsimp only; rw [hy2.1.1]; omega, by dsimp only; rw [hy2.1.1]; exact hy1.2, by dsimp only; omega, hy2.2.2.1, by dsimp only; omega, hy2.2.2.2, by dsimp only; omega, by dsimp only; omega, hy2.2.1⟩, rfl, rfl⟩)
theorem Hb {m : B3} (h : m.tok.length <= 2000) (h2 : m.args.length <= 2000) (h3 : m.data.length <= 2000) : E4 m := ⟨h, h2, h3⟩
def StQ (n : Int) (l : List B3) : Prop := (He n).2 = 0 -> ∃ m ∈ l, P17 m n
theorem Wk {m : B3} {n : Int} (h : E4 m) (hP : P17 m n) : (!Nn m) = true := by
 have hv := Yn m h.v.1 h.v.2.1 h.v.2.2
 have he := (Lj m h.v.1 h.v.2.1 h.v.2.2).2 n hP
 unfold Nn
 rw [dif_pos h, hv, he]
 rfl
theorem Adk (c : Ed) (pl : O7) (rep : List (List B3)) (ents : List Jp) (hc : Hj c) (h0 : 0 <= pl.ag) (h1 : pl.ag < c.desks.length) (hn : 0 <= pl.num) (hrep : ∀ l ∈ rep, l.length <= 900 /\ ∀ m ∈ l, E4 m) (hr2 : rep.length <= 1000) (hen : ents.length <= 100000) : Ct 99 [c.g, pl.g, .imm false 1 (N8 rep), .mEnt ents] (fun d : List B3 => .mMsg d) (fun d => d.length <= 910 /\ (∀ m ∈ d, E4 m) /\ StQ c.now d) := by
 refine Cb Tryz.func99 ?_
 obtain ⟨et, het⟩ : ∃ et, et = ents.take (min ents.length 16) := ⟨_, rfl⟩
 have hT : List.take (if (16 : Int) < (ents.length : Int) then (16 : Int) else (ents.length : Int)).toNat (List.map Jp.t ents) = List.map Jp.t et := by rw [het, List.map_take]; congr 1; split <;> omega
 have hel : et.length <= 16 := by rw [het, A5]; omega
 have hv4 : c.views.length <= 4 := by have := hc.views; have := hc.nj; omega
 refine VX.R ?_
 obtain ⟨e1, H1⟩ := gx c.desks pl.ag.toNat
 refine VX.H H1 ?_
 refine VX.H H1 <| .seq ?_
 refine VX.H H1 ?_
 refine VX.C ?_ ?_ <;> intro h24 <;> simp [go_sem] at h24
 ·obtain ⟨e2, H2⟩ := gx rep pl.num.toNat
  refine VX.region1 (by rfl) fun K1 hK1 => ?_
  simp [go_sem, H1, H2]
  repeat' with_reducible refine Ax ?_ ?_
  all_goals try (intros; (repeat' refine Ax ?_ ?_) <;> omega)
  all_goals try (have he2 := (hrep e2 (Ac H2)).1; omega)
  refine hK1 _ ?_; clear hK1
  have hd := hc.desk e1 (Ac H1)
  obtain ⟨Y1, cY1, qY1⟩ := got (Tc e1 c.views c.now hd.1.b.reqs hd.1.rq hv4 hc.view)
  have hst : E4 Y1 := by have hq := qY1; exact Hb (by rw [hq.2.2.1]; simp) (by rw [hq.2.1]; simp) (by omega)
  have hP : (He c.now).2 = 0 -> P17 Y1 c.now := fun hv => by have hq := qY1; exact ⟨hq.1, hq.2.2.1, hq.2.1, hv, by omega⟩
  refine VX.region_seq (by rfl) fun K1 hK1 => ?_
  simp [go_sem, H1, H2]
  refine .l cY1 ?_
  simp [go_sem, H1, H2]
  repeat' with_reducible refine Ax ?_ ?_
  all_goals try (intros; (repeat' refine Ax ?_ ?_) <;> omega)
  all_goals try (have he2 := (hrep e2 (Ac H2)).1; omega)
  refine hK1 _ ?_; clear hK1
  refine VX.seq ?_
  by_cases hc6 : pl.num < e1.aud.length
  ·obtain ⟨e3, H3⟩ := gx e1.aud pl.num.toNat
   refine VX.H (cj4 H1 H2 hc6 H3) ?_
   refine VX.C ?_ ?_ <;> intro h54 <;> simp [go_sem] at h54
   ·refine VX.H (cj4 H1 H2 hc6 H3) <| .seq ?_
    refine VX.H (cj5 H1 H2 hc6 H3 hT) <| .block ?_
    refine VX.rangeE (et.length) (fun i1 (y1 : (List B3) × (List Int)) => ⟨[(10, .own 0 y1.1.length), (11, .ptr 2 0), (63, .mEnt et), (64, .li (et.length)), (65, .li i1)], [.row 56 4 false false (Nw y1.1), .row 3 1 false false (tI y1.2), .box 56 [.li 18, .nil 1, .own 1 y1.2.length, .nil 1]]⟩) (fun i1 y1 => y1.1.length <= 901 /\ (∀ m ∈ y1.1, E4 m) /\ y1.2.length <= 1 + 3 * i1 /\ Y1 ∈ y1.1) (e2 ++ ([Y1]), [c.now]) (wk (cj4 H1 H2 hc6 H3) [3, 5, 6]) (⟨by have := (hrep e2 (Ac H2)).1; simp; omega, C6 (hrep e2 (Ac H2)).2 hst, by simp, by simp⟩) fun i1 y1 hi1 hy1 => ?_
    refine VX.H (cj4 H1 H2 hc6 H3) <| .seq ?_
    refine VX.C ?_ ?_ <;> intro h66 <;> simp [go_sem] at h66
    ·refine VX.skip <| .seq <| .block ?_
     obtain ⟨e4, H4⟩ := gx et i1
     refine VX.H (cj5 H1 H2 hc6 H3 H4) ?_
     refine VX.H1 (cj5 H1 H2 hc6 H3 H4) ?_
     refine VX.H1 (cj5 H1 H2 hc6 H3 H4) ?_
     exact ⟨by omega, (y1.1, y1.2 ++ ([e4.ag, e4.kind, e4.code])), ⟨hy1.1, hy1.2.1, by simp; omega, hy1.2.2.2⟩, wk (cj6 (Bq ((i1 : Int) + 1)) H1 H2 hc6 H3 H4) [0, 1, 2]⟩
    refine VX.exit <| .Z (cj4 H1 H2 hc6 H3) 1 ?_
    refine VX.H1 (cj4 H1 H2 hc6 H3) ?_
    have hlen : (((y1.1 ++ ([⟨18, [], y1.2, []⟩])) : List B3)).length <= 910 := by first | (simp; done) | (simp; omega) | (have := (hrep e2 (Ac H2)).1; simp; omega)
    have hM : ∀ m ∈ (((y1.1 ++ ([⟨18, [], y1.2, []⟩])) : List B3)), E4 m := by first | exact C6 hy1.2.1 (Hb (by simp) (by dsimp only; omega) (by simp)) | exact C6 hy2.2.1 (Hb (by simp) (by dsimp only; omega) (by simp)) | exact C6 (hrep e2 (Ac H2)).2 hst | (intro m hm; rw [An.1 hm]; exact hst)
    have hSt : Y1 ∈ (((y1.1 ++ ([⟨18, [], y1.2, []⟩])) : List B3)) := by first | exact Bj _ hy1.2.2.2 | exact Bj _ hy2.2.2.2 | exact List.mem_append_right _ (An.2 rfl) | exact An.2 rfl
    obtain ⟨R, hR, _⟩ := Ge (((y1.1 ++ ([⟨18, [], y1.2, []⟩])) : List B3)) (by omega) hM
    generalize hV : List.filter (fun t => !Nn t) (((y1.1 ++ ([⟨18, [], y1.2, []⟩])) : List B3)) = V at hR
    refine VX.S (fun K kk => by simp [go_sem, H1, H2, hc6, H3]; refine .o [0] (hR) ?_; simp [go_sem, H1, H2, hc6, H3]; exact kk) ?_
    exact .ret (fin (cj4 H1 H2 hc6 H3) V ⟨by rw [<- hV]; exact Ak (Az _ _) hlen, fun m hm => by rw [<- hV] at hm; exact hM m (Bn.1 hm).1, fun hv => ⟨_, by rw [<- hV]; exact Bn.2 ⟨hSt, Wk hst (hP hv)⟩, hP hv⟩⟩)
   refine VX.skip ?_
   have hlen : (((e2 ++ ([Y1])) : List B3)).length <= 910 := by first | (simp; done) | (simp; omega) | (have := (hrep e2 (Ac H2)).1; simp; omega)
   have hM : ∀ m ∈ (((e2 ++ ([Y1])) : List B3)), E4 m := by first | exact C6 hy1.2.1 (Hb (by simp) (by dsimp only; omega) (by simp)) | exact C6 hy2.2.1 (Hb (by simp) (by dsimp only; omega) (by simp)) | exact C6 (hrep e2 (Ac H2)).2 hst | (intro m hm; rw [An.1 hm]; exact hst)
   have hSt : Y1 ∈ (((e2 ++ ([Y1])) : List B3)) := by first | exact Bj _ hy1.2.2.2 | exact Bj _ hy2.2.2.2 | exact List.mem_append_right _ (An.2 rfl) | exact An.2 rfl
   obtain ⟨R, hR, _⟩ := Ge (((e2 ++ ([Y1])) : List B3)) (by omega) hM
   generalize hV : List.filter (fun t => !Nn t) (((e2 ++ ([Y1])) : List B3)) = V at hR
   refine VX.S (fun K kk => by simp [go_sem, H1, H2, hc6, H3]; refine .o [3] (hR) ?_; simp [go_sem, H1, H2, hc6, H3]; exact kk) ?_
   exact .ret (fin (cj4 H1 H2 hc6 H3) V ⟨by rw [<- hV]; exact Ak (Az _ _) hlen, fun m hm => by rw [<- hV] at hm; exact hM m (Bn.1 hm).1, fun hv => ⟨_, by rw [<- hV]; exact Bn.2 ⟨hSt, Wk hst (hP hv)⟩, hP hv⟩⟩)
  refine VX.H (cj3 H1 H2 hc6) ?_
  refine VX.C ?_ ?_ <;> intro h54 <;> simp [go_sem] at h54
  refine VX.skip ?_
  have hlen : (((e2 ++ ([Y1])) : List B3)).length <= 910 := by first | (simp; done) | (simp; omega) | (have := (hrep e2 (Ac H2)).1; simp; omega)
  have hM : ∀ m ∈ (((e2 ++ ([Y1])) : List B3)), E4 m := by first | exact C6 hy1.2.1 (Hb (by simp) (by dsimp only; omega) (by simp)) | exact C6 hy2.2.1 (Hb (by simp) (by dsimp only; omega) (by simp)) | exact C6 (hrep e2 (Ac H2)).2 hst | (intro m hm; rw [An.1 hm]; exact hst)
  have hSt : Y1 ∈ (((e2 ++ ([Y1])) : List B3)) := by first | exact Bj _ hy1.2.2.2 | exact Bj _ hy2.2.2.2 | exact List.mem_append_right _ (An.2 rfl) | exact An.2 rfl
  obtain ⟨R, hR, _⟩ := Ge (((e2 ++ ([Y1])) : List B3)) (by omega) hM
  generalize hV : List.filter (fun t => !Nn t) (((e2 ++ ([Y1])) : List B3)) = V at hR
  refine VX.S (fun K kk => by simp [go_sem, H1, H2, hc6]; refine .o [3] (hR) ?_; simp [go_sem, H1, H2, hc6]; exact kk) ?_
  exact .ret (fin (cj3 H1 H2 hc6) V ⟨by rw [<- hV]; exact Ak (Az _ _) hlen, fun m hm => by rw [<- hV] at hm; exact hM m (Bn.1 hm).1, fun hv => ⟨_, by rw [<- hV]; exact Bn.2 ⟨hSt, Wk hst (hP hv)⟩, hP hv⟩⟩)
 refine VX.skip ?_
 have hd := hc.desk e1 (Ac H1)
 obtain ⟨Y2, cY2, qY2⟩ := got (Tc e1 c.views c.now hd.1.b.reqs hd.1.rq hv4 hc.view)
 have hst : E4 Y2 := by have hq := qY2; exact Hb (by rw [hq.2.2.1]; simp) (by rw [hq.2.1]; simp) (by omega)
 have hP : (He c.now).2 = 0 -> P17 Y2 c.now := fun hv => by have hq := qY2; exact ⟨hq.1, hq.2.2.1, hq.2.1, hv, by omega⟩
 refine VX.region_seq (by rfl) fun K1 hK1 => ?_
 simp [go_sem, H1]
 refine .l cY2 ?_
 simp [go_sem, H1]
 repeat' with_reducible refine Ax ?_ ?_
 all_goals try (intros; (repeat' refine Ax ?_ ?_) <;> omega)
 all_goals try (have he2 := (hrep e2 (Ac H2)).1; omega)
 refine hK1 _ ?_; clear hK1
 refine VX.seq ?_
 by_cases hc6 : pl.num < e1.aud.length
 ·obtain ⟨e5, H5⟩ := gx e1.aud pl.num.toNat
  refine VX.H (cj3 H1 hc6 H5) ?_
  refine VX.C ?_ ?_ <;> intro h54 <;> simp [go_sem] at h54
  ·refine VX.H (cj3 H1 hc6 H5) <| .seq ?_
   refine VX.H (cj4 H1 hc6 H5 hT) <| .block ?_
   refine VX.rangeE (et.length) (fun i2 (y2 : (List B3) × (List Int)) => ⟨[(10, .own 0 y2.1.length), (11, .ptr 2 0), (63, .mEnt et), (64, .li (et.length)), (65, .li i2)], [.row 56 4 false false (Nw y2.1), .row 3 1 false false (tI y2.2), .box 56 [.li 18, .nil 1, .own 1 y2.2.length, .nil 1]]⟩) (fun i2 y2 => y2.1.length <= 901 /\ (∀ m ∈ y2.1, E4 m) /\ y2.2.length <= 1 + 3 * i2 /\ Y2 ∈ y2.1) ([Y2], [c.now]) (wk (cj3 H1 hc6 H5) [4, 5, 6]) (⟨by simp, fun m hm => by rw [An.1 hm]; exact hst, by simp, by simp⟩) fun i2 y2 hi2 hy2 => ?_
   refine VX.H (cj3 H1 hc6 H5) <| .seq ?_
   refine VX.C ?_ ?_ <;> intro h66 <;> simp [go_sem] at h66
   ·refine VX.skip <| .seq <| .block ?_
    obtain ⟨e6, H6⟩ := gx et i2
    refine VX.H (cj4 H1 hc6 H5 H6) ?_
    refine VX.H1 (cj4 H1 hc6 H5 H6) ?_
    refine VX.H1 (cj4 H1 hc6 H5 H6) ?_
    exact ⟨by omega, (y2.1, y2.2 ++ ([e6.ag, e6.kind, e6.code])), ⟨hy2.1, hy2.2.1, by simp; omega, hy2.2.2.2⟩, wk (cj5 (Bq ((i2 : Int) + 1)) H1 hc6 H5 H6) [0, 1, 2]⟩
   refine VX.exit <| .Z (cj3 H1 hc6 H5) 1 ?_
   refine VX.H1 (cj3 H1 hc6 H5) ?_
   have hlen : (((y2.1 ++ ([⟨18, [], y2.2, []⟩])) : List B3)).length <= 910 := by first | (simp; done) | (simp; omega) | (have := (hrep e2 (Ac H2)).1; simp; omega)
   have hM : ∀ m ∈ (((y2.1 ++ ([⟨18, [], y2.2, []⟩])) : List B3)), E4 m := by first | exact C6 hy1.2.1 (Hb (by simp) (by dsimp only; omega) (by simp)) | exact C6 hy2.2.1 (Hb (by simp) (by dsimp only; omega) (by simp)) | exact C6 (hrep e2 (Ac H2)).2 hst | (intro m hm; rw [An.1 hm]; exact hst)
   have hSt : Y2 ∈ (((y2.1 ++ ([⟨18, [], y2.2, []⟩])) : List B3)) := by first | exact Bj _ hy1.2.2.2 | exact Bj _ hy2.2.2.2 | exact List.mem_append_right _ (An.2 rfl) | exact An.2 rfl
   obtain ⟨R, hR, _⟩ := Ge (((y2.1 ++ ([⟨18, [], y2.2, []⟩])) : List B3)) (by omega) hM
   generalize hV : List.filter (fun t => !Nn t) (((y2.1 ++ ([⟨18, [], y2.2, []⟩])) : List B3)) = V at hR
   refine VX.S (fun K kk => by simp [go_sem, H1, hc6, H5]; refine .o [0] (hR) ?_; simp [go_sem, H1, hc6, H5]; exact kk) ?_
   exact .ret (fin (cj3 H1 hc6 H5) V ⟨by rw [<- hV]; exact Ak (Az _ _) hlen, fun m hm => by rw [<- hV] at hm; exact hM m (Bn.1 hm).1, fun hv => ⟨_, by rw [<- hV]; exact Bn.2 ⟨hSt, Wk hst (hP hv)⟩, hP hv⟩⟩)
  refine VX.skip ?_
  have hlen : ((([Y2]) : List B3)).length <= 910 := by first | (simp; done) | (simp; omega) | (have := (hrep e2 (Ac H2)).1; simp; omega)
  have hM : ∀ m ∈ ((([Y2]) : List B3)), E4 m := by first | exact C6 hy1.2.1 (Hb (by simp) (by dsimp only; omega) (by simp)) | exact C6 hy2.2.1 (Hb (by simp) (by dsimp only; omega) (by simp)) | exact C6 (hrep e2 (Ac H2)).2 hst | (intro m hm; rw [An.1 hm]; exact hst)
  have hSt : Y2 ∈ ((([Y2]) : List B3)) := by first | exact Bj _ hy1.2.2.2 | exact Bj _ hy2.2.2.2 | exact List.mem_append_right _ (An.2 rfl) | exact An.2 rfl
  obtain ⟨R, hR, _⟩ := Ge ((([Y2]) : List B3)) (by omega) hM
  generalize hV : List.filter (fun t => !Nn t) ((([Y2]) : List B3)) = V at hR
  refine VX.S (fun K kk => by simp [go_sem, H1, hc6, H5]; refine .o [4] (hR) ?_; simp [go_sem, H1, hc6, H5]; exact kk) ?_
  exact .ret (fin (cj3 H1 hc6 H5) V ⟨by rw [<- hV]; exact Ak (Az _ _) hlen, fun m hm => by rw [<- hV] at hm; exact hM m (Bn.1 hm).1, fun hv => ⟨_, by rw [<- hV]; exact Bn.2 ⟨hSt, Wk hst (hP hv)⟩, hP hv⟩⟩)
 refine VX.H (cj2 H1 hc6) ?_
 refine VX.C ?_ ?_ <;> intro h54 <;> simp [go_sem] at h54
 refine VX.skip ?_
 have hlen : ((([Y2]) : List B3)).length <= 910 := by first | (simp; done) | (simp; omega) | (have := (hrep e2 (Ac H2)).1; simp; omega)
 have hM : ∀ m ∈ ((([Y2]) : List B3)), E4 m := by first | exact C6 hy1.2.1 (Hb (by simp) (by dsimp only; omega) (by simp)) | exact C6 hy2.2.1 (Hb (by simp) (by dsimp only; omega) (by simp)) | exact C6 (hrep e2 (Ac H2)).2 hst | (intro m hm; rw [An.1 hm]; exact hst)
 have hSt : Y2 ∈ ((([Y2]) : List B3)) := by first | exact Bj _ hy1.2.2.2 | exact Bj _ hy2.2.2.2 | exact List.mem_append_right _ (An.2 rfl) | exact An.2 rfl
 obtain ⟨R, hR, _⟩ := Ge ((([Y2]) : List B3)) (by omega) hM
 generalize hV : List.filter (fun t => !Nn t) ((([Y2]) : List B3)) = V at hR
 refine VX.S (fun K kk => by simp [go_sem, H1, hc6]; refine .o [4] (hR) ?_; simp [go_sem, H1, hc6]; exact kk) ?_
 exact .ret (fin (cj2 H1 hc6) V ⟨by rw [<- hV]; exact Ak (Az _ _) hlen, fun m hm => by rw [<- hV] at hm; exact hM m (Bn.1 hm).1, fun hv => ⟨_, by rw [<- hV]; exact Bn.2 ⟨hSt, Wk hst (hP hv)⟩, hP hv⟩⟩)
end Go.Proofs.YtkkimgjinbaemaaGreat
