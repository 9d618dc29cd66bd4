/- The walk. -/
import Derived.Test.YtkkimgjinbaemaaGreatKbx
namespace Go.Proofs.YtkkimgjinbaemaaGreat
open Go.RowKit
set_option linter.unusedVariables false
set_option linter.unusedSimpArgs false
set_option maxRecDepth 100000
set_option maxHeartbeats 4000000
theorem Uk (n : Nat) : By (List.replicate n (0 : Int)) := fun x hx => by rw [List.eq_of_mem_replicate hx]; decide
theorem Gl {e : TEv} (h : e.bytes = []) : EvQ e := by rw [EvQ, h]; exact ⟨by simp, Kt⟩
theorem Oh {e : TEv} {n : Int} (h : e.bytes = Bt n) : EvQ e := by
 have hq := F6 n
 rw [EvQ, h]; exact ⟨by rw [hq.1]; decide, hq.2⟩
theorem Pc (c : Dy) (h : c.ags.length <= 1000000) (hs : ∀ a ∈ c.ags, 1 <= a.se /\ a.se <= 2) : Ct 31 [c.g] (fun d : Int => .li d) (fun d => 0 <= d /\ d <= 2 * c.ags.length) := by
 refine Cb Tryz.func31 ?_
 refine VX.R ?_
 refine VX.R <| .seq ?_
 refine VX.R <| .block ?_
 refine VX.rangeE c.ags.length (fun i1 (y1 : Int) => ⟨[(3, .li y1), (7, .mAg c.ags), (8, .li c.ags.length), (9, .li i1)], []⟩) (fun i1 y1 => 0 <= y1 /\ y1 <= 2 * i1) (0) (wk ok0 []) (⟨by decide, by decide⟩) fun i1 y1 hi1 hy1 => ?_
 refine VX.R <| .seq ?_
 refine VX.C ?_ ?_ <;> intro h10 <;> simp [go_sem] at h10
 ·refine VX.skip <| .seq <| .block ?_
  obtain ⟨e1, H1⟩ := gx c.ags i1
  refine VX.H H1 ?_
  have hse := hs e1 (Ac H1)
  have hw2 := Bq (y1 + e1.se : Int)
  refine VX.H1 (cj2 H1 hw2) ?_
  refine VX.H1 (cj2 H1 hw2) ?_
  exact ⟨by omega, ((y1 + e1.se)), ⟨by omega, by omega⟩, wk (cj3 (Bq ((i1 : Int) + 1)) H1 hw2) []⟩
 refine VX.exit <| .R ?_
 exact .ret (fin ok0 y1 ⟨hy1.1, by omega⟩)
theorem Lt (k : Cf) (c : Dy) (s : Int) (cal : Bool) (h : k.l.length <= 300) (h0 : 0 <= k.pos) : Cx 35 [.box 84 (k.a false)] [.ptr 0 0, c.g, .li s, .lb cal] (fun d : TEv × Cf => [.box 84 (d.2.a false)]) (fun d => d.1.g) (fun d => d.2.l = k.l /\ 0 <= d.2.pos /\ EvQ d.1) := by
 refine Pr Tryz.func35 ?_
 refine VX.R <| .seq ?_
 obtain ⟨D1, hD1, hd1, hl1, hp1⟩ := dN k 6
 refine VX.S (fun K kk => by simp [go_sem]; refine .o [0] (hD1) ?_; simp [go_sem]; exact kk) <| .block ?_
 refine VX.R ?_
 refine VX.C ?_ ?_ <;> intro h12 <;> simp [go_sem] at h12
 ·refine VX.R ?_
  refine VX.ret ⟨(⟨2, s, 0, 0, []⟩, D1.2), Nx [0] (by simp [go_sem]) (by decide) (by simp) (by simp [go_sem]) ?_, ⟨by first | exact hb1.1.trans hd1.1 | exact hd6.1.trans hd1.1 | exact hd5.1.trans (hd4.1.trans hd1.1) | exact hd3.1.trans (hd2.1.trans hd1.1) | exact hd1.1, by first | exact hb1.2.1 | exact hp6 | exact hp5 | exact hp3 | exact hp1, by first | exact Gl rfl | exact Oh rfl | exact ⟨by simp; omega, Uk _⟩ | exact ⟨by have := hb1.2.2.1; dsimp only; omega, hb1.2.2.2⟩⟩⟩
  repeat' (first | exact .nil | refine .cons (by simp [go_sem]) ?_)
 refine VX.R ?_
 refine VX.C ?_ ?_ <;> intro h17 <;> simp [go_sem] at h17
 ·refine VX.R ?_
  refine VX.ret ⟨(⟨1, s, 0, 0, []⟩, D1.2), Nx [0] (by simp [go_sem]) (by decide) (by simp) (by simp [go_sem]) ?_, ⟨by first | exact hb1.1.trans hd1.1 | exact hd6.1.trans hd1.1 | exact hd5.1.trans (hd4.1.trans hd1.1) | exact hd3.1.trans (hd2.1.trans hd1.1) | exact hd1.1, by first | exact hb1.2.1 | exact hp6 | exact hp5 | exact hp3 | exact hp1, by first | exact Gl rfl | exact Oh rfl | exact ⟨by simp; omega, Uk _⟩ | exact ⟨by have := hb1.2.2.1; dsimp only; omega, hb1.2.2.2⟩⟩⟩
  repeat' (first | exact .nil | refine .cons (by simp [go_sem]) ?_)
 refine VX.R ?_
 refine VX.C ?_ ?_ <;> intro h22 <;> simp [go_sem] at h22
 ·obtain ⟨D2, hD2, hd2, hl2, hp2⟩ := dN D1.2 4
  obtain ⟨D3, hD3, hd3, hl3, hp3⟩ := dN D2.2 50
  refine VX.S (fun K kk => by simp [go_sem]; refine .o [0] (hD2) ?_; simp [go_sem]; refine .o [0] (hD3) ?_; simp [go_sem]; refine .l (De D3.1) ?_; simp [go_sem]; exact kk) ?_
  refine VX.ret ⟨(⟨4, 0, D2.1, 0, (Bt D3.1)⟩, D3.2), Nx [0] (by simp [go_sem]) (by decide) (by simp) (by simp [go_sem]) ?_, ⟨by first | exact hb1.1.trans hd1.1 | exact hd6.1.trans hd1.1 | exact hd5.1.trans (hd4.1.trans hd1.1) | exact hd3.1.trans (hd2.1.trans hd1.1) | exact hd1.1, by first | exact hb1.2.1 | exact hp6 | exact hp5 | exact hp3 | exact hp1, by first | exact Gl rfl | exact Oh rfl | exact ⟨by simp; omega, Uk _⟩ | exact ⟨by have := hb1.2.2.1; dsimp only; omega, hb1.2.2.2⟩⟩⟩
  repeat' (first | exact .nil | refine .cons (by simp [go_sem]) ?_)
 refine VX.R ?_
 refine VX.C ?_ ?_ <;> intro h31 <;> simp [go_sem] at h31
 ·refine VX.R ?_
  refine VX.ret ⟨(⟨6, 0, 0, 0, []⟩, D1.2), Nx [0] (by simp [go_sem]) (by decide) (by simp) (by simp [go_sem]) ?_, ⟨by first | exact hb1.1.trans hd1.1 | exact hd6.1.trans hd1.1 | exact hd5.1.trans (hd4.1.trans hd1.1) | exact hd3.1.trans (hd2.1.trans hd1.1) | exact hd1.1, by first | exact hb1.2.1 | exact hp6 | exact hp5 | exact hp3 | exact hp1, by first | exact Gl rfl | exact Oh rfl | exact ⟨by simp; omega, Uk _⟩ | exact ⟨by have := hb1.2.2.1; dsimp only; omega, hb1.2.2.2⟩⟩⟩
  repeat' (first | exact .nil | refine .cons (by simp [go_sem]) ?_)
 refine VX.R ?_
 refine VX.C ?_ ?_ <;> intro h34 <;> simp [go_sem] at h34
 ·obtain ⟨D4, hD4, hd4, hl4, hp4⟩ := dN D1.2 3
  obtain ⟨D5, hD5, hd5, hl5, hp5⟩ := dN D4.2 9
  refine VX.S (fun K kk => by simp [go_sem]; refine .o [0] (hD4) ?_; simp [go_sem]; refine .o [0] (hD5) ?_; simp [go_sem]; exact kk) ?_
  refine VX.ret ⟨(⟨5, 0, D4.1, D5.1, []⟩, D5.2), Nx [0] (by simp [go_sem]) (by decide) (by simp) (by simp [go_sem]) ?_, ⟨by first | exact hb1.1.trans hd1.1 | exact hd6.1.trans hd1.1 | exact hd5.1.trans (hd4.1.trans hd1.1) | exact hd3.1.trans (hd2.1.trans hd1.1) | exact hd1.1, by first | exact hb1.2.1 | exact hp6 | exact hp5 | exact hp3 | exact hp1, by first | exact Gl rfl | exact Oh rfl | exact ⟨by simp; omega, Uk _⟩ | exact ⟨by have := hb1.2.2.1; dsimp only; omega, hb1.2.2.2⟩⟩⟩
  repeat' (first | exact .nil | refine .cons (by simp [go_sem]) ?_)
 refine VX.R ?_
 refine VX.C ?_ ?_ <;> intro h42 <;> simp [go_sem] at h42
 ·obtain ⟨D6, hD6, hd6, hl6, hp6⟩ := dN D1.2 120
  have hw1 := Bq (150 + D6.1)
  refine VX.S (fun K kk => by simp [go_sem, hw1]; refine .o [0] (hD6) ?_; simp [go_sem, hw1]; (repeat first | exact kk | refine aK ?_)) ?_
  refine VX.F 3 ?_
  simp [go_sem, -Prod.exists]
  refine VX.ret ⟨(⟨3, s, 0, 0, List.replicate ((150 + D6.1).toNat) 0⟩, D6.2), Nx [0] (by simp [go_sem]) (by decide) (by simp) (by simp [go_sem]) ?_, ⟨by first | exact hb1.1.trans hd1.1 | exact hd6.1.trans hd1.1 | exact hd5.1.trans (hd4.1.trans hd1.1) | exact hd3.1.trans (hd2.1.trans hd1.1) | exact hd1.1, by first | exact hb1.2.1 | exact hp6 | exact hp5 | exact hp3 | exact hp1, by first | exact Gl rfl | exact Oh rfl | exact ⟨by simp; omega, Uk _⟩ | exact ⟨by have := hb1.2.2.1; dsimp only; omega, hb1.2.2.2⟩⟩⟩
  repeat' (first | exact .nil | refine .cons (by simp [go_sem]) ?_)
 refine VX.skip ?_
 obtain ⟨B1, hB1, hb1⟩ := Lu D1.2 9 (by first | assumption | omega) (by first | assumption | omega) (by omega) (by omega)
 refine VX.S (fun K kk => by simp [go_sem]; refine .o [0] (hB1) ?_; simp [go_sem]; exact kk) ?_
 refine VX.F 3 ?_
 simp [go_sem, -Prod.exists]
 refine VX.ret ⟨(⟨3, s, 0, 0, B1.1⟩, B1.2), Nx [0] (by simp [go_sem]) (by decide) (by simp) (by simp [go_sem]) ?_, ⟨by first | exact hb1.1.trans hd1.1 | exact hd6.1.trans hd1.1 | exact hd5.1.trans (hd4.1.trans hd1.1) | exact hd3.1.trans (hd2.1.trans hd1.1) | exact hd1.1, by first | exact hb1.2.1 | exact hp6 | exact hp5 | exact hp3 | exact hp1, by first | exact Gl rfl | exact Oh rfl | exact ⟨by simp; omega, Uk _⟩ | exact ⟨by have := hb1.2.2.1; dsimp only; omega, hb1.2.2.2⟩⟩⟩
 repeat' (first | exact .nil | refine .cons (by simp [go_sem]) ?_)
theorem Adg {P : Program} {d : Option Tmp} {ty : TypeId} {os : List VO} {st : St} {K : St -> Prop} {f : FuncId} {xs : List Operand} {ts : Array TypeId} {v : AV} {want : Bool} {args' : List AV} {σa σr : List Ob} {res : AV} (sel : List Nat) (hp : B8 P f σa args' σr res) (hv : F7 v.sv = true /\ (v.sb && (C4 v.sv == want)) = true) (hb : (xs.all fun x => (st.raw x).sb) = true)
 (hσ : (sel.map fun id => ((st.o id).passR st.o fun id => idx id sel 0).low) = σa) (ha : Gk (D0 st.o (fun id => idx id sel 0) (xs.map fun x => (st.raw x).sv)) = args') (hc : Vs (xs.map fun x => (st.raw x).sv) st sel σr res) (h : runs P os (st.after d (.gd true (J2 sel st.ob.length σr res).1) (J2 sel st.ob.length σr res).2) K) :
  Wx P d (.call ⟨.value (.func f), xs.toArray, ts⟩) ty v want os st K :=
 Aht hv ⟨_, ⟨⟨rfl, by simpa using hb⟩, .inr ⟨f, [], sel, σr, res, rfl, by simpa using Tw.of sel hp hσ ha hc _, rfl⟩⟩, h⟩
theorem EvQ.one {e : TEv} (h : EvQ e) : ∀ x ∈ [e], EvQ x := fun x hx => by simp at hx; rw [hx]; exact h
theorem At5 {kd a s n : Int} {h : (Bt n).length <= 1000} {args : List Int} (hl : args.length <= 20) : MkQ ⟨kd, Ca a s (Bt n) h, args, []⟩ := ⟨(Af8 (h := h)).1, (Af8 (h := h)).2, hl, rfl⟩
theorem At7 {j : Df} (h : Al3 j) : 1 <= j.phs.length := by
 obtain ⟨s, hs, x, _, hl, _⟩ := h
 rw [hl]
 have : ∀ s ∈ Sr, 1 <= s.length := by decide +kernel
 exact this s hs
theorem EvQ.app {l : List TEv} {e : TEv} (hl : ∀ x ∈ l, EvQ x) (h : EvQ e) : ∀ x ∈ l ++ [e], EvQ x := fun x hx => by
 rcases A0.1 hx with h1 | h1
 ·exact hl x h1
 exact EvQ.one h x h1
theorem mkF {m : B3} (h : MkQ m) : ∃ d : List Int, PP 18 [] [m.g] [.row 5 1 false false (tY d)] (.own 0 d.length) /\ d.length <= 210 /\ By d := by
 obtain ⟨d, h1, h2, h3⟩ := Oq m (by rw [h.1]; decide) (Ak h.2.2.1 (by decide)) (by rw [h.2.2.2]; exact Ae _)
 exact ⟨d, h1, h2, h3 h.2.1 (by rw [h.2.2.2]; exact Kt)⟩
theorem B8.bright {P : Program} {f : FuncId} {σa : List Ob} {args : List AV} {ty k : Nat} {fr fz : Bool} {es : List (List T)} {res : AV} (h : B8 P f σa args [.row ty k fr fz es] res) (hp : es.all (fun e => e.all T.plain) = true) : B8 P f σa args [.row ty k true fz es] res :=
 ⟨h.1, fun E β us hn ho hβ r => (h.2 E β us hn ho hβ r).mono fun e w' ⟨v, β', he, r'⟩ => ⟨v, β', he, (r'.flag (id := 0) rfl (fun _ => .inr hp) (fun h => h)).1⟩⟩
theorem Asw {m : B3} (h : MkQ m) : ∃ d : List Int, PP 18 [] [m.g] [] (.imm true 1 (tY d)) /\ d.length <= 210 /\ By d := by
 obtain ⟨d, h1, h2⟩ := mkF h
 exact ⟨d, B8.froz (es := tY d) (by rw [A2]; exact h1.bright (by simp [T.plain])), h2⟩
theorem J5 (k : Cf) (c : Dy) (cal : Bool) (h : k.l.length <= 300) (h0 : 0 <= k.pos) (hc : Yv 63 c) : Cx 13 [.box 84 (k.a false)] [.ptr 0 0, c.g, .lb cal] (fun d : List TEv × Cf => [.box 84 (d.2.a false)]) (fun d => .mEv d.1) (fun d => d.2.l = k.l /\ 0 <= d.2.pos /\ (2 <= d.1.length /\ d.1.length <= 200) /\ ∀ e ∈ d.1, EvQ e) := by
 refine Pr Tryz.func13 ?_
 have hag : c.ags.length <= 1000000 := Ak hc.na.2 (by decide)
 have hna := hc.na
 have hph : ∀ j ∈ c.juns, j.phs.length <= 8 /\ 1 <= j.phs.length := fun j hj => ⟨(hc.hj j hj).2, At7 (hc.jun j hj)⟩
 obtain ⟨Y1, cY1, qY1⟩ := got (Pc c hag hc.hs)
 have hSv := cY1
 have hSq := qY1
 generalize Y1 = NS at hSv hSq
 iterate 2 refine VX.R ?_
 refine VX.L ok0 (hSv) <| .seq ?_
 refine VX.R <| .block ?_
 refine VX.own0 7 46 5 (by decide) (k' := 5) (by simp [go_sem]) ?_
 simp [go_sem, -Prod.exists]
 refine VX.rangeE NS.toNat (fun i1 (y1 : (List TEv)) => ⟨[(0, .ptr 0 0), (2, .lb cal), (4, .ptr 1 0), (7, .own 2 y1.length), (8, .li NS), (17, .li NS), (18, .li i1)], [.box 84 [.mI k.l, .li k.pos], .box 30 [.mJun c.juns, .mAg c.ags, .li c.per, .li c.cap, .li c.hold, .li c.lock], .row 46 5 false false (tEv y1)]⟩) (fun i1 y1 => y1.length = i1 /\ ∀ e ∈ y1, EvQ e) ([]) (wk ok0 [0, 1, 2]) (⟨rfl, fun e he => by cases he⟩) fun i1 y1 hi1 hy1 => ?_
 refine VX.R <| .seq ?_
 refine VX.C ?_ ?_ <;> intro h19 <;> simp [go_sem] at h19
 ·refine VX.skip <| .seq <| .block <| .R ?_
  refine VX.H1 ok0 ?_
  refine VX.R1 ?_
  exact ⟨by omega, (y1 ++ ([⟨1, i1, 0, 0, []⟩])), ⟨by simp; omega, EvQ.app hy1.2 (Gl rfl)⟩, wk (Bq ((i1 : Int) + 1)) [0, 1, 2]⟩
 refine VX.exit <| .seq <| .R <| .block ?_
 refine VX.rangeE c.ags.length (fun i2 (y2 : (List TEv)) => ⟨[(0, .ptr 0 0), (2, .lb cal), (4, .ptr 1 0), (7, .own 2 y2.length), (8, .li NS), (29, .li c.ags.length), (30, .li i2)], [.box 84 [.mI k.l, .li k.pos], .box 30 [.mJun c.juns, .mAg c.ags, .li c.per, .li c.cap, .li c.hold, .li c.lock], .row 46 5 false false (tEv y2)]⟩) (fun i2 y2 => y2.length <= 6 + 4 * i2 /\ ∀ e ∈ y2, EvQ e) (y1) (wk ok0 [0, 1, 2]) (⟨by omega, hy1.2⟩) fun i2 y2 hi2 hy2 => ?_
 refine VX.R <| .seq ?_
 refine VX.C ?_ ?_ <;> intro h31 <;> simp [go_sem] at h31
 ·refine VX.skip <| .seq <| .block <| .R ?_
  refine VX.L ok0 (De (IntKind.i64.wrap (2000 + (IntKind.i64.wrap (10 * i2))))) ?_
  refine VX.R <| .block ?_
  refine VX.rangeE 3 (fun i3 (y3 : (List TEv)) => ⟨[(0, .ptr 0 0), (2, .lb cal), (4, .ptr 1 0), (7, .own 2 y3.length), (8, .li NS), (10, .li i2), (29, .li c.ags.length), (30, .li i2), (42, .li i3)], [.box 84 [.mI k.l, .li k.pos], .box 30 [.mJun c.juns, .mAg c.ags, .li c.per, .li c.cap, .li c.hold, .li c.lock], .row 46 5 false false (tEv y3)]⟩) (fun i3 y3 => y3.length <= 7 + 4 * i2 + i3 /\ ∀ e ∈ y3, EvQ e) (y2 ++ ([⟨4, 0, i2, 0, (Bt (IntKind.i64.wrap (2000 + (IntKind.i64.wrap (10 * i2)))))⟩])) (wk ok0 [0, 1, 2]) (⟨by simp; omega, EvQ.app hy2.2 (Oh rfl)⟩) fun i3 y3 hi3 hy3 => ?_
  refine VX.R <| .seq ?_
  refine VX.C ?_ ?_ <;> intro h43 <;> simp [go_sem] at h43
  ·refine VX.skip <| .seq <| .block <| .R ?_
   obtain ⟨FR, hFR, hfr⟩ := Asw (m := ⟨4, Ca i2 0 (Bt (IntKind.i64.wrap (1000 + (i2 : Int)))) (Agg _), [(i3 : Int), Int.tmod i3 2], []⟩) (At5 (by simp))
   refine VX.S1 (fun K kk => by simp [go_sem]; refine .l (Ph c i2 hag) ?_; simp [go_sem]; refine .l (De (IntKind.i64.wrap (1000 + i2))) ?_; simp [go_sem]; refine .lo (Ez i2 0 (Bt (IntKind.i64.wrap (1000 + i2))) (Agg _)) rfl (by simp [AV.cln, Cp]) ?_; simp [go_sem]; (repeat refine aK ?_); refine .l (hFR) ?_; simp [go_sem]; (repeat first | exact kk | refine aK ?_)) ?_
   refine VX.R1 ?_
   exact ⟨by omega, (y3 ++ [⟨3, Ju c (i2 : Int) hag, 0, 0, FR⟩]), ⟨by simp; omega, EvQ.app hy3.2 ⟨by dsimp only; omega, hfr.2⟩⟩, wk (Bq ((i3 : Int) + 1)) [0, 1, 2]⟩
  refine VX.exit <| .R1 ?_
  exact ⟨by omega, (y3), ⟨by omega, hy3.2⟩, wk (Bq ((i2 : Int) + 1)) [0, 1, 2]⟩
 refine VX.exit <| .H ok0 <| .seq <| .block ?_
 refine VX.whileE (fun (y4 : (List Int) × Int × (List TEv)) => ⟨[(0, .ptr 0 0), (2, .lb cal), (4, .ptr 1 0), (7, .own 2 y4.2.2.length), (8, .li NS)], [.box 84 [.mI y4.1, .li y4.2.1], .box 30 [.mJun c.juns, .mAg c.ags, .li c.per, .li c.cap, .li c.hold, .li c.lock], .row 46 5 false false (tEv y4.2.2)]⟩) (fun y4 => y4.1 = k.l /\ 0 <= y4.2.1 /\ (1 <= y4.2.2.length /\ y4.2.2.length <= 160) /\ ∀ e ∈ y4.2.2, EvQ e) (fun y4 => 150 - y4.2.2.length) (k.l, k.pos, y2 ++ ([⟨6, 0, 0, 0, []⟩])) (wk ok0 [0, 1, 2]) (⟨rfl, h0, ⟨by simp, by simp; omega⟩, EvQ.app hy2.2 (Gl rfl)⟩) fun y4 hy4 => ?_
 refine VX.seq ?_
 have hyl : (⟨y4.1, y4.2.1⟩ : Cf).l.length <= 300 := by show y4.1.length <= 300; rw [hy4.1]; exact h
 have hyp : 0 <= (⟨y4.1, y4.2.1⟩ : Cf).pos := hy4.2.1
 have hyk : (⟨y4.1, y4.2.1⟩ : Cf).l = k.l := hy4.1
 obtain ⟨⟨LB, LD⟩, hLF, hlf⟩ := K0 ⟨y4.1, y4.2.1⟩ hyl
 dsimp only at hlf hLF
 subst hlf
 refine VX.S (fun K kk => by simp [go_sem]; refine .o [0] (hLF) ?_; simp [go_sem]; exact kk) ?_
 refine VX.C ?_ ?_ <;> intro h75 <;> simp [go_sem] at h75
 ·refine VX.skip <| .block ?_
  obtain ⟨NN, hNN⟩ : ∃ NN, (if 1 < NS then NS else 1) = NN := ⟨_, rfl⟩
  have hnb : 1 <= NN /\ NN <= 100 := by rw [<- hNN]; split <;> omega
  obtain ⟨D1, hD1, hd1, hl1, hp1⟩ := dN ⟨y4.1, y4.2.1⟩ NN
  have hk1 : D1.2.l = k.l := hd1.1.trans (by assumption)
  refine VX.S (fun K kk => by simp [go_sem, hNN]; refine .o [0] (hD1) ?_; simp [go_sem, hNN]; exact kk) ?_
  obtain ⟨D2, hD2, hd2, hl2, hp2⟩ := dN D1.2 12
  have hk2 : D2.2.l = k.l := hd2.1.trans (by assumption)
  refine VX.S (fun K kk => by simp [go_sem]; refine .o [0] (hD2) ?_; simp [go_sem]; exact kk) <| .block ?_
  refine VX.orcases2 (by rfl) fun K1 hK1 => ?_
  simp [go_sem]
  refine hK1 _ ⟨_, _, _, _, _, _, _, _, rfl, .more (by decide) rfl rfl (.more (by decide) rfl rfl (.one (by decide) rfl rfl)), by decide, rfl, by simp [go_sem]; rfl, by simp [go_sem]; rfl, by simp [go_sem], ?_⟩; clear hK1
  refine VX.C ?_ ?_ <;> intro h122 <;> simp [go_sem] at h122
  ·refine VX.H1 ok0 ?_
   refine ⟨(D2.2.l, D2.2.pos, y4.2.2 ++ ([⟨6, 0, 0, 0, []⟩])), ?_, ?_, [0, 1, 2], Bp (by decide) ?_ ?_, by simp⟩
   ·(first | (simp; omega) | omega)
   ·exact ⟨hk2, hp2, ⟨by simp, by simp; omega⟩, EvQ.app hy4.2.2.2 (Gl rfl)⟩
   all_goals simp [go_sem]
  refine VX.R ?_
  refine VX.C ?_ ?_ <;> intro h131 <;> simp [go_sem] at h131
  ·obtain ⟨D3, hD3, hd3, hl3, hp3⟩ := dN D2.2 6
   have hk3 : D3.2.l = k.l := hd3.1.trans (by assumption)
   refine VX.S (fun K kk => by simp [go_sem]; refine .o [0] (hD3) ?_; simp [go_sem]; exact kk) <| .block ?_
   refine VX.whileE (fun (y5 : (List TEv) × Int) => ⟨[(0, .ptr 0 0), (2, .lb cal), (4, .ptr 1 0), (7, .own 2 y5.1.length), (8, .li NS), (13, .li y5.2)], [.box 84 [.mI D3.2.l, .li D3.2.pos], .box 30 [.mJun c.juns, .mAg c.ags, .li c.per, .li c.cap, .li c.hold, .li c.lock], .row 46 5 false false (tEv y5.1)]⟩) (fun y5 => y5.1.length + y5.2 = y4.2.2.length + D3.1 /\ -1 <= y5.2 /\ ∀ e ∈ y5.1, EvQ e) (fun y5 => (y5.2 + 1).toNat) (y4.2.2, D3.1) (wk ok0 [0, 1, 2]) (⟨by simp, by dsimp only; omega, hy4.2.2.2⟩) fun y5 hy5 => ?_
   refine VX.seq <| .R ?_
   refine VX.C ?_ ?_ <;> intro h136 <;> simp [go_sem] at h136
   ·refine VX.skip <| .seq <| .block <| .H1 ok0 ?_
    have hw1 := Bq (y5.2 - 1 : Int)
    refine VX.H1 hw1 ?_
    refine ⟨(y5.1 ++ ([⟨6, 0, 0, 0, []⟩]), (y5.2 - 1)), ?_, ?_, [0, 1, 2], Bp (by decide) ?_ ?_, by simp⟩
    ·(dsimp only; omega)
    ·exact ⟨by simp; omega, by dsimp only; omega, EvQ.app hy5.2.2 (Gl rfl)⟩
    all_goals simp [go_sem, hw1]
   refine VX.exit ?_
   refine ⟨(D3.2.l, D3.2.pos, y5.1), ?_, ?_, [0, 1, 2], Bp (by decide) ?_ ?_, by simp⟩
   ·(first | (simp; omega) | omega)
   ·exact ⟨hk3, hp3, ⟨by dsimp only; omega, by dsimp only; omega⟩, hy5.2.2⟩
   all_goals simp [go_sem]
  refine VX.R ?_
  refine VX.C ?_ ?_ <;> intro h143 <;> simp [go_sem] at h143
  ·obtain ⟨O1, hO1, ho1⟩ := Lt D2.2 c D1.1 cal (by assumption) (by assumption)
   refine VX.S1 (fun K kk => by simp [go_sem]; refine .o [0] (hO1) ?_; simp [go_sem]; (repeat first | exact kk | refine aK ?_)) ?_
   refine ⟨(O1.2.l, O1.2.pos, y4.2.2 ++ ([O1.1])), ?_, ?_, [0, 1, 2], Bp (by decide) ?_ ?_, by simp⟩
   ·(first | (simp; omega) | omega)
   ·exact ⟨ho1.1.trans hk2, ho1.2.1, ⟨by simp, by simp; omega⟩, EvQ.app hy4.2.2.2 ho1.2.2⟩
   all_goals simp [go_sem]
  obtain ⟨Y2, cY2, qY2⟩ := got (Oo c D1.1 hag)
  obtain ⟨M1, hM1, hm1⟩ := F3 D2.2 c Y2 cal (by assumption) (by assumption) hc.nj hph
  have hlM1 : M1.2.l.length <= 300 := by rw [hm1.1]; assumption
  have hpM1 := hm1.2.1
  have hkM1 : M1.2.l = k.l := hm1.1.trans (by assumption)
  obtain ⟨F1, hF1, hf1⟩ := mkF hm1.2.2
  refine VX.E (fun K kk => by simp [go_sem]; refine .l cY2 ?_; simp [go_sem]; refine .o [0] (hM1) ?_; simp [go_sem]; refine .l (hF1) ?_; simp [go_sem]; exact kk) <| .seq ?_
  obtain ⟨D4, hD4, hd4, hl4, hp4⟩ := dN M1.2 3
  have hk4 : D4.2.l = k.l := hd4.1.trans (by assumption)
  refine VX.S (fun K kk => by simp [go_sem]; refine .o [0] (hD4) ?_; simp [go_sem]; exact kk) ?_
  refine VX.C ?_ ?_ <;> intro h92 <;> simp [go_sem] at h92
  ·obtain ⟨M2, hM2, hm2⟩ := F3 D4.2 c Y2 cal (by assumption) (by assumption) hc.nj hph
   have hlM2 : M2.2.l.length <= 300 := by rw [hm2.1]; assumption
   have hpM2 := hm2.2.1
   have hkM2 : M2.2.l = k.l := hm2.1.trans (by assumption)
   obtain ⟨F2, hF2, hf2⟩ := Asw hm2.2.2
   refine VX.E1 (fun K kk => by simp [go_sem]; refine .l cY2 ?_; simp [go_sem]; refine .o [0] (hM2) ?_; simp [go_sem]; refine .l (hF2) ?_; simp [go_sem]; (repeat first | exact kk | refine aK ?_)) <| .seq ?_
   by_cases hc25 : cal = false
   ·have hcl : (M2.2 : Cf).l.length <= 300 := by assumption
    have hcp : 0 <= (M2.2 : Cf).pos := by assumption
    have hck : (M2.2 : Cf).l = k.l := by assumption
    have hB25 : ((F1 ++ F2)).length <= 1000 /\ By ((F1 ++ F2)) := by first | exact ⟨by omega, hf1.2⟩ | exact ⟨by simp; omega, hf1.2.app hf2.2⟩
    obtain ⟨D5, hD5, hd5, hl5, hp5⟩ := dN M2.2 7
    have hk5 : D5.2.l = k.l := hd5.1.trans (by assumption)
    refine VX.Z hc25 3 ?_
    refine VX.S (fun K kk => by simp [go_sem, hc25]; refine Adg [0] (hD5) (by simp [go_sem, hc25]) (by simp [go_sem, hc25]) (by simp [go_sem, hc25]) (by simp [go_sem, hc25]) (by constructor <;> simp [go_sem]) ?_; simp [go_sem, hc25]; exact kk) ?_
    refine VX.C ?_ ?_ <;> intro h109 <;> simp [go_sem] at h109
    ·obtain ⟨D6, hD6, hd6, hl6, hp6⟩ := dN D5.2 99
     have hk6 : D6.2.l = k.l := hd6.1.trans (by assumption)
     obtain ⟨D7, hD7, hd7, hl7, hp7⟩ := dN D6.2 1024
     have hk7 : D7.2.l = k.l := hd7.1.trans (by assumption)
     have hq26 := Iu ((F1 ++ F2)) D6.1 D7.1 hB25.1
     refine VX.S1 (fun K kk => by simp [go_sem, hc25]; refine .o [0] (hD6) ?_; simp [go_sem, hc25]; refine .o [0] (hD7) ?_; simp [go_sem, hc25]; refine .lo (It (F1 ++ F2) D6.1 D7.1 hB25.1) (by simp [go_sem]) (by simp [AV.cln, Cp]) ?_; simp [go_sem, hc25]; exact kk) ?_
     refine VX.H1 hc25 ?_
     refine ⟨(D7.2.l, D7.2.pos, y4.2.2 ++ ([⟨3, D1.1, 0, 0, (Dw (F1 ++ F2) D6.1 D7.1 hB25.1)⟩])), ?_, ?_, [0, 1, 2], Bp (by decide) ?_ ?_, by simp⟩
     ·(first | (simp; omega) | omega)
     ·exact ⟨by assumption, by assumption, ⟨by simp, by simp; omega⟩, EvQ.app hy4.2.2.2 ⟨by dsimp only; omega, hq26.2 hB25.2⟩⟩
     all_goals simp [go_sem, hc25]
    refine VX.skip <| .H1 hc25 ?_
    refine ⟨(D5.2.l, D5.2.pos, y4.2.2 ++ ([⟨3, D1.1, 0, 0, F1 ++ F2⟩])), ?_, ?_, [0, 1, 2], Bp (by decide) ?_ ?_, by simp⟩
    ·(first | (simp; omega) | omega)
    ·exact ⟨by assumption, by assumption, ⟨by simp, by simp; omega⟩, EvQ.app hy4.2.2.2 ⟨by dsimp only; omega, hB25.2⟩⟩
    all_goals simp [go_sem, hc25]
   have hcl : (M2.2 : Cf).l.length <= 300 := by assumption
   have hcp : 0 <= (M2.2 : Cf).pos := by assumption
   have hck : (M2.2 : Cf).l = k.l := by assumption
   have hB25 : ((F1 ++ F2)).length <= 1000 /\ By ((F1 ++ F2)) := by first | exact ⟨by omega, hf1.2⟩ | exact ⟨by simp; omega, hf1.2.app hf2.2⟩
   refine VX.Z hc25 3 ?_
   refine VX.S (fun K kk => by simp [go_sem, hc25]; refine Vq (by simp [go_sem, hc25]) ?_; simp [go_sem, hc25]; exact kk) ?_
   refine VX.C ?_ ?_ <;> intro h109 <;> simp [go_sem] at h109
   refine VX.skip <| .H1 hc25 ?_
   refine ⟨(M2.2.l, M2.2.pos, y4.2.2 ++ ([⟨3, D1.1, 0, 0, F1 ++ F2⟩])), ?_, ?_, [0, 1, 2], Bp (by decide) ?_ ?_, by simp⟩
   ·(first | (simp; omega) | omega)
   ·exact ⟨by assumption, by assumption, ⟨by simp, by simp; omega⟩, EvQ.app hy4.2.2.2 ⟨by dsimp only; omega, hB25.2⟩⟩
   all_goals simp [go_sem, hc25]
  refine VX.skip <| .seq ?_
  by_cases hc25 : cal = false
  ·have hcl : (D4.2 : Cf).l.length <= 300 := by assumption
   have hcp : 0 <= (D4.2 : Cf).pos := by assumption
   have hck : (D4.2 : Cf).l = k.l := by assumption
   have hB25 : (F1).length <= 1000 /\ By (F1) := by first | exact ⟨by omega, hf1.2⟩ | exact ⟨by simp; omega, hf1.2.app hf2.2⟩
   obtain ⟨D5, hD5, hd5, hl5, hp5⟩ := dN D4.2 7
   have hk5 : D5.2.l = k.l := hd5.1.trans (by assumption)
   refine VX.Z hc25 3 ?_
   refine VX.S (fun K kk => by simp [go_sem, hc25]; refine Adg [0] (hD5) (by simp [go_sem, hc25]) (by simp [go_sem, hc25]) (by simp [go_sem, hc25]) (by simp [go_sem, hc25]) (by constructor <;> simp [go_sem]) ?_; simp [go_sem, hc25]; exact kk) ?_
   refine VX.C ?_ ?_ <;> intro h109 <;> simp [go_sem] at h109
   ·obtain ⟨D6, hD6, hd6, hl6, hp6⟩ := dN D5.2 99
    have hk6 : D6.2.l = k.l := hd6.1.trans (by assumption)
    obtain ⟨D7, hD7, hd7, hl7, hp7⟩ := dN D6.2 1024
    have hk7 : D7.2.l = k.l := hd7.1.trans (by assumption)
    have hq26 := Iu (F1) D6.1 D7.1 hB25.1
    refine VX.S1 (fun K kk => by simp [go_sem, hc25]; refine .o [0] (hD6) ?_; simp [go_sem, hc25]; refine .o [0] (hD7) ?_; simp [go_sem, hc25]; refine .lo (It F1 D6.1 D7.1 hB25.1) (by simp [go_sem]) (by simp [AV.cln, Cp]) ?_; simp [go_sem, hc25]; exact kk) ?_
    refine VX.H1 hc25 ?_
    refine ⟨(D7.2.l, D7.2.pos, y4.2.2 ++ ([⟨3, D1.1, 0, 0, (Dw F1 D6.1 D7.1 hB25.1)⟩])), ?_, ?_, [0, 1, 2], Bp (by decide) ?_ ?_, by simp⟩
    ·(first | (simp; omega) | omega)
    ·exact ⟨by assumption, by assumption, ⟨by simp, by simp; omega⟩, EvQ.app hy4.2.2.2 ⟨by dsimp only; omega, hq26.2 hB25.2⟩⟩
    all_goals simp [go_sem, hc25]
   refine VX.skip <| .H1 hc25 ?_
   refine ⟨(D5.2.l, D5.2.pos, y4.2.2 ++ ([⟨3, D1.1, 0, 0, F1⟩])), ?_, ?_, [0, 1, 2], Bp (by decide) ?_ ?_, by simp⟩
   ·(first | (simp; omega) | omega)
   ·exact ⟨by assumption, by assumption, ⟨by simp, by simp; omega⟩, EvQ.app hy4.2.2.2 ⟨by dsimp only; omega, hB25.2⟩⟩
   all_goals simp [go_sem, hc25]
  have hcl : (D4.2 : Cf).l.length <= 300 := by assumption
  have hcp : 0 <= (D4.2 : Cf).pos := by assumption
  have hck : (D4.2 : Cf).l = k.l := by assumption
  have hB25 : (F1).length <= 1000 /\ By (F1) := by first | exact ⟨by omega, hf1.2⟩ | exact ⟨by simp; omega, hf1.2.app hf2.2⟩
  refine VX.Z hc25 3 ?_
  refine VX.S (fun K kk => by simp [go_sem, hc25]; refine Vq (by simp [go_sem, hc25]) ?_; simp [go_sem, hc25]; exact kk) ?_
  refine VX.C ?_ ?_ <;> intro h109 <;> simp [go_sem] at h109
  refine VX.skip <| .H1 hc25 ?_
  refine ⟨(D4.2.l, D4.2.pos, y4.2.2 ++ ([⟨3, D1.1, 0, 0, F1⟩])), ?_, ?_, [0, 1, 2], Bp (by decide) ?_ ?_, by simp⟩
  ·(first | (simp; omega) | omega)
  ·exact ⟨by assumption, by assumption, ⟨by simp, by simp; omega⟩, EvQ.app hy4.2.2.2 ⟨by dsimp only; omega, hB25.2⟩⟩
  all_goals simp [go_sem, hc25]
 refine VX.exit <| .H ok0 ?_
 refine VX.Z ok0 2 ?_
 exact .ret ⟨(y4.2.2 ++ ([⟨6, 0, 0, 0, []⟩]), (⟨y4.1, y4.2.1⟩ : Cf)), rW ok0 [0], ⟨hy4.1, hy4.2.1, ⟨by simp; omega, by first | (simp; done) | (simp; omega)⟩, EvQ.app hy4.2.2.2 (Gl rfl)⟩⟩
theorem Ade (l : List Cn) (e : TEv) : (Gj l e).length = l.length := by
 unfold Gj
 split
 ·split <;> simp
 rfl
theorem Ai5 (l : List Cn) {a b : TEv} (h : a.se ≠ b.se) : Gj (Gj l a) b = Gj (Gj l b) a := by
 have key : ∀ (l : List Cn) (a : TEv), ¬ 0 <= a.se -> Gj l a = l := fun l a h => by unfold Gj; rw [if_neg h]
 by_cases ha : 0 <= a.se
 ·by_cases hb : 0 <= b.se
  ·have hne : a.se.toNat ≠ b.se.toNat := by omega
   cases hx : l[a.se.toNat]? with
   | none =>
    have e1 : ∀ l' : List Cn, l'.length = l.length -> Gj l' a = l' := fun l' hl => by
     unfold Gj
     have : l'[a.se.toNat]? = none := Ar (by have := List.getElem?_eq_none_iff.1 hx; omega)
     rw [if_pos ha, this]
    rw [e1 l rfl, e1 _ (Ade l b)]
   | some x =>
    cases hy : l[b.se.toNat]? with
    | none =>
     have e1 : ∀ l' : List Cn, l'.length = l.length -> Gj l' b = l' := fun l' hl => by
      unfold Gj
      have : l'[b.se.toNat]? = none := Ar (by have := List.getElem?_eq_none_iff.1 hy; omega)
      rw [if_pos hb, this]
     rw [e1 l rfl, e1 _ (Ade l a)]
    | some y =>
     rw [Ps ha hx, Ps hb hy, Ps (s := y) hb (by rw [A9 hne]; exact hy), Ps (s := x) ha (by rw [A9 hne.symm]; exact hx), List.set_comm _ _ hne]
  rw [key _ b hb, key _ b hb]
 rw [key _ a ha, key _ a ha]
theorem Agi {b : Hd} {x y : TEv} (hb : Ns b) (hx : EvQ x) (hy : EvQ y) (kx : x.kind <= 3) (ky : y.kind <= 3) (l : List TEv) : Hq b (x :: y :: l) = Hq ⟨b.city, Gj (Gj b.sess x) y⟩ l := by
 have h1 := Hx b x hb hx
 have e1 : doF b x = (⟨b.city, Gj b.sess x⟩, ⟨[], []⟩, false) := by rw [Ui hb hx]; exact h1.few kx
 have hb1 : Ns ⟨b.city, Gj b.sess x⟩ := by have := h1.i; rwa [h1.few kx] at this
 have h2 := Hx _ y hb1 hy
 have e2 : doF ⟨b.city, Gj b.sess x⟩ y = (⟨b.city, Gj (Gj b.sess x) y⟩, ⟨[], []⟩, false) := by rw [Ui hb1 hy]; exact h2.few ky
 rw [Hq, e1]
 simp only [Bl, if_false]
 rw [Hq, e2]
 simp only [Bl, if_false]
theorem Acv : ∀ (p : List TEv) {b : Hd} {x y : TEv} (l : List TEv), Ns b -> (∀ e ∈ p, EvQ e) -> EvQ x -> EvQ y -> x.kind <= 3 -> y.kind <= 3 -> x.se ≠ y.se -> Hq b (p ++ x :: y :: l) = Hq b (p ++ y :: x :: l)
 | [], b, x, y, l, hb, _, hx, hy, kx, ky, hne => by
  rw [List.nil_append, List.nil_append, Agi hb hx hy kx ky, Agi hb hy hx ky kx, Ai5 b.sess hne]
 | e :: p, b, x, y, l, hb, hp, hx, hy, kx, ky, hne => by
  have he := hp e (by simp)
  have hd := (Hx b e hb he).i
  have ih := Acv p (b := (doF b e).1) l (by rw [Ui hb he]; exact hd) (fun e' h' => hp e' (by simp [h'])) hx hy kx ky hne
  rw [List.cons_append, List.cons_append, Hq, Hq, ih]
theorem Am2 {l : List TEv} {b : Hd} {i : Nat} {x y : TEv} (hb : Ns b) (hl : ∀ e ∈ l, EvQ e) (hx : l[i]? = some x) (hy : l[i + 1]? = some y) (kx : x.kind <= 3) (ky : y.kind <= 3) (hne : x.se ≠ y.se) : Hq b ((l.set i y).set (i + 1) x) = Hq b l := by
 have hi := (Ab.1 hx).1
 have hi1 := (Ab.1 hy).1
 have e0 : l = l.take i ++ x :: y :: l.drop (i + 2) := by
  have h1 : l.drop i = x :: l.drop (i + 1) := by rw [List.drop_eq_getElem_cons hi]; congr 1; rw [Aa hi] at hx; simpa using hx
  have h2 : l.drop (i + 1) = y :: l.drop (i + 2) := by rw [List.drop_eq_getElem_cons hi1]; congr 1; rw [Aa hi1] at hy; simpa using hy
  rw [<- h2, <- h1, List.take_append_drop]
 have hlen : (l.take i).length = i := by simp; omega
 have e1 : (l.set i y).set (i + 1) x = l.take i ++ y :: x :: l.drop (i + 2) := by
  apply List.ext_getElem?
  intro j
  by_cases h1 : j < i
  ·rw [A9 (by omega), A9 (by omega), Au (by omega), Ag h1]
  rw [Ao (by omega), hlen]
  by_cases h2 : j = i
  ·subst h2; rw [A9 (by omega), Bg (by omega), Nat.sub_self]; rfl
  by_cases h3 : j = i + 1
  ·subst h3; rw [Bg (by simp; omega), show i + 1 - i = 1 by omega]; rfl
  rw [A9 (by omega), A9 (by omega)]
  obtain ⟨k, rfl⟩ : ∃ k, j = i + 2 + k := ⟨j - (i + 2), by omega⟩
  rw [show i + 2 + k - i = k + 1 + 1 by omega, Bb, Bb, Bd]
 rw [e1, <- Acv (l.take i) (l.drop (i + 2)) hb (fun e he => hl e (Aq he)) (hl x (Ac hx)) (hl y (Ac hy)) kx ky hne, <- e0]
theorem Amt {l : List TEv} {i : Nat} {x y : TEv} (hl : ∀ e ∈ l, EvQ e) (hx : EvQ x) (hy : EvQ y) : ∀ e ∈ (l.set i y).set (i + 1) x, EvQ e := fun e he => by
 rcases Bi he with h | rfl
 ·rcases Bi h with h | rfl
  ·exact hl e h
  exact hy
 exact hx
theorem Alm {c : Dy} (hb : Yw c) (hp : L4 c = true) (hJ : ∀ j ∈ c.juns, Ln j /\ j.phs.length <= 8) (hA : ∀ a ∈ c.ags, a.sec.length <= 1000000 /\ a.lims.length <= 1000000 /\ a.rq <= 4) (hl1 : c.juns.length <= 4) (hl2 : c.ags.length <= 4) (hS : ∀ x ∈ c.ags, 1 <= x.se /\ x.se <= 2) (h1 : c.ags.length = 1) (hse : ∀ a ∈ c.ags, a.se = 1) :
 ∃ b f, Hq (Da c hb hp hJ hA hl1 hl2 hS) [⟨1, 0, 0, 0, []⟩, ⟨6, 0, 0, 0, []⟩] = [⟨[b], f⟩] /\ 10 < b.length := by
 obtain ⟨q1, q2, q3, q4, q5⟩ := Mw c hb hp hJ hA hl1 hl2 hS
 generalize Da c hb hp hJ hA hl1 hl2 hS = B at q1 q2 q3 q4 q5
 obtain ⟨ag, hag⟩ : ∃ a, c.ags = [a] := by
  match c.ags, h1 with
  | [a], _ => exact ⟨a, rfl⟩
 have hse1 : ag.se = 1 := hse ag (by rw [hag]; simp)
 have hsl : B.sess.length = 1 := by
  rw [hag] at q4
  simp [hse1] at q4
  omega
 obtain ⟨s0, hs0⟩ : ∃ s, B.sess = [s] := by
  match B.sess, hsl with
  | [s], _ => exact ⟨s, rfl⟩
 have hE1 : EvQ ⟨1, 0, 0, 0, []⟩ := Gl rfl
 have hE2 : EvQ ⟨6, 0, 0, 0, []⟩ := Gl rfl
 have d1 := Hx B ⟨1, 0, 0, 0, []⟩ q1 hE1
 have hsq : Ahs s0 := q1.ses s0 (by rw [hs0]; simp)
 have hds : Gj B.sess ⟨1, 0, 0, 0, []⟩ = [Ev s0 hsq.1] := by
  rw [Ps (s := s0) (by decide) (by rw [hs0]; rfl), Amu hsq (by simp) rfl, hs0]
  rfl
 have f1 := d1.few (by decide)
 rw [hds] at f1
 have e1 : doF B ⟨1, 0, 0, 0, []⟩ = (⟨B.city, [Ev s0 hsq.1]⟩, ⟨[], []⟩, false) := by rw [Ui q1 hE1]; exact f1
 have i1 : Ns ⟨B.city, [Ev s0 hsq.1]⟩ := by have := d1.i; rwa [f1] at this
 have d2 := Hx _ ⟨6, 0, 0, 0, []⟩ i1 hE2
 obtain ⟨t1, t2, t3, t4⟩ := d2.tick rfl
 rw [<- Ui i1 hE2] at t1 t2 t3 t4
 rw [Hq, e1]
 simp only [Bl, if_false]
 rw [Hq, if_pos t1, Hq]
 generalize doF ⟨B.city, [Ev s0 hsq.1]⟩ ⟨6, 0, 0, 0, []⟩ = D at t1 t2 t3 t4
 have hcn := (Gz ag).2.2 ⟨by omega, by omega⟩
 have hsb : Fk B.city.cfg.ags B.city.cfg.ags.length = 1 := by
  rw [q2, hag]
  show Fk [ag] 0 + Dk ag = 1
  rw [hcn, hse1]
  rfl
 obtain ⟨o, ho⟩ : ∃ o, D.2.1.ses = [o] := by
  have hl : D.2.1.ses.length = 1 := by
   have t2 : (D.2.1.ses.length : Int) = Fk B.city.cfg.ags B.city.cfg.ags.length := t2
   rw [hsb] at t2
   omega
  match D.2.1.ses, hl with
  | [o], _ => exact ⟨o, rfl⟩
 have hnow : D.1.city.now = 1 := by
  have t3 : D.1.city.now = IntKind.i64.wrap ((if 1073741823 < B.city.now then 1073741823 else B.city.now) + 1) := t3
  rw [t3, q3]
  rfl
 have h10 := t4 0 (Ev s0 hsq.1) o rfl (Xj s0 hsq.1).2.2 (by rw [ho]; rfl) (by rw [hnow]; rfl)
 refine ⟨o, D.2.1.feed, ?_, h10⟩
 rw [<- ho]
end Go.Proofs.YtkkimgjinbaemaaGreat
