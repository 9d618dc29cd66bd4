/- The walk. -/
import Derived.Test.YtkkimgjinbaemaaGreatKbq
namespace Go.Proofs.YtkkimgjinbaemaaGreat
open Go.RowKit
set_option linter.unusedVariables false
set_option linter.unusedSimpArgs false
set_option maxRecDepth 100000
set_option maxHeartbeats 4000000
def Aki (x : Bv) (d : Bv × List (List B3) × List Jp × List Int) : Prop := Ew d.1 /\ d.1.aud.length = x.aud.length /\ d.1.reg.num = x.reg.num /\ d.1.reg.ag = x.reg.ag /\ d.2.1.length = x.aud.length /\ (∀ r ∈ d.2.1, r.length <= 257 /\ ∀ m ∈ r, E4 m) /\ d.2.2.1.length <= 600 /\ d.2.2.2.length <= 600
structure Mq (x y : Bv) : Prop where
  d : Ew y
  aud : y.aud.length = x.aud.length
  num : y.reg.num = x.reg.num
  ag : y.reg.ag = x.reg.ag
theorem Sy {α : Type} {p : α -> Prop} {l : List α} {x : α} (h : ∀ y ∈ l, p y) (hx : p x) : ∀ y ∈ l ++ [x], p y := fun y hy => by
 rcases A0.1 hy with h1 | h1
 ·exact h y h1
 rw [An.1 h1]; exact hx
theorem Mq.next {x y z : Bv} {m : B3} (h : Mq x y) (q : Aqd y z m) : Mq x z := ⟨q.1, q.2.1.trans h.aud, q.2.2.1.trans h.num, q.2.2.2.1.trans h.ag⟩
theorem Mq.marked {x y : Bv} (h : Mq x y) {rs : List Cg} (h1 : rs.length = y.reqs.length) (h2 : ∀ r ∈ rs, r.legs.length <= 1000000) : Ew ⟨y.reg, rs, y.draws, y.aud⟩ := ⟨⟨h.d.b.reg, by rw [h1]; exact h.d.b.reqs, h2, h.d.b.draws, h.d.b.draw, h.d.b.aud⟩, h.d.vehs, by rw [h1]; exact h.d.reqs, h.d.dr, h.d.rq⟩
theorem Mq.audited {x : Bv} (h : Ew x) {l : List Bool} (h1 : l.length = x.aud.length) : Mq x ⟨x.reg, x.reqs, x.draws, l⟩ := ⟨⟨⟨h.b.reg, h.b.reqs, h.b.legs, h.b.draws, h.b.draw, by show l.length <= _; rw [h1]; exact h.b.aud⟩, h.vehs, h.reqs, h.dr, h.rq⟩, h1, rfl, rfl⟩
theorem Abk (cfg : Dy) (x : Bv) (l : List Hc) (now : Int) (hd : Ew x) (hn : x.aud.length = 0) (hl : l.length <= 1000) (hi : ∀ p ∈ l, p.items.length <= 257 /\ ∀ t ∈ p.items, t.pay.length <= 1000) : Ct 125 [cfg.g, x.g, .mInp l, .li now] (fun d : Bv × List (List B3) × List Jp × List Int => .tup [d.1.g, .imm false 1 (N8 d.2.1), .mEnt d.2.2.1, .mI d.2.2.2]) (Aki x) := by
 refine Cb Tryz.func125 ?_
 refine VX.R ?_
 refine VX.L hn (Ja x hd.b) ?_
 refine VX.H hn ?_
 iterate 2 refine VX.R ?_
 refine VX.own0 13 248 3 (by decide) (k' := 3) (by simp [go_sem]) ?_
 simp [go_sem]
 refine VX.own0 14 3 1 (by decide) (k' := 1) (by simp [go_sem]) ?_
 simp [go_sem]
 obtain ⟨lq, hlq⟩ : ∃ lq, lq = l.take (min l.length 0) := ⟨_, rfl⟩
 have hll : lq.length <= 0 := by rw [hlq, A5]; omega
 have hiq : ∀ p ∈ lq, p.items.length <= 257 /\ ∀ t ∈ p.items, t.pay.length <= 1000 := fun p hp => hi p (Aq (by rw [hlq] at hp; exact hp))
 have hT : List.take (if 0 < l.length then (0 : Int) else (l.length : Int)).toNat (List.map Hc.t l) = List.map Hc.t lq := by rw [hlq, List.map_take]; congr 1; split <;> omega
 refine VX.H (cj2 hn hT) <| .seq ?_
 refine VX.H hn <| .block ?_
 refine VX.rangeE 0 (fun i1 (y1 : List Bool) => ⟨[(2, .mInp lq), (3, .li now), (4, .ptr 0 0), (5, .ptr 1 0), (8, .ptr 2 0), (9, .nil 1), (10, .nil 3), (11, .nil 1), (12, .own 4 0), (13, .own 5 0), (14, .own 6 0), (39, .li 0), (40, .li i1)], [.box 30 (cfg.a false), .box 70 [.li x.reg.num, .mY x.reg.ag.sec, .li x.reg.ag.ri, .li x.reg.ag.cls, .mI x.reg.ag.lims, .li x.reg.ag.rq, .li x.reg.ag.se, .li x.reg.ag.ra, .li x.reg.ag.bu, .mTok x.reg.toks, .mVeh x.reg.vehs, .li x.reg.bk.lv, .li x.reg.bk.ra, .li x.reg.bk.bu, .mReq x.reqs, .mYs x.draws, .own 3 0], .box 70 [.li 0, .nil 1, .li 0, .li 0, .nil 1, .li 0, .li 0, .li 0, .li 0, .nil 6, .nil 2, .li 0, .li 0, .li 0, .nil 5, .nil 1, .nil 1], .row 4 1 false false (tB y1), .row 80 1 true false [], .row 248 3 true false [], .row 3 1 true false []]⟩) (fun i1 y1 => y1.length = 0) x.aud (wk hn [0, 1, 2, 3, 4, 5, 6]) hn fun i1 y1 hi1 hy1 => ?_
 refine VX.R <| .seq ?_
 refine VX.C ?_ ?_ <;> intro h41 <;> simp [go_sem] at h41
 ·
  exact absurd h41 (by omega)
 -- the end of the first loop
 refine VX.exit <| .Z hy1 3 <| .seq ?_
 refine VX.R <| .block ?_
 refine VX.rangeE lq.length (fun i3 (y3 : Bv × List Jp × List Int) => ⟨[(2, .mInp lq), (3, .li now), (4, .ptr 0 0), (5, .ptr 1 0), (8, .ptr 2 0), (9, .nil 1), (10, .nil 3), (11, .nil 1), (12, .own 3 0), (13, .own 4 y3.2.1.length), (14, .own 5 y3.2.2.length), (61, .li lq.length), (62, .li i3)], [.box 30 (cfg.a false), .box 70 (y3.1.a false), .box 70 [.li 0, .nil 1, .li 0, .li 0, .nil 1, .li 0, .li 0, .li 0, .li 0, .nil 6, .nil 2, .li 0, .li 0, .li 0, .nil 5, .nil 1, .nil 1], .row 80 1 true false [], .row 248 3 false false (Abz y3.2.1), .row 3 1 false false (tI y3.2.2)]⟩) (fun i3 y3 => Mq x y3.1 /\ y3.2.1.length <= 257 * i3 /\ y3.2.2.length <= 257 * i3) (⟨x.reg, x.reqs, x.draws, y1⟩, [], []) (wk hy1 [0, 1, 2, 4, 5, 6]) (⟨Mq.audited hd (by omega), by simp, by simp⟩) fun i3 y3 hi3 hy3 => ?_
 refine VX.R <| .seq ?_
 refine VX.C ?_ ?_ <;> intro h63 <;> simp [go_sem] at h63
 ·
  exact absurd h63 (by omega)
 -- the end
 refine VX.exit ?_
 have hre := hy3.1.d.reqs
 have hle := hy3.1.d.b.legs
 obtain ⟨Y1, cY1, qY1⟩ := got (J7 y3.1.reqs now hre hle)
 have hqm := qY1
 refine VX.L ok0 cY1 ?_
 refine VX.R ?_
 refine VX.Z ok0 3 ?_
 refine VX.Z ok0 4 ?_
 refine VX.Z ok0 5 ?_
 refine VX.ret (Co ?_); simp [go_sem]
 refine ⟨(⟨y3.1.reg, Y1, y3.1.draws, y3.1.aud⟩, [], y3.2.1, y3.2.2), by simp [go_sem], hy3.1.marked hqm.1 hqm.2, hy3.1.aud, hy3.1.num, hy3.1.ag, hn.symm, fun r hr => by simp at hr, ?_, ?_⟩
 ·have := hy3.2.1; dsimp only; omega
 have := hy3.2.2; dsimp only; omega
theorem Abj (cfg : Dy) (x : Bv) (l : List Hc) (now : Int) (hd : Ew x) (hn : x.aud.length = 1) (hl : l.length <= 1000) (hi : ∀ p ∈ l, p.items.length <= 257 /\ ∀ t ∈ p.items, t.pay.length <= 1000) : Ct 125 [cfg.g, x.g, .mInp l, .li now] (fun d : Bv × List (List B3) × List Jp × List Int => .tup [d.1.g, .imm false 1 (N8 d.2.1), .mEnt d.2.2.1, .mI d.2.2.2]) (Aki x) := by
 refine Cb Tryz.func125 ?_
 refine VX.R ?_
 refine VX.S (fun K kk => by simp [go_sem, hn]; refine .l (Ja x hd.b) ?_; simp [go_sem, hn]; exact kk) ?_
 refine VX.region_mk_seq 3 _ 152 (.tmp 27) (.tmp 27) (by rfl) rfl rfl rfl (by rfl) (by rfl) fun K1 hK1 => ?_
 simp [go_sem, hn]
 refine hK1 _ ?_; clear hK1
 refine VX.toBox 4 rfl (by simp) (by simp) ?_
 simp [go_sem, hn, L7, List.replicate]
 refine VX.own0l 4 0 56 4 (by decide) rfl rfl ?_
 simp [go_sem]
 iterate 2 refine VX.R ?_
 refine VX.own0 13 248 3 (by decide) (k' := 3) (by simp [go_sem]) ?_
 simp [go_sem]
 refine VX.own0 14 3 1 (by decide) (k' := 1) (by simp [go_sem]) ?_
 simp [go_sem]
 obtain ⟨lq, hlq⟩ : ∃ lq, lq = l.take (min l.length 1) := ⟨_, rfl⟩
 have hll : lq.length <= 1 := by rw [hlq, A5]; omega
 have hiq : ∀ p ∈ lq, p.items.length <= 257 /\ ∀ t ∈ p.items, t.pay.length <= 1000 := fun p hp => hi p (Aq (by rw [hlq] at hp; exact hp))
 have hT : List.take (if (1 : Int) < (l.length : Int) then (1 : Int) else (l.length : Int)).toNat (List.map Hc.t l) = List.map Hc.t lq := by rw [hlq, List.map_take]; congr 1; split <;> omega
 refine VX.S (fun K kk => by simp [go_sem, hn, hT]; repeat first | exact kk | refine aK ?_) <| .seq ?_
 refine VX.S (fun K kk => by simp [go_sem, hn]; exact kk) <| .block ?_
 refine VX.rangeE 1 (fun i1 (y1 : List Bool) => ⟨[(2, .mInp lq), (3, .li now), (4, .ptr 0 0), (5, .ptr 1 0), (8, .ptr 2 0), (9, .nil 1), (10, .nil 3), (11, .nil 1), (12, .bsl 4 1), (13, .own 6 0), (14, .own 7 0), (39, .li 1), (40, .li i1)], [.box 30 (cfg.a false), .box 70 [.li x.reg.num, .mY x.reg.ag.sec, .li x.reg.ag.ri, .li x.reg.ag.cls, .mI x.reg.ag.lims, .li x.reg.ag.rq, .li x.reg.ag.se, .li x.reg.ag.ra, .li x.reg.ag.bu, .mTok x.reg.toks, .mVeh x.reg.vehs, .li x.reg.bk.lv, .li x.reg.bk.ra, .li x.reg.bk.bu, .mReq x.reqs, .mYs x.draws, .own 3 1], .box 70 [.li 0, .nil 1, .li 0, .li 0, .nil 1, .li 0, .li 0, .li 0, .li 0, .nil 6, .nil 2, .li 0, .li 0, .li 0, .nil 5, .nil 1, .nil 1], .row 4 1 false false (tB y1), .box 80 [.own 5 0], .row 56 4 true false [], .row 248 3 true false [], .row 3 1 true false []]⟩) (fun i1 y1 => y1.length = 1) x.aud ⟨[0, 1, 2, 3, 4, 5, 6, 7], Bp (by decide) ?_ ?_, by simp⟩ hn fun i1 y1 hi1 hy1 => ?_
 ·simp [go_sem, hn]
 ·simp [go_sem, hn]
 refine VX.R <| .seq ?_
 refine VX.C ?_ ?_ <;> intro h41 <;> simp [go_sem] at h41
 ·
  refine VX.skip <| .seq <| .block <| .R ?_
  obtain ⟨ax, hax⟩ : ∃ e, y1[i1]? = some e := ⟨_, Aa (by omega)⟩
  by_cases hc : i1 < lq.length
  ·obtain ⟨p, hx⟩ : ∃ e, lq[i1]? = some e := ⟨_, Aa hc⟩
   have hcq : ¬ ((lq.length : Int) <= i1) := by omega
   refine VX.S (fun K kk => by simp [go_sem, hcq, hx, hc]; repeat first | exact kk | refine aK ?_) ?_
   refine VX.C ?_ ?_ <;> intro h54 <;> simp [go_sem] at h54
   ·
    refine VX.S1 (fun K kk => by simp [go_sem, hax, hy1]; repeat first | exact kk | refine aK ?_) ?_
    refine VX.R1 ?_
    refine ⟨by omega, y1.set i1 false, ?_, [0, 1, 2, 3, 4, 5, 6, 7], Bp (by decide) ?_ ?_, by simp⟩
    ·simpa using hy1
    ·simp [go_sem, Bq ((i1 : Int) + 1)]
    simp [go_sem, hy1, List.map_set]
   -- none
   refine VX.skip <| .R1 ?_
   refine ⟨by omega, y1, ?_, [0, 1, 2, 3, 4, 5, 6, 7], Bp (by decide) ?_ ?_, by simp⟩
   ·simpa using hy1
   ·simp [go_sem, Bq ((i1 : Int) + 1)]
   simp [go_sem, hy1, List.map_set]
  have hcq : (lq.length : Int) <= i1 := by omega
  refine VX.S (fun K kk => by simp [go_sem, hcq]; exact kk) ?_
  refine VX.C ?_ ?_ <;> intro h54 <;> simp [go_sem] at h54
  refine VX.S1 (fun K kk => by simp [go_sem, hax, hy1]; repeat first | exact kk | refine aK ?_) ?_
  refine VX.R1 ?_
  refine ⟨by omega, y1.set i1 false, ?_, [0, 1, 2, 3, 4, 5, 6, 7], Bp (by decide) ?_ ?_, by simp⟩
  ·simpa using hy1
  ·simp [go_sem, Bq ((i1 : Int) + 1)]
  simp [go_sem, hy1, List.map_set]
 -- the end of the first loop
 refine VX.exit <| .F 3 ?_
 simp [go_sem, hy1]
 refine VX.seq <| .R <| .block ?_
 refine VX.rangeE lq.length (fun i3 (y3 : Bv × List B3 × List Jp × List Int) => ⟨[(2, .mInp lq), (3, .li now), (4, .ptr 0 0), (5, .ptr 1 0), (8, .ptr 2 0), (9, .nil 1), (10, .nil 3), (11, .nil 1), (12, .bsl 3 1), (13, .own 5 y3.2.2.1.length), (14, .own 6 y3.2.2.2.length), (61, .li lq.length), (62, .li i3)], [.box 30 (cfg.a false), .box 70 (y3.1.a false), .box 70 [.li 0, .nil 1, .li 0, .li 0, .nil 1, .li 0, .li 0, .li 0, .li 0, .nil 6, .nil 2, .li 0, .li 0, .li 0, .nil 5, .nil 1, .nil 1], .box 80 [.own 4 y3.2.1.length], .row 56 4 false false (Nw y3.2.1), .row 248 3 false false (Abz y3.2.2.1), .row 3 1 false false (tI y3.2.2.2)]⟩) (fun i3 y3 => Mq x y3.1 /\ (y3.2.1.length <= 257 /\ (∀ m ∈ y3.2.1, E4 m) /\ (i3 <= 0 -> y3.2.1 = [])) /\ y3.2.2.1.length <= 257 * i3 /\ y3.2.2.2.length <= 257 * i3) (⟨x.reg, x.reqs, x.draws, y1⟩, [], [], []) ⟨[0, 1, 2, 4, 5, 6, 7], Bp (by decide) ?_ ?_, by simp⟩ (⟨Mq.audited hd (by omega), ⟨by simp, fun m hm => by simp at hm, fun _ => rfl⟩, by simp, by simp⟩) fun i3 y3 hi3 hy3 => ?_
 ·simp [go_sem, hy1]
 ·simp [go_sem, hy1]
 refine VX.R <| .seq ?_
 refine VX.C ?_ ?_ <;> intro h63 <;> simp [go_sem] at h63
 ·
  obtain ⟨p, hx⟩ : ∃ e, lq[i3]? = some e := ⟨_, Aa (by omega)⟩
  have hp := hiq p (Ac hx)
  refine VX.skip <| .seq <| .block <| .R <| .seq ?_
  refine VX.S (fun K kk => by simp [go_sem, hx]; repeat first | exact kk | refine aK ?_) ?_
  refine VX.C ?_ ?_ <;> intro h70 <;> simp [go_sem] at h70
  ·
   refine VX.exit <| .R1 ?_
   refine ⟨by omega, y3, ⟨hy3.1, ⟨(hy3.2.1).1, (hy3.2.1).2.1, fun h => (hy3.2.1).2.2 (by omega)⟩, by have := hy3.2.2.1; omega, by have := hy3.2.2.2; omega⟩, [0, 1, 2, 3, 4, 5, 6], Bp (by decide) ?_ ?_, by simp⟩
   ·simp [go_sem, Bq ((i3 : Int) + 1)]
   simp [go_sem]
  refine VX.skip <| .S (fun K kk => by simp [go_sem, hx]; repeat first | exact kk | refine aK ?_) <| .block ?_
  have hin : i3 = 0 := by omega
  subst hin
  -- session 0
  have hr0 : y3.2.1 = [] := (hy3.2.1).2.2 (by omega)
  refine VX.rangeE p.items.length (fun i4 (y4 : Bv × List B3 × List Jp × List Int) => ⟨[(2, .mInp lq), (3, .li now), (4, .ptr 0 0), (5, .ptr 1 0), (8, .ptr 2 0), (9, .nil 1), (10, .nil 3), (11, .nil 1), (12, .bsl 3 1), (13, .own 5 y4.2.2.1.length), (14, .own 6 y4.2.2.2.length), (61, .li lq.length), (62, .li 0), (16, .li 0), (75, .mItem p.items), (76, .li p.items.length), (77, .li i4)], [.box 30 (cfg.a false), .box 70 (y4.1.a false), .box 70 [.li 0, .nil 1, .li 0, .li 0, .nil 1, .li 0, .li 0, .li 0, .li 0, .nil 6, .nil 2, .li 0, .li 0, .li 0, .nil 5, .nil 1, .nil 1], .box 80 [.own 4 y4.2.1.length], .row 56 4 false false (Nw y4.2.1), .row 248 3 false false (Abz y4.2.2.1), .row 3 1 false false (tI y4.2.2.2)]⟩) (fun i4 y4 => Mq x y4.1 /\ y4.2.1.length = i4 /\ (∀ m ∈ y4.2.1, E4 m) /\ y4.2.2.1.length <= 257 * 0 + i4 /\ y4.2.2.2.length <= 257 * 0 + i4) (y3.1, [], y3.2.2.1, y3.2.2.2) ⟨[0, 1, 2, 3, 4, 5, 6], Bp (by decide) ?_ ?_, by simp⟩ ⟨hy3.1, rfl, fun m hm => by simp at hm, by have := hy3.2.2.1; dsimp only; omega, by have := hy3.2.2.2; dsimp only; omega⟩ fun i4 y4 hi4 hy4 => ?_
  ·simp [go_sem, hr0]
  ·simp [go_sem, hr0]
  refine VX.R <| .seq ?_
  refine VX.C ?_ ?_ <;> intro h78 <;> simp [go_sem] at h78
  ·
   obtain ⟨t, ht⟩ : ∃ e, p.items[i4]? = some e := ⟨_, Aa (by omega)⟩
   have htp := hp.2 t (Ac ht)
   have hq := O4 cfg y4.1 0 t now hy4.1.d htp
   have hl1 : y4.2.1.length <= 257 := by have := hp.1; have := hy4.2.1; omega
   have hl2 : y4.2.2.1.length <= 600 := by have := hp.1; have := hy4.2.2.2.1; omega
   have hl3 : y4.2.2.2.length <= 600 := by have := hp.1; have := hy4.2.2.2.2; omega
   refine VX.skip <| .seq <| .block <| .S (fun K kk => by simp [go_sem, ht]; repeat first | exact kk | refine aK ?_) ?_
   refine VX.S (fun K kk => by simp [go_sem]; refine .l (Ox cfg y4.1 0 t now hy4.1.d htp) ?_; simp [go_sem]; exact kk) ?_
   refine VX.R ?_
   refine VX.E (fun K kk => by simp [go_sem]; repeat first | exact kk | refine aK ?_) ?_
   refine VX.S (fun K kk => by simp [go_sem]; repeat first | exact kk | refine aK ?_) ?_
   refine VX.R ?_
   refine VX.C ?_ ?_ <;> intro h108 <;> simp [go_sem] at h108
   ·
    refine VX.S1 (fun K kk => by simp [go_sem]; repeat first | exact kk | refine aK ?_) ?_
    refine VX.R1 ?_
    refine ⟨by omega, ((B4 cfg y4.1 0 t now hy4.1.d htp).1, y4.2.1 ++ [(B4 cfg y4.1 0 t now hy4.1.d htp).2.1], y4.2.2.1 ++ [(B4 cfg y4.1 0 t now hy4.1.d htp).2.2.1], y4.2.2.2 ++ [(B4 cfg y4.1 0 t now hy4.1.d htp).2.2.2]), ⟨hy4.1.next hq, ?_, Sy hy4.2.2.1 hq.2.2.2.2, ?_, ?_⟩, [0, 1, 2, 3, 4, 5, 6], Bp (by decide) ?_ ?_, by simp⟩
    ·have := hy4.2.1; simp; omega
    ·have := hy4.2.2.2.1; simp; omega
    ·have := hy4.2.2.2.2; simp; omega
    ·simp [go_sem, Bq ((i4 : Int) + 1)]
    simp [go_sem]
   -- none
   refine VX.skip <| .R1 ?_
   refine ⟨by omega, ((B4 cfg y4.1 0 t now hy4.1.d htp).1, y4.2.1 ++ [(B4 cfg y4.1 0 t now hy4.1.d htp).2.1], y4.2.2.1 ++ [(B4 cfg y4.1 0 t now hy4.1.d htp).2.2.1], y4.2.2.2), ⟨hy4.1.next hq, ?_, Sy hy4.2.2.1 hq.2.2.2.2, ?_, ?_⟩, [0, 1, 2, 3, 4, 5, 6], Bp (by decide) ?_ ?_, by simp⟩
   ·have := hy4.2.1; simp; omega
   ·have := hy4.2.2.2.1; simp; omega
   ·have := hy4.2.2.2.2; simp; omega
   ·simp [go_sem, Bq ((i4 : Int) + 1)]
   simp [go_sem]
  -- the end of the items
  refine VX.exit <| .R1 ?_
  refine ⟨by omega, (y4.1, y4.2.1, y4.2.2.1, y4.2.2.2), ⟨hy4.1, ⟨by have := hp.1; have := hy4.2.1; dsimp only; omega, hy4.2.2.1, fun h => absurd h (by omega)⟩, by have := hp.1; have := hy4.2.2.2.1; dsimp only; omega, by have := hp.1; have := hy4.2.2.2.2; dsimp only; omega⟩, [0, 1, 2, 3, 4, 5, 6], Bp (by decide) ?_ ?_, by simp⟩
  ·simp [go_sem, Bq (1 : Int)]
  simp [go_sem]
 -- the end
 refine VX.exit ?_
 have hre := hy3.1.d.reqs
 have hle := hy3.1.d.b.legs
 have hqm := Sa y3.1.reqs now hre hle
 refine VX.S (fun K kk => by simp [go_sem]; refine .l (Rr y3.1.reqs now hre hle) ?_; simp [go_sem]; exact kk) ?_
 refine VX.R ?_
 refine VX.F 4 ?_
 simp [go_sem]
 refine VX.sealB 3 1 (N8 [y3.2.1]) rfl rfl (by simp) (by simp) ?_
 simp [go_sem]
 refine VX.F 5 ?_
 simp [go_sem]
 refine VX.F 6 ?_
 simp [go_sem]
 refine VX.ret (Co ?_); simp [go_sem]
 refine ⟨(⟨y3.1.reg, Hv y3.1.reqs now hre hle, y3.1.draws, y3.1.aud⟩, [y3.2.1], y3.2.2.1, y3.2.2.2), by simp [go_sem], hy3.1.marked hqm.1 hqm.2, hy3.1.aud, hy3.1.num, hy3.1.ag, hn.symm, fun r hr => by simp only [List.mem_cons, A8, or_false] at hr; subst hr <;> first | exact ⟨(hy3.2.1).1, (hy3.2.1).2.1⟩, ?_, ?_⟩
 ·have := hy3.2.2.1; dsimp only; omega
 have := hy3.2.2.2; dsimp only; omega
theorem Abi (cfg : Dy) (x : Bv) (l : List Hc) (now : Int) (hd : Ew x) (hn : x.aud.length = 2) (hl : l.length <= 1000) (hi : ∀ p ∈ l, p.items.length <= 257 /\ ∀ t ∈ p.items, t.pay.length <= 1000) : Ct 125 [cfg.g, x.g, .mInp l, .li now] (fun d : Bv × List (List B3) × List Jp × List Int => .tup [d.1.g, .imm false 1 (N8 d.2.1), .mEnt d.2.2.1, .mI d.2.2.2]) (Aki x) := by
 refine Cb Tryz.func125 ?_
 refine VX.R ?_
 refine VX.S (fun K kk => by simp [go_sem, hn]; refine .l (Ja x hd.b) ?_; simp [go_sem, hn]; exact kk) ?_
 refine VX.region_mk_seq 3 _ 152 (.tmp 27) (.tmp 27) (by rfl) rfl rfl rfl (by rfl) (by rfl) fun K1 hK1 => ?_
 simp [go_sem, hn]
 refine hK1 _ ?_; clear hK1
 refine VX.toBox 4 rfl (by simp) (by simp) ?_
 simp [go_sem, hn, L7, List.replicate]
 refine VX.own0l 4 0 56 4 (by decide) rfl rfl ?_
 simp [go_sem]
 refine VX.own0l 4 1 56 4 (by decide) rfl rfl ?_
 simp [go_sem]
 iterate 2 refine VX.R ?_
 refine VX.own0 13 248 3 (by decide) (k' := 3) (by simp [go_sem]) ?_
 simp [go_sem]
 refine VX.own0 14 3 1 (by decide) (k' := 1) (by simp [go_sem]) ?_
 simp [go_sem]
 obtain ⟨lq, hlq⟩ : ∃ lq, lq = l.take (min l.length 2) := ⟨_, rfl⟩
 have hll : lq.length <= 2 := by rw [hlq, A5]; omega
 have hiq : ∀ p ∈ lq, p.items.length <= 257 /\ ∀ t ∈ p.items, t.pay.length <= 1000 := fun p hp => hi p (Aq (by rw [hlq] at hp; exact hp))
 have hT : List.take (if (2 : Int) < (l.length : Int) then (2 : Int) else (l.length : Int)).toNat (List.map Hc.t l) = List.map Hc.t lq := by rw [hlq, List.map_take]; congr 1; split <;> omega
 refine VX.S (fun K kk => by simp [go_sem, hn, hT]; repeat first | exact kk | refine aK ?_) <| .seq ?_
 refine VX.S (fun K kk => by simp [go_sem, hn]; exact kk) <| .block ?_
 refine VX.rangeE 2 (fun i1 (y1 : List Bool) => ⟨[(2, .mInp lq), (3, .li now), (4, .ptr 0 0), (5, .ptr 1 0), (8, .ptr 2 0), (9, .nil 1), (10, .nil 3), (11, .nil 1), (12, .bsl 4 2), (13, .own 7 0), (14, .own 8 0), (39, .li 2), (40, .li i1)], [.box 30 (cfg.a false), .box 70 [.li x.reg.num, .mY x.reg.ag.sec, .li x.reg.ag.ri, .li x.reg.ag.cls, .mI x.reg.ag.lims, .li x.reg.ag.rq, .li x.reg.ag.se, .li x.reg.ag.ra, .li x.reg.ag.bu, .mTok x.reg.toks, .mVeh x.reg.vehs, .li x.reg.bk.lv, .li x.reg.bk.ra, .li x.reg.bk.bu, .mReq x.reqs, .mYs x.draws, .own 3 2], .box 70 [.li 0, .nil 1, .li 0, .li 0, .nil 1, .li 0, .li 0, .li 0, .li 0, .nil 6, .nil 2, .li 0, .li 0, .li 0, .nil 5, .nil 1, .nil 1], .row 4 1 false false (tB y1), .box 80 [.own 5 0, .own 6 0], .row 56 4 true false [], .row 56 4 true false [], .row 248 3 true false [], .row 3 1 true false []]⟩) (fun i1 y1 => y1.length = 2) x.aud ⟨[0, 1, 2, 3, 4, 5, 6, 7, 8], Bp (by decide) ?_ ?_, by simp⟩ hn fun i1 y1 hi1 hy1 => ?_
 ·simp [go_sem, hn]
 ·simp [go_sem, hn]
 refine VX.R <| .seq ?_
 refine VX.C ?_ ?_ <;> intro h41 <;> simp [go_sem] at h41
 ·
  refine VX.skip <| .seq <| .block <| .R ?_
  obtain ⟨ax, hax⟩ : ∃ e, y1[i1]? = some e := ⟨_, Aa (by omega)⟩
  by_cases hc : i1 < lq.length
  ·obtain ⟨p, hx⟩ : ∃ e, lq[i1]? = some e := ⟨_, Aa hc⟩
   have hcq : ¬ ((lq.length : Int) <= i1) := by omega
   refine VX.S (fun K kk => by simp [go_sem, hcq, hx, hc]; repeat first | exact kk | refine aK ?_) ?_
   refine VX.C ?_ ?_ <;> intro h54 <;> simp [go_sem] at h54
   ·
    refine VX.S1 (fun K kk => by simp [go_sem, hax, hy1]; repeat first | exact kk | refine aK ?_) ?_
    refine VX.R1 ?_
    refine ⟨by omega, y1.set i1 false, ?_, [0, 1, 2, 3, 4, 5, 6, 7, 8], Bp (by decide) ?_ ?_, by simp⟩
    ·simpa using hy1
    ·simp [go_sem, Bq ((i1 : Int) + 1)]
    simp [go_sem, hy1, List.map_set]
   -- none
   refine VX.skip <| .R1 ?_
   refine ⟨by omega, y1, ?_, [0, 1, 2, 3, 4, 5, 6, 7, 8], Bp (by decide) ?_ ?_, by simp⟩
   ·simpa using hy1
   ·simp [go_sem, Bq ((i1 : Int) + 1)]
   simp [go_sem, hy1, List.map_set]
  have hcq : (lq.length : Int) <= i1 := by omega
  refine VX.S (fun K kk => by simp [go_sem, hcq]; exact kk) ?_
  refine VX.C ?_ ?_ <;> intro h54 <;> simp [go_sem] at h54
  refine VX.S1 (fun K kk => by simp [go_sem, hax, hy1]; repeat first | exact kk | refine aK ?_) ?_
  refine VX.R1 ?_
  refine ⟨by omega, y1.set i1 false, ?_, [0, 1, 2, 3, 4, 5, 6, 7, 8], Bp (by decide) ?_ ?_, by simp⟩
  ·simpa using hy1
  ·simp [go_sem, Bq ((i1 : Int) + 1)]
  simp [go_sem, hy1, List.map_set]
 -- the end of the first loop
 refine VX.exit <| .F 3 ?_
 simp [go_sem, hy1]
 refine VX.seq <| .R <| .block ?_
 refine VX.rangeE lq.length (fun i3 (y3 : Bv × List B3 × List B3 × List Jp × List Int) => ⟨[(2, .mInp lq), (3, .li now), (4, .ptr 0 0), (5, .ptr 1 0), (8, .ptr 2 0), (9, .nil 1), (10, .nil 3), (11, .nil 1), (12, .bsl 3 2), (13, .own 6 y3.2.2.2.1.length), (14, .own 7 y3.2.2.2.2.length), (61, .li lq.length), (62, .li i3)], [.box 30 (cfg.a false), .box 70 (y3.1.a false), .box 70 [.li 0, .nil 1, .li 0, .li 0, .nil 1, .li 0, .li 0, .li 0, .li 0, .nil 6, .nil 2, .li 0, .li 0, .li 0, .nil 5, .nil 1, .nil 1], .box 80 [.own 4 y3.2.1.length, .own 5 y3.2.2.1.length], .row 56 4 false false (Nw y3.2.1), .row 56 4 false false (Nw y3.2.2.1), .row 248 3 false false (Abz y3.2.2.2.1), .row 3 1 false false (tI y3.2.2.2.2)]⟩) (fun i3 y3 => Mq x y3.1 /\ (y3.2.1.length <= 257 /\ (∀ m ∈ y3.2.1, E4 m) /\ (i3 <= 0 -> y3.2.1 = [])) /\ (y3.2.2.1.length <= 257 /\ (∀ m ∈ y3.2.2.1, E4 m) /\ (i3 <= 1 -> y3.2.2.1 = [])) /\ y3.2.2.2.1.length <= 257 * i3 /\ y3.2.2.2.2.length <= 257 * i3) (⟨x.reg, x.reqs, x.draws, y1⟩, [], [], [], []) ⟨[0, 1, 2, 4, 5, 6, 7, 8], Bp (by decide) ?_ ?_, by simp⟩ (⟨Mq.audited hd (by omega), ⟨by simp, fun m hm => by simp at hm, fun _ => rfl⟩, ⟨by simp, fun m hm => by simp at hm, fun _ => rfl⟩, by simp, by simp⟩) fun i3 y3 hi3 hy3 => ?_
 ·simp [go_sem, hy1]
 ·simp [go_sem, hy1]
 refine VX.R <| .seq ?_
 refine VX.C ?_ ?_ <;> intro h63 <;> simp [go_sem] at h63
 ·
  obtain ⟨p, hx⟩ : ∃ e, lq[i3]? = some e := ⟨_, Aa (by omega)⟩
  have hp := hiq p (Ac hx)
  refine VX.skip <| .seq <| .block <| .R <| .seq ?_
  refine VX.S (fun K kk => by simp [go_sem, hx]; repeat first | exact kk | refine aK ?_) ?_
  refine VX.C ?_ ?_ <;> intro h70 <;> simp [go_sem] at h70
  ·
   refine VX.exit <| .R1 ?_
   refine ⟨by omega, y3, ⟨hy3.1, ⟨(hy3.2.1).1, (hy3.2.1).2.1, fun h => (hy3.2.1).2.2 (by omega)⟩, ⟨(hy3.2.2.1).1, (hy3.2.2.1).2.1, fun h => (hy3.2.2.1).2.2 (by omega)⟩, by have := hy3.2.2.2.1; omega, by have := hy3.2.2.2.2; omega⟩, [0, 1, 2, 3, 4, 5, 6, 7], Bp (by decide) ?_ ?_, by simp⟩
   ·simp [go_sem, Bq ((i3 : Int) + 1)]
   simp [go_sem]
  refine VX.skip <| .S (fun K kk => by simp [go_sem, hx]; repeat first | exact kk | refine aK ?_) <| .block ?_
  have hin : i3 = 0 \/ i3 = 1 := by omega
  rcases hin with rfl | rfl
  ·
   have hr0 : y3.2.1 = [] := (hy3.2.1).2.2 (by omega)
   refine VX.rangeE p.items.length (fun i4 (y4 : Bv × List B3 × List Jp × List Int) => ⟨[(2, .mInp lq), (3, .li now), (4, .ptr 0 0), (5, .ptr 1 0), (8, .ptr 2 0), (9, .nil 1), (10, .nil 3), (11, .nil 1), (12, .bsl 3 2), (13, .own 6 y4.2.2.1.length), (14, .own 7 y4.2.2.2.length), (61, .li lq.length), (62, .li 0), (16, .li 0), (75, .mItem p.items), (76, .li p.items.length), (77, .li i4)], [.box 30 (cfg.a false), .box 70 (y4.1.a false), .box 70 [.li 0, .nil 1, .li 0, .li 0, .nil 1, .li 0, .li 0, .li 0, .li 0, .nil 6, .nil 2, .li 0, .li 0, .li 0, .nil 5, .nil 1, .nil 1], .box 80 [.own 4 y4.2.1.length, .own 5 y3.2.2.1.length], .row 56 4 false false (Nw y4.2.1), .row 56 4 false false (Nw y3.2.2.1), .row 248 3 false false (Abz y4.2.2.1), .row 3 1 false false (tI y4.2.2.2)]⟩) (fun i4 y4 => Mq x y4.1 /\ y4.2.1.length = i4 /\ (∀ m ∈ y4.2.1, E4 m) /\ y4.2.2.1.length <= 257 * 0 + i4 /\ y4.2.2.2.length <= 257 * 0 + i4) (y3.1, [], y3.2.2.2.1, y3.2.2.2.2) ⟨[0, 1, 2, 3, 4, 5, 6, 7], Bp (by decide) ?_ ?_, by simp⟩ ⟨hy3.1, rfl, fun m hm => by simp at hm, by have := hy3.2.2.2.1; dsimp only; omega, by have := hy3.2.2.2.2; dsimp only; omega⟩ fun i4 y4 hi4 hy4 => ?_
   ·simp [go_sem, hr0]
   ·simp [go_sem, hr0]
   refine VX.R <| .seq ?_
   refine VX.C ?_ ?_ <;> intro h78 <;> simp [go_sem] at h78
   ·
    obtain ⟨t, ht⟩ : ∃ e, p.items[i4]? = some e := ⟨_, Aa (by omega)⟩
    have htp := hp.2 t (Ac ht)
    have hq := O4 cfg y4.1 0 t now hy4.1.d htp
    have hl1 : y4.2.1.length <= 257 := by have := hp.1; have := hy4.2.1; omega
    have hl2 : y4.2.2.1.length <= 600 := by have := hp.1; have := hy4.2.2.2.1; omega
    have hl3 : y4.2.2.2.length <= 600 := by have := hp.1; have := hy4.2.2.2.2; omega
    refine VX.skip <| .seq <| .block <| .S (fun K kk => by simp [go_sem, ht]; repeat first | exact kk | refine aK ?_) ?_
    refine VX.S (fun K kk => by simp [go_sem]; refine .l (Ox cfg y4.1 0 t now hy4.1.d htp) ?_; simp [go_sem]; exact kk) ?_
    refine VX.R ?_
    refine VX.E (fun K kk => by simp [go_sem]; repeat first | exact kk | refine aK ?_) ?_
    refine VX.S (fun K kk => by simp [go_sem]; repeat first | exact kk | refine aK ?_) ?_
    refine VX.R ?_
    refine VX.C ?_ ?_ <;> intro h108 <;> simp [go_sem] at h108
    ·
     refine VX.S1 (fun K kk => by simp [go_sem]; repeat first | exact kk | refine aK ?_) ?_
     refine VX.R1 ?_
     refine ⟨by omega, ((B4 cfg y4.1 0 t now hy4.1.d htp).1, y4.2.1 ++ [(B4 cfg y4.1 0 t now hy4.1.d htp).2.1], y4.2.2.1 ++ [(B4 cfg y4.1 0 t now hy4.1.d htp).2.2.1], y4.2.2.2 ++ [(B4 cfg y4.1 0 t now hy4.1.d htp).2.2.2]), ⟨hy4.1.next hq, ?_, Sy hy4.2.2.1 hq.2.2.2.2, ?_, ?_⟩, [0, 1, 2, 3, 4, 5, 6, 7], Bp (by decide) ?_ ?_, by simp⟩
     ·have := hy4.2.1; simp; omega
     ·have := hy4.2.2.2.1; simp; omega
     ·have := hy4.2.2.2.2; simp; omega
     ·simp [go_sem, Bq ((i4 : Int) + 1)]
     simp [go_sem]
    -- none
    refine VX.skip <| .R1 ?_
    refine ⟨by omega, ((B4 cfg y4.1 0 t now hy4.1.d htp).1, y4.2.1 ++ [(B4 cfg y4.1 0 t now hy4.1.d htp).2.1], y4.2.2.1 ++ [(B4 cfg y4.1 0 t now hy4.1.d htp).2.2.1], y4.2.2.2), ⟨hy4.1.next hq, ?_, Sy hy4.2.2.1 hq.2.2.2.2, ?_, ?_⟩, [0, 1, 2, 3, 4, 5, 6, 7], Bp (by decide) ?_ ?_, by simp⟩
    ·have := hy4.2.1; simp; omega
    ·have := hy4.2.2.2.1; simp; omega
    ·have := hy4.2.2.2.2; simp; omega
    ·simp [go_sem, Bq ((i4 : Int) + 1)]
    simp [go_sem]
   -- the end of the items
   refine VX.exit <| .R1 ?_
   refine ⟨by omega, (y4.1, y4.2.1, y3.2.2.1, y4.2.2.1, y4.2.2.2), ⟨hy4.1, ⟨by have := hp.1; have := hy4.2.1; dsimp only; omega, hy4.2.2.1, fun h => absurd h (by omega)⟩, ⟨(hy3.2.2.1).1, (hy3.2.2.1).2.1, fun h => (hy3.2.2.1).2.2 (by omega)⟩, by have := hp.1; have := hy4.2.2.2.1; dsimp only; omega, by have := hp.1; have := hy4.2.2.2.2; dsimp only; omega⟩, [0, 1, 2, 3, 4, 5, 6, 7], Bp (by decide) ?_ ?_, by simp⟩
   ·simp [go_sem, Bq (1 : Int)]
   simp [go_sem]
  -- session 1
  have hr0 : y3.2.2.1 = [] := (hy3.2.2.1).2.2 (by omega)
  refine VX.rangeE p.items.length (fun i4 (y4 : Bv × List B3 × List Jp × List Int) => ⟨[(2, .mInp lq), (3, .li now), (4, .ptr 0 0), (5, .ptr 1 0), (8, .ptr 2 0), (9, .nil 1), (10, .nil 3), (11, .nil 1), (12, .bsl 3 2), (13, .own 6 y4.2.2.1.length), (14, .own 7 y4.2.2.2.length), (61, .li lq.length), (62, .li 1), (16, .li 1), (75, .mItem p.items), (76, .li p.items.length), (77, .li i4)], [.box 30 (cfg.a false), .box 70 (y4.1.a false), .box 70 [.li 0, .nil 1, .li 0, .li 0, .nil 1, .li 0, .li 0, .li 0, .li 0, .nil 6, .nil 2, .li 0, .li 0, .li 0, .nil 5, .nil 1, .nil 1], .box 80 [.own 4 y3.2.1.length, .own 5 y4.2.1.length], .row 56 4 false false (Nw y3.2.1), .row 56 4 false false (Nw y4.2.1), .row 248 3 false false (Abz y4.2.2.1), .row 3 1 false false (tI y4.2.2.2)]⟩) (fun i4 y4 => Mq x y4.1 /\ y4.2.1.length = i4 /\ (∀ m ∈ y4.2.1, E4 m) /\ y4.2.2.1.length <= 257 * 1 + i4 /\ y4.2.2.2.length <= 257 * 1 + i4) (y3.1, [], y3.2.2.2.1, y3.2.2.2.2) ⟨[0, 1, 2, 3, 4, 5, 6, 7], Bp (by decide) ?_ ?_, by simp⟩ ⟨hy3.1, rfl, fun m hm => by simp at hm, by have := hy3.2.2.2.1; dsimp only; omega, by have := hy3.2.2.2.2; dsimp only; omega⟩ fun i4 y4 hi4 hy4 => ?_
  ·simp [go_sem, hr0]
  ·simp [go_sem, hr0]
  refine VX.R <| .seq ?_
  refine VX.C ?_ ?_ <;> intro h78 <;> simp [go_sem] at h78
  ·
   obtain ⟨t, ht⟩ : ∃ e, p.items[i4]? = some e := ⟨_, Aa (by omega)⟩
   have htp := hp.2 t (Ac ht)
   have hq := O4 cfg y4.1 1 t now hy4.1.d htp
   have hl1 : y4.2.1.length <= 257 := by have := hp.1; have := hy4.2.1; omega
   have hl2 : y4.2.2.1.length <= 600 := by have := hp.1; have := hy4.2.2.2.1; omega
   have hl3 : y4.2.2.2.length <= 600 := by have := hp.1; have := hy4.2.2.2.2; omega
   refine VX.skip <| .seq <| .block <| .S (fun K kk => by simp [go_sem, ht]; repeat first | exact kk | refine aK ?_) ?_
   refine VX.S (fun K kk => by simp [go_sem]; refine .l (Ox cfg y4.1 1 t now hy4.1.d htp) ?_; simp [go_sem]; exact kk) ?_
   refine VX.R ?_
   refine VX.E (fun K kk => by simp [go_sem]; repeat first | exact kk | refine aK ?_) ?_
   refine VX.S (fun K kk => by simp [go_sem]; repeat first | exact kk | refine aK ?_) ?_
   refine VX.R ?_
   refine VX.C ?_ ?_ <;> intro h108 <;> simp [go_sem] at h108
   ·
    refine VX.S1 (fun K kk => by simp [go_sem]; repeat first | exact kk | refine aK ?_) ?_
    refine VX.R1 ?_
    refine ⟨by omega, ((B4 cfg y4.1 1 t now hy4.1.d htp).1, y4.2.1 ++ [(B4 cfg y4.1 1 t now hy4.1.d htp).2.1], y4.2.2.1 ++ [(B4 cfg y4.1 1 t now hy4.1.d htp).2.2.1], y4.2.2.2 ++ [(B4 cfg y4.1 1 t now hy4.1.d htp).2.2.2]), ⟨hy4.1.next hq, ?_, Sy hy4.2.2.1 hq.2.2.2.2, ?_, ?_⟩, [0, 1, 2, 3, 4, 5, 6, 7], Bp (by decide) ?_ ?_, by simp⟩
    ·have := hy4.2.1; simp; omega
    ·have := hy4.2.2.2.1; simp; omega
    ·have := hy4.2.2.2.2; simp; omega
    ·simp [go_sem, Bq ((i4 : Int) + 1)]
    simp [go_sem]
   -- none
   refine VX.skip <| .R1 ?_
   refine ⟨by omega, ((B4 cfg y4.1 1 t now hy4.1.d htp).1, y4.2.1 ++ [(B4 cfg y4.1 1 t now hy4.1.d htp).2.1], y4.2.2.1 ++ [(B4 cfg y4.1 1 t now hy4.1.d htp).2.2.1], y4.2.2.2), ⟨hy4.1.next hq, ?_, Sy hy4.2.2.1 hq.2.2.2.2, ?_, ?_⟩, [0, 1, 2, 3, 4, 5, 6, 7], Bp (by decide) ?_ ?_, by simp⟩
   ·have := hy4.2.1; simp; omega
   ·have := hy4.2.2.2.1; simp; omega
   ·have := hy4.2.2.2.2; simp; omega
   ·simp [go_sem, Bq ((i4 : Int) + 1)]
   simp [go_sem]
  -- the end of the items
  refine VX.exit <| .R1 ?_
  refine ⟨by omega, (y4.1, y3.2.1, y4.2.1, y4.2.2.1, y4.2.2.2), ⟨hy4.1, ⟨(hy3.2.1).1, (hy3.2.1).2.1, fun h => (hy3.2.1).2.2 (by omega)⟩, ⟨by have := hp.1; have := hy4.2.1; dsimp only; omega, hy4.2.2.1, fun h => absurd h (by omega)⟩, by have := hp.1; have := hy4.2.2.2.1; dsimp only; omega, by have := hp.1; have := hy4.2.2.2.2; dsimp only; omega⟩, [0, 1, 2, 3, 4, 5, 6, 7], Bp (by decide) ?_ ?_, by simp⟩
  ·simp [go_sem, Bq (2 : Int)]
  simp [go_sem]
 -- the end
 refine VX.exit ?_
 have hre := hy3.1.d.reqs
 have hle := hy3.1.d.b.legs
 have hqm := Sa y3.1.reqs now hre hle
 refine VX.S (fun K kk => by simp [go_sem]; refine .l (Rr y3.1.reqs now hre hle) ?_; simp [go_sem]; exact kk) ?_
 refine VX.R ?_
 refine VX.F 4 ?_
 simp [go_sem]
 refine VX.F 5 ?_
 simp [go_sem]
 refine VX.sealB 3 1 (N8 [y3.2.1, y3.2.2.1]) rfl rfl (by simp) (by simp) ?_
 simp [go_sem]
 refine VX.F 6 ?_
 simp [go_sem]
 refine VX.F 7 ?_
 simp [go_sem]
 refine VX.ret (Co ?_); simp [go_sem]
 refine ⟨(⟨y3.1.reg, Hv y3.1.reqs now hre hle, y3.1.draws, y3.1.aud⟩, [y3.2.1, y3.2.2.1], y3.2.2.2.1, y3.2.2.2.2), by simp [go_sem], hy3.1.marked hqm.1 hqm.2, hy3.1.aud, hy3.1.num, hy3.1.ag, hn.symm, fun r hr => by simp only [List.mem_cons, A8, or_false] at hr; rcases hr with rfl | rfl <;> first | exact ⟨(hy3.2.1).1, (hy3.2.1).2.1⟩ | exact ⟨(hy3.2.2.1).1, (hy3.2.2.1).2.1⟩, ?_, ?_⟩
 ·have := hy3.2.2.2.1; dsimp only; omega
 have := hy3.2.2.2.2; dsimp only; omega
theorem Afm (cfg : Dy) (x : Bv) (l : List Hc) (now : Int) (hd : Ew x) (ha : x.aud.length <= 2) (hl : l.length <= 1000) (hi : ∀ p ∈ l, p.items.length <= 257 /\ ∀ t ∈ p.items, t.pay.length <= 1000) : Ct 125 [cfg.g, x.g, .mInp l, .li now] (fun d : Bv × List (List B3) × List Jp × List Int => .tup [d.1.g, .imm false 1 (N8 d.2.1), .mEnt d.2.2.1, .mI d.2.2.2]) (Aki x) := by
 have h : x.aud.length = 0 \/ x.aud.length = 1 \/ x.aud.length = 2 := by omega
 rcases h with h | h | h
 ·exact Abk cfg x l now hd h hl hi
 ·exact Abj cfg x l now hd h hl hi
 exact Abi cfg x l now hd h hl hi
end Go.Proofs.YtkkimgjinbaemaaGreat
