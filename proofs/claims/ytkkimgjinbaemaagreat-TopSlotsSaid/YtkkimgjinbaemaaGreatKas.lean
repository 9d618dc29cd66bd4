/- The walk. -/
import Derived.Test.YtkkimgjinbaemaaGreatKar
namespace Go.Proofs.YtkkimgjinbaemaaGreat
open Go.RowKit
set_option linter.unusedVariables false
set_option linter.unusedSimpArgs false
set_option maxRecDepth 100000
set_option maxHeartbeats 4000000
def HdR (cfg : Fa) (x : Du) (ses : Int) (it : Fq) (now : Int) (d : Du × Dz × Gc × Int) : Prop := ∃ hd hp, Fs cfg x ses it now hd hp = d
inductive ItR (cfg : Fa) (ses now : Int) (x : Du) : List Fq -> Du -> List Dz -> List Gc -> List Int -> Prop
  | nil : ItR cfg ses now x [] x [] [] []
  | app {l : List Fq} {y z : Du} {r : List Dz} {e : List Gc} {s : List Int} {t : Fq} {m : Dz} {n : Gc} {k : Int} : ItR cfg ses now x l y r e s -> HdR cfg y ses t now (z, m, n, k) -> ItR cfg ses now x (l ++ [t]) z (r ++ [m]) (e ++ [n]) (s ++ if 0 <= k then [k] else [])
inductive SeR (cfg : Fa) (now : Int) (x : Du) : List Gi -> Du -> List (List Dz) -> List Gc -> List Int -> Prop
  | nil : SeR cfg now x [] x [] [] []
  | closed {l : List Gi} {y : Du} {r : List (List Dz)} {e : List Gc} {s : List Int} {p : Gi} : SeR cfg now x l y r e s -> p.op = false -> SeR cfg now x (l ++ [p]) y (r ++ [[]]) e s
  | opened {l : List Gi} {y z : Du} {r : List (List Dz)} {e e' : List Gc} {s s' : List Int} {p : Gi} {q : List Dz} : SeR cfg now x l y r e s -> p.op = true -> ItR cfg l.length now y p.items z q e' s' -> SeR cfg now x (l ++ [p]) z (r ++ [q]) (e ++ e') (s ++ s')
theorem ItR.next {cfg : Fa} {ses now : Int} {x y : Du} {l : List Fq} {r : List Dz} {e : List Gc} {s s' : List Int} {i : Nat} {t : Fq} {d : Du × Dz × Gc × Int} (h : ItR cfg ses now x (l.take i) y r e s) (ht : l[i]? = some t) (hd : HdR cfg y ses t now d) (hs : s' = s ++ if 0 <= d.2.2.2 then [d.2.2.2] else []) : ItR cfg ses now x (l.take (i + 1)) d.1 (r ++ [d.2.1]) (e ++ [d.2.2.1]) s' := by
 rw [List.take_add_one, ht, hs]
 exact h.app hd
theorem SeR.shut {cfg : Fa} {now : Int} {x y : Du} {l : List Gi} {r : List (List Dz)} {e : List Gc} {s : List Int} {i : Nat} {p : Gi} (h : SeR cfg now x (l.take i) y r e s) (hp : l[i]? = some p) (ho : p.op = false) : SeR cfg now x (l.take (i + 1)) y (r ++ [[]]) e s := by
 rw [List.take_add_one, hp]
 exact h.closed ho
theorem SeR.next {cfg : Fa} {now : Int} {x y z : Du} {l : List Gi} {r : List (List Dz)} {e e' : List Gc} {s s' : List Int} {i : Nat} {p : Gi} {q : List Dz} (h : SeR cfg now x (l.take i) y r e s) (hp : l[i]? = some p) (ho : p.op = true) (hi : ItR cfg i now y p.items z q e' s') : SeR cfg now x (l.take (i + 1)) z (r ++ [q]) (e ++ e') (s ++ s') := by
 have hl : (l.take i).length = i := by have := (Ab.1 hp).1; rw [A5]; omega
 rw [List.take_add_one, hp]
 exact h.opened ho (by rw [hl]; exact hi)
def Aro (x y : List Bool) : Prop := ∀ k : Nat, y[k]? = x[k]? \/ y[k]? = some false
theorem Ahp {x y : List Bool} (h : Aro x y) (i : Nat) : Aro x (y.set i false) := fun k => by
 by_cases hk : i = k
 ·subst hk
  by_cases hl : i < y.length
  ·exact .inr (Bg hl)
  rw [List.set_eq_of_length_le (by omega)]; exact h _
 rw [A9 hk]; exact h k
def Anm (cfg : Fa) (x : Du) (l : List Gi) (now : Int) (d : Du × List (List Dz) × List Gc × List Int) : Prop := ∃ (b : List Bool) (y : Du) (r : List (List Dz)) (h1 : y.reqs.length <= 3) (h2 : ∀ q ∈ y.reqs, q.legs.length <= 1000000), b.length = x.aud.length /\ Aro x.aud b /\ SeR cfg now ⟨x.reg, x.reqs, x.draws, b⟩ (l.take x.aud.length) y r d.2.2.1 d.2.2.2 /\ d.1 = ⟨y.reg, I5 y.reqs now h1 h2, y.draws, y.aud⟩ /\ d.2.1 = r ++ List.replicate (x.aud.length - r.length) []
def Ann (x : Du) (d : Du × List (List Dz) × List Gc × List Int) : Prop := F4 d.1 /\ d.1.aud.length = x.aud.length /\ d.1.reg.num = x.reg.num /\ d.1.reg.ag = x.reg.ag /\ d.2.1.length = x.aud.length /\ (∀ r ∈ d.2.1, r.length <= 257 /\ ∀ m ∈ r, Hj m) /\ d.2.2.1.length <= 600 /\ d.2.2.2.length <= 600
structure Qo (x y : Du) : Prop where
  d : F4 y
  aud : y.aud.length = x.aud.length
  num : y.reg.num = x.reg.num
  ag : y.reg.ag = x.reg.ag
theorem Vf {α : Type} {p : α -> Prop} {l : List α} {x : α} (h : ∀ y ∈ l, p y) (hx : p x) : ∀ y ∈ l ++ [x], p y := fun y hy => by
 rcases A0.1 hy with h1 | h1
 ·exact h y h1
 rw [An.1 h1]; exact hx
theorem Qo.next {x y z : Du} {m : Dz} (h : Qo x y) (q : Ato y z m) : Qo x z := ⟨q.1, q.2.1.trans h.aud, q.2.2.1.trans h.num, q.2.2.2.1.trans h.ag⟩
theorem Qo.marked {x y : Du} (h : Qo x y) {rs : List Em} (h1 : rs.length = y.reqs.length) (h2 : ∀ r ∈ rs, r.legs.length <= 1000000) : F4 ⟨y.reg, rs, y.draws, y.aud⟩ := ⟨⟨h.d.b.reg, by rw [h1]; exact h.d.b.reqs, h2, h.d.b.draws, h.d.b.draw, h.d.b.aud⟩, h.d.vehs, by rw [h1]; exact h.d.reqs, h.d.dr, h.d.rq⟩
theorem Qo.audited {x : Du} (h : F4 x) {l : List Bool} (h1 : l.length = x.aud.length) : Qo x ⟨x.reg, x.reqs, x.draws, l⟩ := ⟨⟨⟨h.b.reg, h.b.reqs, h.b.legs, h.b.draws, h.b.draw, by show l.length <= _; rw [h1]; exact h.b.aud⟩, h.vehs, h.reqs, h.dr, h.rq⟩, h1, rfl, rfl⟩
theorem Ad9 (cfg : Fa) (x : Du) (l : List Gi) (now : Int) (hd : F4 x) (hn : x.aud.length = 1) (hl : l.length <= 1000) (hi : ∀ p ∈ l, p.items.length <= 257 /\ ∀ t ∈ p.items, t.pay.length <= 1000) : Ct 125 [cfg.g, x.g, .mInp l, .li now] (fun d : Du × List (List Dz) × List Gc × List Int => .tup [d.1.g, .imm false 1 (Qg d.2.1), .mEnt d.2.2.1, .mI d.2.2.2]) (fun d => Ann x d /\ Anm cfg x l now d) := by
 refine Ek Tryz.func125 ?_
 refine Bq ?_
 refine B3 (fun K kk => by simp [go_sem, hn]; refine .l (Om x hd.b) ?_; simp [go_sem, hn]; exact kk) ?_
 refine Di 3 _ 152 (.tmp 27) (.tmp 27) (by rfl) rfl rfl rfl (by rfl) (by rfl) fun K1 hK1 => ?_
 simp [go_sem, hn]
 refine hK1 _ ?_; clear hK1
 refine VX.toBox 4 rfl (by simp) (by simp) ?_
 simp [go_sem, hn, N4, List.replicate]
 refine VX.own0l 4 0 56 4 (by decide) rfl rfl ?_
 simp [go_sem]
 iterate 2 refine Bq ?_
 refine Cg 13 248 3 (by decide) (k' := 3) (by simp [go_sem]) ?_
 simp [go_sem]
 refine Cg 14 3 1 (by decide) (k' := 1) (by simp [go_sem]) ?_
 simp [go_sem]
 obtain ⟨lq, hlq⟩ : ∃ lq, lq = l.take (min l.length 1) := ⟨_, rfl⟩
 have hll : lq.length <= 1 := by rw [hlq, A5]; omega
 have hiq : ∀ p ∈ lq, p.items.length <= 257 /\ ∀ t ∈ p.items, t.pay.length <= 1000 := fun p hp => hi p (Aq (by rw [hlq] at hp; exact hp))
 have hT : List.take (if (1 : Int) < (l.length : Int) then (1 : Int) else (l.length : Int)).toNat (List.map Gi.t l) = List.map Gi.t lq := by rw [hlq, List.map_take]; congr 1; split <;> omega
 refine B3 (fun K kk => by simp [go_sem, hn, hT]; repeat first | exact kk | refine aK ?_) <| .seq ?_
 refine B3 (fun K kk => by simp [go_sem, hn]; exact kk) <| .block ?_
 refine Bs 1 (fun i1 (y1 : List Bool) => ⟨[(2, .mInp lq), (3, .li now), (4, .ptr 0 0), (5, .ptr 1 0), (8, .ptr 2 0), (9, .nil 1), (10, .nil 3), (11, .nil 1), (12, .bsl 4 1), (13, .own 6 0), (14, .own 7 0), (39, .li 1), (40, .li i1)], [.box 30 (cfg.a false), .box 70 [.li x.reg.num, .mY x.reg.ag.sec, .li x.reg.ag.ri, .li x.reg.ag.cls, .mI x.reg.ag.lims, .li x.reg.ag.rq, .li x.reg.ag.se, .li x.reg.ag.ra, .li x.reg.ag.bu, .mTok x.reg.toks, .mVeh x.reg.vehs, .li x.reg.bk.lv, .li x.reg.bk.ra, .li x.reg.bk.bu, .mReq x.reqs, .mYs x.draws, .own 3 1], .box 70 [.li 0, .nil 1, .li 0, .li 0, .nil 1, .li 0, .li 0, .li 0, .li 0, .nil 6, .nil 2, .li 0, .li 0, .li 0, .nil 5, .nil 1, .nil 1], .row 4 1 false false (tB y1), .box 80 [.own 5 0], .row 56 4 true false [], .row 248 3 true false [], .row 3 1 true false []]⟩) (fun i1 y1 => y1.length = 1 /\ Aro x.aud y1) x.aud ⟨[0, 1, 2, 3, 4, 5, 6, 7], Ds (by decide) ?_ ?_, by simp⟩ ⟨hn, fun k => .inl rfl⟩ fun i1 y1 hi1 hy1 => ?_
 ·simp [go_sem, hn]
 ·simp [go_sem, hn]
 obtain ⟨hy1, hya⟩ := hy1
 refine Bq <| .seq ?_
 refine Br ?_ ?_ <;> intro h41
 ·
  refine Bp <| .seq <| .block <| .R ?_
  obtain ⟨ax, hax⟩ : ∃ e, y1[i1]? = some e := ⟨_, Aa (by omega)⟩
  by_cases hc : i1 < lq.length
  ·obtain ⟨p, hx⟩ : ∃ e, lq[i1]? = some e := ⟨_, Aa hc⟩
   have hcq : ¬ ((lq.length : Int) <= i1) := by omega
   refine B3 (fun K kk => by simp [go_sem, hcq, hx, hc]; repeat first | exact kk | refine aK ?_) ?_
   refine Br ?_ ?_ <;> intro h54
   ·
    refine Cb (fun K kk => by simp [go_sem, hax, hy1]; repeat first | exact kk | refine aK ?_) ?_
    refine Ci ?_
    refine ⟨by omega, y1.set i1 false, ?_, [0, 1, 2, 3, 4, 5, 6, 7], Ds (by decide) ?_ ?_, by simp⟩
    ·exact ⟨by simpa using hy1, Ahp hya i1⟩
    ·simp [go_sem, Dt ((i1 : Int) + 1)]
    simp [go_sem, hy1, List.map_set]
   -- none
   refine Bp <| .R1 ?_
   refine ⟨by omega, y1, ?_, [0, 1, 2, 3, 4, 5, 6, 7], Ds (by decide) ?_ ?_, by simp⟩
   ·exact ⟨by simpa using hy1, hya⟩
   ·simp [go_sem, Dt ((i1 : Int) + 1)]
   simp [go_sem, hy1, List.map_set]
  have hcq : (lq.length : Int) <= i1 := by omega
  refine B3 (fun K kk => by simp [go_sem, hcq]; exact kk) ?_
  refine C5 ?_ ?_ <;> intro h54 <;> simp [go_sem] at h54
  refine Cb (fun K kk => by simp [go_sem, hax, hy1]; repeat first | exact kk | refine aK ?_) ?_
  refine Ci ?_
  refine ⟨by omega, y1.set i1 false, ?_, [0, 1, 2, 3, 4, 5, 6, 7], Ds (by decide) ?_ ?_, by simp⟩
  ·exact ⟨by simpa using hy1, Ahp hya i1⟩
  ·simp [go_sem, Dt ((i1 : Int) + 1)]
  simp [go_sem, hy1, List.map_set]
 -- the end of the first loop
 refine Bt <| .F 3 ?_
 simp [go_sem, hy1]
 refine Ca <| .R <| .block ?_
 refine Bs lq.length (fun i3 (y3 : Du × List Dz × List Gc × List Int) => ⟨[(2, .mInp lq), (3, .li now), (4, .ptr 0 0), (5, .ptr 1 0), (8, .ptr 2 0), (9, .nil 1), (10, .nil 3), (11, .nil 1), (12, .bsl 3 1), (13, .own 5 y3.2.2.1.length), (14, .own 6 y3.2.2.2.length), (61, .li lq.length), (62, .li i3)], [.box 30 (cfg.a false), .box 70 (y3.1.a false), .box 70 [.li 0, .nil 1, .li 0, .li 0, .nil 1, .li 0, .li 0, .li 0, .li 0, .nil 6, .nil 2, .li 0, .li 0, .li 0, .nil 5, .nil 1, .nil 1], .box 80 [.own 4 y3.2.1.length], .row 56 4 false false (Q7 y3.2.1), .row 248 3 false false (Aep y3.2.2.1), .row 3 1 false false (tI y3.2.2.2)]⟩) (fun i3 y3 => Qo x y3.1 /\ (y3.2.1.length <= 257 /\ (∀ m ∈ y3.2.1, Hj m) /\ (i3 <= 0 -> y3.2.1 = [])) /\ y3.2.2.1.length <= 257 * i3 /\ y3.2.2.2.length <= 257 * i3 /\ SeR cfg now ⟨x.reg, x.reqs, x.draws, y1⟩ (lq.take i3) y3.1 (([y3.2.1] : List (List Dz)).take i3) y3.2.2.1 y3.2.2.2) (⟨x.reg, x.reqs, x.draws, y1⟩, [], [], []) ⟨[0, 1, 2, 4, 5, 6, 7], Ds (by decide) ?_ ?_, by simp⟩ (⟨Qo.audited hd (by omega), ⟨by simp, fun m hm => by simp at hm, fun _ => rfl⟩, by simp, by simp, .nil⟩) fun i3 y3 hi3 hy3 => ?_
 ·simp [go_sem, hy1]
 ·simp [go_sem, hy1]
 refine Bq <| .seq ?_
 refine Br ?_ ?_ <;> intro h63
 ·
  obtain ⟨p, hx⟩ : ∃ e, lq[i3]? = some e := ⟨_, Aa (by omega)⟩
  have hp := hiq p (Ac hx)
  refine Bp <| .seq <| .block <| .R <| .seq ?_
  refine B3 (fun K kk => by simp [go_sem, hx]; repeat first | exact kk | refine aK ?_) ?_
  refine Br ?_ ?_ <;> intro h70
  ·
   have hs := SeR.shut hy3.2.2.2.2 hx h70
   have hSx : SeR cfg now ⟨x.reg, x.reqs, x.draws, y1⟩ (lq.take (i3 + 1)) y3.1 (([y3.2.1] : List (List Dz)).take (i3 + 1)) y3.2.2.1 y3.2.2.2 := by
    have hin : i3 = 0 := by omega
    subst hin
    have h0 := (hy3.2.1).2.2 (by omega)
    simpa [h0] using hs
   refine Bt <| .R1 ?_
   refine ⟨by omega, y3, ⟨hy3.1, ⟨(hy3.2.1).1, (hy3.2.1).2.1, fun h => (hy3.2.1).2.2 (by omega)⟩, by have := hy3.2.2.1; omega, by have := hy3.2.2.2.1; omega, hSx⟩, [0, 1, 2, 3, 4, 5, 6], Ds (by decide) ?_ ?_, by simp⟩
   ·simp [go_sem, Dt ((i3 : Int) + 1)]
   simp [go_sem]
  refine Bp <| .S (fun K kk => by simp [go_sem, hx]; repeat first | exact kk | refine aK ?_) <| .block ?_
  have hin : i3 = 0 := by omega
  subst hin
  -- session 0
  have hr0 : y3.2.1 = [] := (hy3.2.1).2.2 (by omega)
  refine Bs p.items.length (fun i4 (y4 : Du × List Dz × List Gc × List Int) => ⟨[(2, .mInp lq), (3, .li now), (4, .ptr 0 0), (5, .ptr 1 0), (8, .ptr 2 0), (9, .nil 1), (10, .nil 3), (11, .nil 1), (12, .bsl 3 1), (13, .own 5 y4.2.2.1.length), (14, .own 6 y4.2.2.2.length), (61, .li lq.length), (62, .li 0), (16, .li 0), (75, .mItem p.items), (76, .li p.items.length), (77, .li i4)], [.box 30 (cfg.a false), .box 70 (y4.1.a false), .box 70 [.li 0, .nil 1, .li 0, .li 0, .nil 1, .li 0, .li 0, .li 0, .li 0, .nil 6, .nil 2, .li 0, .li 0, .li 0, .nil 5, .nil 1, .nil 1], .box 80 [.own 4 y4.2.1.length], .row 56 4 false false (Q7 y4.2.1), .row 248 3 false false (Aep y4.2.2.1), .row 3 1 false false (tI y4.2.2.2)]⟩) (fun i4 y4 => Qo x y4.1 /\ y4.2.1.length = i4 /\ (∀ m ∈ y4.2.1, Hj m) /\ y4.2.2.1.length <= 257 * 0 + i4 /\ y4.2.2.2.length <= 257 * 0 + i4 /\ ∃ e' s', ItR cfg 0 now y3.1 (p.items.take i4) y4.1 y4.2.1 e' s' /\ y4.2.2.1 = y3.2.2.1 ++ e' /\ y4.2.2.2 = y3.2.2.2 ++ s') (y3.1, [], y3.2.2.1, y3.2.2.2) ⟨[0, 1, 2, 3, 4, 5, 6], Ds (by decide) ?_ ?_, by simp⟩ ⟨hy3.1, rfl, fun m hm => by simp at hm, by have := hy3.2.2.1; dsimp only; omega, by have := hy3.2.2.2.1; dsimp only; omega, [], [], .nil, by simp, by simp⟩ fun i4 y4 hi4 hy4 => ?_
  ·simp [go_sem, hr0]
  ·simp [go_sem, hr0]
  refine Bq <| .seq ?_
  refine Br ?_ ?_ <;> intro h78
  ·
   obtain ⟨t, ht⟩ : ∃ e, p.items[i4]? = some e := ⟨_, Aa (by omega)⟩
   have htp := hp.2 t (Ac ht)
   have hG := Q4 cfg y4.1 0 t now hy4.1.d htp
   have hq := (Nq cfg y4.1 0 t now hy4.1.d htp).1
   have hGe : HdR cfg y4.1 0 t now (Fs cfg y4.1 0 t now hy4.1.d htp) := ⟨_, _, rfl⟩
   generalize Fs cfg y4.1 0 t now hy4.1.d htp = G at hG hq hGe
   have hl1 : y4.2.1.length <= 257 := by have := hp.1; have := hy4.2.1; omega
   have hl2 : y4.2.2.1.length <= 600 := by have := hp.1; have := hy4.2.2.2.1; omega
   have hl3 : y4.2.2.2.length <= 600 := by have := hp.1; have := hy4.2.2.2.2.1; omega
   refine Bp <| .seq <| .block <| .S (fun K kk => by simp [go_sem, ht]; repeat first | exact kk | refine aK ?_) ?_
   refine B3 (fun K kk => by simp [go_sem]; refine .l (hG) ?_; simp [go_sem]; exact kk) ?_
   refine Bq ?_
   refine Cz (fun K kk => by simp [go_sem]; repeat first | exact kk | refine aK ?_) ?_
   refine B3 (fun K kk => by simp [go_sem]; repeat first | exact kk | refine aK ?_) ?_
   refine Bq ?_
   refine Br ?_ ?_ <;> intro h108
   ·
    refine Cb (fun K kk => by simp [go_sem]; repeat first | exact kk | refine aK ?_) ?_
    obtain ⟨e', s', hI, he, hs⟩ := hy4.2.2.2.2.2
    have hIx : ∃ e'' s'', ItR cfg 0 now y3.1 (p.items.take (i4 + 1)) G.1 (y4.2.1 ++ [G.2.1]) e'' s'' /\ y4.2.2.1 ++ [G.2.2.1] = y3.2.2.1 ++ e'' /\ y4.2.2.2 ++ [G.2.2.2] = y3.2.2.2 ++ s'' := ⟨_, _, hI.next ht hGe rfl, (congrArg (fun v => v ++ [G.2.2.1]) he).trans (List.append_assoc _ _ _), by rw [if_pos h108]; exact (congrArg (fun v => v ++ [G.2.2.2]) hs).trans (List.append_assoc _ _ _)⟩
    refine Ci ?_
    refine ⟨by omega, (G.1, y4.2.1 ++ [G.2.1], y4.2.2.1 ++ [G.2.2.1], y4.2.2.2 ++ [G.2.2.2]), ⟨hy4.1.next hq, ?_, Vf hy4.2.2.1 hq.2.2.2.2, ?_, ?_, hIx⟩, [0, 1, 2, 3, 4, 5, 6], Ds (by decide) ?_ ?_, by simp⟩
    ·have := hy4.2.1; simp; omega
    ·have := hy4.2.2.2.1; simp; omega
    ·have := hy4.2.2.2.2.1; simp; omega
    ·simp [go_sem, Dt ((i4 : Int) + 1)]
    simp [go_sem]
   -- none
   refine Bp ?_
   obtain ⟨e', s', hI, he, hs⟩ := hy4.2.2.2.2.2
   have hIx : ∃ e'' s'', ItR cfg 0 now y3.1 (p.items.take (i4 + 1)) G.1 (y4.2.1 ++ [G.2.1]) e'' s'' /\ y4.2.2.1 ++ [G.2.2.1] = y3.2.2.1 ++ e'' /\ y4.2.2.2 = y3.2.2.2 ++ s'' := ⟨_, _, hI.next ht hGe rfl, (congrArg (fun v => v ++ [G.2.2.1]) he).trans (List.append_assoc _ _ _), by rw [if_neg (by omega), List.append_nil]; exact hs⟩
   refine Ci ?_
   refine ⟨by omega, (G.1, y4.2.1 ++ [G.2.1], y4.2.2.1 ++ [G.2.2.1], y4.2.2.2), ⟨hy4.1.next hq, ?_, Vf hy4.2.2.1 hq.2.2.2.2, ?_, ?_, hIx⟩, [0, 1, 2, 3, 4, 5, 6], Ds (by decide) ?_ ?_, by simp⟩
   ·have := hy4.2.1; simp; omega
   ·have := hy4.2.2.2.1; simp; omega
   ·have := hy4.2.2.2.2.1; simp; omega
   ·simp [go_sem, Dt ((i4 : Int) + 1)]
   simp [go_sem]
  -- the end of the items
  obtain ⟨e', s', hI, he, hs⟩ := hy4.2.2.2.2.2
  rw [Bf (by omega)] at hI
  have hSx : SeR cfg now ⟨x.reg, x.reqs, x.draws, y1⟩ (lq.take (0 + 1)) y4.1 (([y4.2.1] : List (List Dz)).take (0 + 1)) y4.2.2.1 y4.2.2.2 := by
   have hS := SeR.next hy3.2.2.2.2 hx h70 hI
   rw [he, hs]
   simpa using hS
  refine Bt <| .R1 ?_
  refine ⟨by omega, (y4.1, y4.2.1, y4.2.2.1, y4.2.2.2), ⟨hy4.1, ⟨by have := hp.1; have := hy4.2.1; dsimp only; omega, hy4.2.2.1, fun h => absurd h (by omega)⟩, by have := hp.1; have := hy4.2.2.2.1; dsimp only; omega, by have := hp.1; have := hy4.2.2.2.2.1; dsimp only; omega, hSx⟩, [0, 1, 2, 3, 4, 5, 6], Ds (by decide) ?_ ?_, by simp⟩
  ·simp [go_sem, Dt (1 : Int)]
  simp [go_sem]
 -- the end
 refine Bt ?_
 have hre := hy3.1.d.reqs
 have hle := hy3.1.d.b.legs
 have hqm := Uo y3.1.reqs now hre hle
 refine B3 (fun K kk => by simp [go_sem]; refine .l (T5 y3.1.reqs now hre hle) ?_; simp [go_sem]; exact kk) ?_
 refine Bq ?_
 refine Dg 4 ?_
 simp [go_sem]
 refine C6 3 1 (Qg [y3.2.1]) rfl rfl (by simp) (by simp) ?_
 simp [go_sem]
 refine Dg 5 ?_
 simp [go_sem]
 refine Dg 6 ?_
 simp [go_sem]
 refine Bz (Ex ?_); simp [go_sem]
 refine ⟨(⟨y3.1.reg, I5 y3.1.reqs now hre hle, y3.1.draws, y3.1.aud⟩, [y3.2.1], y3.2.2.1, y3.2.2.2), by simp [go_sem], ⟨hy3.1.marked hqm.1 hqm.2, hy3.1.aud, hy3.1.num, hy3.1.ag, hn.symm, fun r hr => by simp only [List.mem_cons, A8, or_false] at hr; subst hr <;> first | exact ⟨(hy3.2.1).1, (hy3.2.1).2.1⟩, ?_, ?_⟩, y1, y3.1, ([y3.2.1] : List (List Dz)).take i3, hre, hle, by omega, hya, ?_, rfl, ?_⟩
 ·have := hy3.2.2.1; dsimp only; omega
 ·have := hy3.2.2.2.1; dsimp only; omega
 ·have hS := hy3.2.2.2.2
  rw [hn, show l.take 1 = lq.take i3 by rw [Bf (l := lq) (i := i3) (by omega), hlq, List.take_eq_take_iff]; omega]
  exact hS
 have hin : i3 = 0 \/ i3 = 1 := by omega
 rcases hin with rfl | rfl <;> simp [hn, List.replicate, (hy3.2.1).2.2]
theorem Ad8 (cfg : Fa) (x : Du) (l : List Gi) (now : Int) (hd : F4 x) (hn : x.aud.length = 2) (hl : l.length <= 1000) (hi : ∀ p ∈ l, p.items.length <= 257 /\ ∀ t ∈ p.items, t.pay.length <= 1000) : Ct 125 [cfg.g, x.g, .mInp l, .li now] (fun d : Du × List (List Dz) × List Gc × List Int => .tup [d.1.g, .imm false 1 (Qg d.2.1), .mEnt d.2.2.1, .mI d.2.2.2]) (fun d => Ann x d /\ Anm cfg x l now d) := by
 refine Ek Tryz.func125 ?_
 refine Bq ?_
 refine B3 (fun K kk => by simp [go_sem, hn]; refine .l (Om x hd.b) ?_; simp [go_sem, hn]; exact kk) ?_
 refine Di 3 _ 152 (.tmp 27) (.tmp 27) (by rfl) rfl rfl rfl (by rfl) (by rfl) fun K1 hK1 => ?_
 simp [go_sem, hn]
 refine hK1 _ ?_; clear hK1
 refine VX.toBox 4 rfl (by simp) (by simp) ?_
 simp [go_sem, hn, N4, List.replicate]
 refine VX.own0l 4 0 56 4 (by decide) rfl rfl ?_
 simp [go_sem]
 refine VX.own0l 4 1 56 4 (by decide) rfl rfl ?_
 simp [go_sem]
 iterate 2 refine Bq ?_
 refine Cg 13 248 3 (by decide) (k' := 3) (by simp [go_sem]) ?_
 simp [go_sem]
 refine Cg 14 3 1 (by decide) (k' := 1) (by simp [go_sem]) ?_
 simp [go_sem]
 obtain ⟨lq, hlq⟩ : ∃ lq, lq = l.take (min l.length 2) := ⟨_, rfl⟩
 have hll : lq.length <= 2 := by rw [hlq, A5]; omega
 have hiq : ∀ p ∈ lq, p.items.length <= 257 /\ ∀ t ∈ p.items, t.pay.length <= 1000 := fun p hp => hi p (Aq (by rw [hlq] at hp; exact hp))
 have hT : List.take (if (2 : Int) < (l.length : Int) then (2 : Int) else (l.length : Int)).toNat (List.map Gi.t l) = List.map Gi.t lq := by rw [hlq, List.map_take]; congr 1; split <;> omega
 refine B3 (fun K kk => by simp [go_sem, hn, hT]; repeat first | exact kk | refine aK ?_) <| .seq ?_
 refine B3 (fun K kk => by simp [go_sem, hn]; exact kk) <| .block ?_
 refine Bs 2 (fun i1 (y1 : List Bool) => ⟨[(2, .mInp lq), (3, .li now), (4, .ptr 0 0), (5, .ptr 1 0), (8, .ptr 2 0), (9, .nil 1), (10, .nil 3), (11, .nil 1), (12, .bsl 4 2), (13, .own 7 0), (14, .own 8 0), (39, .li 2), (40, .li i1)], [.box 30 (cfg.a false), .box 70 [.li x.reg.num, .mY x.reg.ag.sec, .li x.reg.ag.ri, .li x.reg.ag.cls, .mI x.reg.ag.lims, .li x.reg.ag.rq, .li x.reg.ag.se, .li x.reg.ag.ra, .li x.reg.ag.bu, .mTok x.reg.toks, .mVeh x.reg.vehs, .li x.reg.bk.lv, .li x.reg.bk.ra, .li x.reg.bk.bu, .mReq x.reqs, .mYs x.draws, .own 3 2], .box 70 [.li 0, .nil 1, .li 0, .li 0, .nil 1, .li 0, .li 0, .li 0, .li 0, .nil 6, .nil 2, .li 0, .li 0, .li 0, .nil 5, .nil 1, .nil 1], .row 4 1 false false (tB y1), .box 80 [.own 5 0, .own 6 0], .row 56 4 true false [], .row 56 4 true false [], .row 248 3 true false [], .row 3 1 true false []]⟩) (fun i1 y1 => y1.length = 2 /\ Aro x.aud y1) x.aud ⟨[0, 1, 2, 3, 4, 5, 6, 7, 8], Ds (by decide) ?_ ?_, by simp⟩ ⟨hn, fun k => .inl rfl⟩ fun i1 y1 hi1 hy1 => ?_
 ·simp [go_sem, hn]
 ·simp [go_sem, hn]
 obtain ⟨hy1, hya⟩ := hy1
 refine Bq <| .seq ?_
 refine Br ?_ ?_ <;> intro h41
 ·
  refine Bp <| .seq <| .block <| .R ?_
  obtain ⟨ax, hax⟩ : ∃ e, y1[i1]? = some e := ⟨_, Aa (by omega)⟩
  by_cases hc : i1 < lq.length
  ·obtain ⟨p, hx⟩ : ∃ e, lq[i1]? = some e := ⟨_, Aa hc⟩
   have hcq : ¬ ((lq.length : Int) <= i1) := by omega
   refine B3 (fun K kk => by simp [go_sem, hcq, hx, hc]; repeat first | exact kk | refine aK ?_) ?_
   refine Br ?_ ?_ <;> intro h54
   ·
    refine Cb (fun K kk => by simp [go_sem, hax, hy1]; repeat first | exact kk | refine aK ?_) ?_
    refine Ci ?_
    refine ⟨by omega, y1.set i1 false, ?_, [0, 1, 2, 3, 4, 5, 6, 7, 8], Ds (by decide) ?_ ?_, by simp⟩
    ·exact ⟨by simpa using hy1, Ahp hya i1⟩
    ·simp [go_sem, Dt ((i1 : Int) + 1)]
    simp [go_sem, hy1, List.map_set]
   -- none
   refine Bp <| .R1 ?_
   refine ⟨by omega, y1, ?_, [0, 1, 2, 3, 4, 5, 6, 7, 8], Ds (by decide) ?_ ?_, by simp⟩
   ·exact ⟨by simpa using hy1, hya⟩
   ·simp [go_sem, Dt ((i1 : Int) + 1)]
   simp [go_sem, hy1, List.map_set]
  have hcq : (lq.length : Int) <= i1 := by omega
  refine B3 (fun K kk => by simp [go_sem, hcq]; exact kk) ?_
  refine C5 ?_ ?_ <;> intro h54 <;> simp [go_sem] at h54
  refine Cb (fun K kk => by simp [go_sem, hax, hy1]; repeat first | exact kk | refine aK ?_) ?_
  refine Ci ?_
  refine ⟨by omega, y1.set i1 false, ?_, [0, 1, 2, 3, 4, 5, 6, 7, 8], Ds (by decide) ?_ ?_, by simp⟩
  ·exact ⟨by simpa using hy1, Ahp hya i1⟩
  ·simp [go_sem, Dt ((i1 : Int) + 1)]
  simp [go_sem, hy1, List.map_set]
 -- the end of the first loop
 refine Bt <| .F 3 ?_
 simp [go_sem, hy1]
 refine Ca <| .R <| .block ?_
 refine Bs lq.length (fun i3 (y3 : Du × List Dz × List Dz × List Gc × List Int) => ⟨[(2, .mInp lq), (3, .li now), (4, .ptr 0 0), (5, .ptr 1 0), (8, .ptr 2 0), (9, .nil 1), (10, .nil 3), (11, .nil 1), (12, .bsl 3 2), (13, .own 6 y3.2.2.2.1.length), (14, .own 7 y3.2.2.2.2.length), (61, .li lq.length), (62, .li i3)], [.box 30 (cfg.a false), .box 70 (y3.1.a false), .box 70 [.li 0, .nil 1, .li 0, .li 0, .nil 1, .li 0, .li 0, .li 0, .li 0, .nil 6, .nil 2, .li 0, .li 0, .li 0, .nil 5, .nil 1, .nil 1], .box 80 [.own 4 y3.2.1.length, .own 5 y3.2.2.1.length], .row 56 4 false false (Q7 y3.2.1), .row 56 4 false false (Q7 y3.2.2.1), .row 248 3 false false (Aep y3.2.2.2.1), .row 3 1 false false (tI y3.2.2.2.2)]⟩) (fun i3 y3 => Qo x y3.1 /\ (y3.2.1.length <= 257 /\ (∀ m ∈ y3.2.1, Hj m) /\ (i3 <= 0 -> y3.2.1 = [])) /\ (y3.2.2.1.length <= 257 /\ (∀ m ∈ y3.2.2.1, Hj m) /\ (i3 <= 1 -> y3.2.2.1 = [])) /\ y3.2.2.2.1.length <= 257 * i3 /\ y3.2.2.2.2.length <= 257 * i3 /\ SeR cfg now ⟨x.reg, x.reqs, x.draws, y1⟩ (lq.take i3) y3.1 (([y3.2.1, y3.2.2.1] : List (List Dz)).take i3) y3.2.2.2.1 y3.2.2.2.2) (⟨x.reg, x.reqs, x.draws, y1⟩, [], [], [], []) ⟨[0, 1, 2, 4, 5, 6, 7, 8], Ds (by decide) ?_ ?_, by simp⟩ (⟨Qo.audited hd (by omega), ⟨by simp, fun m hm => by simp at hm, fun _ => rfl⟩, ⟨by simp, fun m hm => by simp at hm, fun _ => rfl⟩, by simp, by simp, .nil⟩) fun i3 y3 hi3 hy3 => ?_
 ·simp [go_sem, hy1]
 ·simp [go_sem, hy1]
 refine Bq <| .seq ?_
 refine Br ?_ ?_ <;> intro h63
 ·
  obtain ⟨p, hx⟩ : ∃ e, lq[i3]? = some e := ⟨_, Aa (by omega)⟩
  have hp := hiq p (Ac hx)
  refine Bp <| .seq <| .block <| .R <| .seq ?_
  refine B3 (fun K kk => by simp [go_sem, hx]; repeat first | exact kk | refine aK ?_) ?_
  refine Br ?_ ?_ <;> intro h70
  ·
   have hs := SeR.shut hy3.2.2.2.2.2 hx h70
   have hSx : SeR cfg now ⟨x.reg, x.reqs, x.draws, y1⟩ (lq.take (i3 + 1)) y3.1 (([y3.2.1, y3.2.2.1] : List (List Dz)).take (i3 + 1)) y3.2.2.2.1 y3.2.2.2.2 := by
    have hin : i3 = 0 \/ i3 = 1 := by omega
    rcases hin with rfl | rfl
    ·have h0 := (hy3.2.1).2.2 (by omega)
     simpa [h0] using hs
    have h0 := (hy3.2.2.1).2.2 (by omega)
    simpa [h0] using hs
   refine Bt <| .R1 ?_
   refine ⟨by omega, y3, ⟨hy3.1, ⟨(hy3.2.1).1, (hy3.2.1).2.1, fun h => (hy3.2.1).2.2 (by omega)⟩, ⟨(hy3.2.2.1).1, (hy3.2.2.1).2.1, fun h => (hy3.2.2.1).2.2 (by omega)⟩, by have := hy3.2.2.2.1; omega, by have := hy3.2.2.2.2.1; omega, hSx⟩, [0, 1, 2, 3, 4, 5, 6, 7], Ds (by decide) ?_ ?_, by simp⟩
   ·simp [go_sem, Dt ((i3 : Int) + 1)]
   simp [go_sem]
  refine Bp <| .S (fun K kk => by simp [go_sem, hx]; repeat first | exact kk | refine aK ?_) <| .block ?_
  have hin : i3 = 0 \/ i3 = 1 := by omega
  rcases hin with rfl | rfl
  ·
   have hr0 : y3.2.1 = [] := (hy3.2.1).2.2 (by omega)
   refine Bs p.items.length (fun i4 (y4 : Du × List Dz × List Gc × List Int) => ⟨[(2, .mInp lq), (3, .li now), (4, .ptr 0 0), (5, .ptr 1 0), (8, .ptr 2 0), (9, .nil 1), (10, .nil 3), (11, .nil 1), (12, .bsl 3 2), (13, .own 6 y4.2.2.1.length), (14, .own 7 y4.2.2.2.length), (61, .li lq.length), (62, .li 0), (16, .li 0), (75, .mItem p.items), (76, .li p.items.length), (77, .li i4)], [.box 30 (cfg.a false), .box 70 (y4.1.a false), .box 70 [.li 0, .nil 1, .li 0, .li 0, .nil 1, .li 0, .li 0, .li 0, .li 0, .nil 6, .nil 2, .li 0, .li 0, .li 0, .nil 5, .nil 1, .nil 1], .box 80 [.own 4 y4.2.1.length, .own 5 y3.2.2.1.length], .row 56 4 false false (Q7 y4.2.1), .row 56 4 false false (Q7 y3.2.2.1), .row 248 3 false false (Aep y4.2.2.1), .row 3 1 false false (tI y4.2.2.2)]⟩) (fun i4 y4 => Qo x y4.1 /\ y4.2.1.length = i4 /\ (∀ m ∈ y4.2.1, Hj m) /\ y4.2.2.1.length <= 257 * 0 + i4 /\ y4.2.2.2.length <= 257 * 0 + i4 /\ ∃ e' s', ItR cfg 0 now y3.1 (p.items.take i4) y4.1 y4.2.1 e' s' /\ y4.2.2.1 = y3.2.2.2.1 ++ e' /\ y4.2.2.2 = y3.2.2.2.2 ++ s') (y3.1, [], y3.2.2.2.1, y3.2.2.2.2) ⟨[0, 1, 2, 3, 4, 5, 6, 7], Ds (by decide) ?_ ?_, by simp⟩ ⟨hy3.1, rfl, fun m hm => by simp at hm, by have := hy3.2.2.2.1; dsimp only; omega, by have := hy3.2.2.2.2.1; dsimp only; omega, [], [], .nil, by simp, by simp⟩ fun i4 y4 hi4 hy4 => ?_
   ·simp [go_sem, hr0]
   ·simp [go_sem, hr0]
   refine Bq <| .seq ?_
   refine Br ?_ ?_ <;> intro h78
   ·
    obtain ⟨t, ht⟩ : ∃ e, p.items[i4]? = some e := ⟨_, Aa (by omega)⟩
    have htp := hp.2 t (Ac ht)
    have hG := Q4 cfg y4.1 0 t now hy4.1.d htp
    have hq := (Nq cfg y4.1 0 t now hy4.1.d htp).1
    have hGe : HdR cfg y4.1 0 t now (Fs cfg y4.1 0 t now hy4.1.d htp) := ⟨_, _, rfl⟩
    generalize Fs cfg y4.1 0 t now hy4.1.d htp = G at hG hq hGe
    have hl1 : y4.2.1.length <= 257 := by have := hp.1; have := hy4.2.1; omega
    have hl2 : y4.2.2.1.length <= 600 := by have := hp.1; have := hy4.2.2.2.1; omega
    have hl3 : y4.2.2.2.length <= 600 := by have := hp.1; have := hy4.2.2.2.2.1; omega
    refine Bp <| .seq <| .block <| .S (fun K kk => by simp [go_sem, ht]; repeat first | exact kk | refine aK ?_) ?_
    refine B3 (fun K kk => by simp [go_sem]; refine .l (hG) ?_; simp [go_sem]; exact kk) ?_
    refine Bq ?_
    refine Cz (fun K kk => by simp [go_sem]; repeat first | exact kk | refine aK ?_) ?_
    refine B3 (fun K kk => by simp [go_sem]; repeat first | exact kk | refine aK ?_) ?_
    refine Bq ?_
    refine Br ?_ ?_ <;> intro h108
    ·
     refine Cb (fun K kk => by simp [go_sem]; repeat first | exact kk | refine aK ?_) ?_
     obtain ⟨e', s', hI, he, hs⟩ := hy4.2.2.2.2.2
     have hIx : ∃ e'' s'', ItR cfg 0 now y3.1 (p.items.take (i4 + 1)) G.1 (y4.2.1 ++ [G.2.1]) e'' s'' /\ y4.2.2.1 ++ [G.2.2.1] = y3.2.2.2.1 ++ e'' /\ y4.2.2.2 ++ [G.2.2.2] = y3.2.2.2.2 ++ s'' := ⟨_, _, hI.next ht hGe rfl, (congrArg (fun v => v ++ [G.2.2.1]) he).trans (List.append_assoc _ _ _), by rw [if_pos h108]; exact (congrArg (fun v => v ++ [G.2.2.2]) hs).trans (List.append_assoc _ _ _)⟩
     refine Ci ?_
     refine ⟨by omega, (G.1, y4.2.1 ++ [G.2.1], y4.2.2.1 ++ [G.2.2.1], y4.2.2.2 ++ [G.2.2.2]), ⟨hy4.1.next hq, ?_, Vf hy4.2.2.1 hq.2.2.2.2, ?_, ?_, hIx⟩, [0, 1, 2, 3, 4, 5, 6, 7], Ds (by decide) ?_ ?_, by simp⟩
     ·have := hy4.2.1; simp; omega
     ·have := hy4.2.2.2.1; simp; omega
     ·have := hy4.2.2.2.2.1; simp; omega
     ·simp [go_sem, Dt ((i4 : Int) + 1)]
     simp [go_sem]
    -- none
    refine Bp ?_
    obtain ⟨e', s', hI, he, hs⟩ := hy4.2.2.2.2.2
    have hIx : ∃ e'' s'', ItR cfg 0 now y3.1 (p.items.take (i4 + 1)) G.1 (y4.2.1 ++ [G.2.1]) e'' s'' /\ y4.2.2.1 ++ [G.2.2.1] = y3.2.2.2.1 ++ e'' /\ y4.2.2.2 = y3.2.2.2.2 ++ s'' := ⟨_, _, hI.next ht hGe rfl, (congrArg (fun v => v ++ [G.2.2.1]) he).trans (List.append_assoc _ _ _), by rw [if_neg (by omega), List.append_nil]; exact hs⟩
    refine Ci ?_
    refine ⟨by omega, (G.1, y4.2.1 ++ [G.2.1], y4.2.2.1 ++ [G.2.2.1], y4.2.2.2), ⟨hy4.1.next hq, ?_, Vf hy4.2.2.1 hq.2.2.2.2, ?_, ?_, hIx⟩, [0, 1, 2, 3, 4, 5, 6, 7], Ds (by decide) ?_ ?_, by simp⟩
    ·have := hy4.2.1; simp; omega
    ·have := hy4.2.2.2.1; simp; omega
    ·have := hy4.2.2.2.2.1; simp; omega
    ·simp [go_sem, Dt ((i4 : Int) + 1)]
    simp [go_sem]
   -- the end of the items
   obtain ⟨e', s', hI, he, hs⟩ := hy4.2.2.2.2.2
   rw [Bf (by omega)] at hI
   have hSx : SeR cfg now ⟨x.reg, x.reqs, x.draws, y1⟩ (lq.take (0 + 1)) y4.1 (([y4.2.1, y3.2.2.1] : List (List Dz)).take (0 + 1)) y4.2.2.1 y4.2.2.2 := by
    have hS := SeR.next hy3.2.2.2.2.2 hx h70 hI
    rw [he, hs]
    simpa using hS
   refine Bt <| .R1 ?_
   refine ⟨by omega, (y4.1, y4.2.1, y3.2.2.1, y4.2.2.1, y4.2.2.2), ⟨hy4.1, ⟨by have := hp.1; have := hy4.2.1; dsimp only; omega, hy4.2.2.1, fun h => absurd h (by omega)⟩, ⟨(hy3.2.2.1).1, (hy3.2.2.1).2.1, fun h => (hy3.2.2.1).2.2 (by omega)⟩, by have := hp.1; have := hy4.2.2.2.1; dsimp only; omega, by have := hp.1; have := hy4.2.2.2.2.1; dsimp only; omega, hSx⟩, [0, 1, 2, 3, 4, 5, 6, 7], Ds (by decide) ?_ ?_, by simp⟩
   ·simp [go_sem, Dt (1 : Int)]
   simp [go_sem]
  -- session 1
  have hr0 : y3.2.2.1 = [] := (hy3.2.2.1).2.2 (by omega)
  refine Bs p.items.length (fun i4 (y4 : Du × List Dz × List Gc × List Int) => ⟨[(2, .mInp lq), (3, .li now), (4, .ptr 0 0), (5, .ptr 1 0), (8, .ptr 2 0), (9, .nil 1), (10, .nil 3), (11, .nil 1), (12, .bsl 3 2), (13, .own 6 y4.2.2.1.length), (14, .own 7 y4.2.2.2.length), (61, .li lq.length), (62, .li 1), (16, .li 1), (75, .mItem p.items), (76, .li p.items.length), (77, .li i4)], [.box 30 (cfg.a false), .box 70 (y4.1.a false), .box 70 [.li 0, .nil 1, .li 0, .li 0, .nil 1, .li 0, .li 0, .li 0, .li 0, .nil 6, .nil 2, .li 0, .li 0, .li 0, .nil 5, .nil 1, .nil 1], .box 80 [.own 4 y3.2.1.length, .own 5 y4.2.1.length], .row 56 4 false false (Q7 y3.2.1), .row 56 4 false false (Q7 y4.2.1), .row 248 3 false false (Aep y4.2.2.1), .row 3 1 false false (tI y4.2.2.2)]⟩) (fun i4 y4 => Qo x y4.1 /\ y4.2.1.length = i4 /\ (∀ m ∈ y4.2.1, Hj m) /\ y4.2.2.1.length <= 257 * 1 + i4 /\ y4.2.2.2.length <= 257 * 1 + i4 /\ ∃ e' s', ItR cfg 1 now y3.1 (p.items.take i4) y4.1 y4.2.1 e' s' /\ y4.2.2.1 = y3.2.2.2.1 ++ e' /\ y4.2.2.2 = y3.2.2.2.2 ++ s') (y3.1, [], y3.2.2.2.1, y3.2.2.2.2) ⟨[0, 1, 2, 3, 4, 5, 6, 7], Ds (by decide) ?_ ?_, by simp⟩ ⟨hy3.1, rfl, fun m hm => by simp at hm, by have := hy3.2.2.2.1; dsimp only; omega, by have := hy3.2.2.2.2.1; dsimp only; omega, [], [], .nil, by simp, by simp⟩ fun i4 y4 hi4 hy4 => ?_
  ·simp [go_sem, hr0]
  ·simp [go_sem, hr0]
  refine Bq <| .seq ?_
  refine Br ?_ ?_ <;> intro h78
  ·
   obtain ⟨t, ht⟩ : ∃ e, p.items[i4]? = some e := ⟨_, Aa (by omega)⟩
   have htp := hp.2 t (Ac ht)
   have hG := Q4 cfg y4.1 1 t now hy4.1.d htp
   have hq := (Nq cfg y4.1 1 t now hy4.1.d htp).1
   have hGe : HdR cfg y4.1 1 t now (Fs cfg y4.1 1 t now hy4.1.d htp) := ⟨_, _, rfl⟩
   generalize Fs cfg y4.1 1 t now hy4.1.d htp = G at hG hq hGe
   have hl1 : y4.2.1.length <= 257 := by have := hp.1; have := hy4.2.1; omega
   have hl2 : y4.2.2.1.length <= 600 := by have := hp.1; have := hy4.2.2.2.1; omega
   have hl3 : y4.2.2.2.length <= 600 := by have := hp.1; have := hy4.2.2.2.2.1; omega
   refine Bp <| .seq <| .block <| .S (fun K kk => by simp [go_sem, ht]; repeat first | exact kk | refine aK ?_) ?_
   refine B3 (fun K kk => by simp [go_sem]; refine .l (hG) ?_; simp [go_sem]; exact kk) ?_
   refine Bq ?_
   refine Cz (fun K kk => by simp [go_sem]; repeat first | exact kk | refine aK ?_) ?_
   refine B3 (fun K kk => by simp [go_sem]; repeat first | exact kk | refine aK ?_) ?_
   refine Bq ?_
   refine Br ?_ ?_ <;> intro h108
   ·
    refine Cb (fun K kk => by simp [go_sem]; repeat first | exact kk | refine aK ?_) ?_
    obtain ⟨e', s', hI, he, hs⟩ := hy4.2.2.2.2.2
    have hIx : ∃ e'' s'', ItR cfg 1 now y3.1 (p.items.take (i4 + 1)) G.1 (y4.2.1 ++ [G.2.1]) e'' s'' /\ y4.2.2.1 ++ [G.2.2.1] = y3.2.2.2.1 ++ e'' /\ y4.2.2.2 ++ [G.2.2.2] = y3.2.2.2.2 ++ s'' := ⟨_, _, hI.next ht hGe rfl, (congrArg (fun v => v ++ [G.2.2.1]) he).trans (List.append_assoc _ _ _), by rw [if_pos h108]; exact (congrArg (fun v => v ++ [G.2.2.2]) hs).trans (List.append_assoc _ _ _)⟩
    refine Ci ?_
    refine ⟨by omega, (G.1, y4.2.1 ++ [G.2.1], y4.2.2.1 ++ [G.2.2.1], y4.2.2.2 ++ [G.2.2.2]), ⟨hy4.1.next hq, ?_, Vf hy4.2.2.1 hq.2.2.2.2, ?_, ?_, hIx⟩, [0, 1, 2, 3, 4, 5, 6, 7], Ds (by decide) ?_ ?_, by simp⟩
    ·have := hy4.2.1; simp; omega
    ·have := hy4.2.2.2.1; simp; omega
    ·have := hy4.2.2.2.2.1; simp; omega
    ·simp [go_sem, Dt ((i4 : Int) + 1)]
    simp [go_sem]
   -- none
   refine Bp ?_
   obtain ⟨e', s', hI, he, hs⟩ := hy4.2.2.2.2.2
   have hIx : ∃ e'' s'', ItR cfg 1 now y3.1 (p.items.take (i4 + 1)) G.1 (y4.2.1 ++ [G.2.1]) e'' s'' /\ y4.2.2.1 ++ [G.2.2.1] = y3.2.2.2.1 ++ e'' /\ y4.2.2.2 = y3.2.2.2.2 ++ s'' := ⟨_, _, hI.next ht hGe rfl, (congrArg (fun v => v ++ [G.2.2.1]) he).trans (List.append_assoc _ _ _), by rw [if_neg (by omega), List.append_nil]; exact hs⟩
   refine Ci ?_
   refine ⟨by omega, (G.1, y4.2.1 ++ [G.2.1], y4.2.2.1 ++ [G.2.2.1], y4.2.2.2), ⟨hy4.1.next hq, ?_, Vf hy4.2.2.1 hq.2.2.2.2, ?_, ?_, hIx⟩, [0, 1, 2, 3, 4, 5, 6, 7], Ds (by decide) ?_ ?_, by simp⟩
   ·have := hy4.2.1; simp; omega
   ·have := hy4.2.2.2.1; simp; omega
   ·have := hy4.2.2.2.2.1; simp; omega
   ·simp [go_sem, Dt ((i4 : Int) + 1)]
   simp [go_sem]
  -- the end of the items
  obtain ⟨e', s', hI, he, hs⟩ := hy4.2.2.2.2.2
  rw [Bf (by omega)] at hI
  have hSx : SeR cfg now ⟨x.reg, x.reqs, x.draws, y1⟩ (lq.take (1 + 1)) y4.1 (([y3.2.1, y4.2.1] : List (List Dz)).take (1 + 1)) y4.2.2.1 y4.2.2.2 := by
   have hS := SeR.next hy3.2.2.2.2.2 hx h70 hI
   rw [he, hs]
   simpa using hS
  refine Bt <| .R1 ?_
  refine ⟨by omega, (y4.1, y3.2.1, y4.2.1, y4.2.2.1, y4.2.2.2), ⟨hy4.1, ⟨(hy3.2.1).1, (hy3.2.1).2.1, fun h => (hy3.2.1).2.2 (by omega)⟩, ⟨by have := hp.1; have := hy4.2.1; dsimp only; omega, hy4.2.2.1, fun h => absurd h (by omega)⟩, by have := hp.1; have := hy4.2.2.2.1; dsimp only; omega, by have := hp.1; have := hy4.2.2.2.2.1; dsimp only; omega, hSx⟩, [0, 1, 2, 3, 4, 5, 6, 7], Ds (by decide) ?_ ?_, by simp⟩
  ·simp [go_sem, Dt (2 : Int)]
  simp [go_sem]
 -- the end
 refine Bt ?_
 have hre := hy3.1.d.reqs
 have hle := hy3.1.d.b.legs
 have hqm := Uo y3.1.reqs now hre hle
 refine B3 (fun K kk => by simp [go_sem]; refine .l (T5 y3.1.reqs now hre hle) ?_; simp [go_sem]; exact kk) ?_
 refine Bq ?_
 refine Dg 4 ?_
 simp [go_sem]
 refine Dg 5 ?_
 simp [go_sem]
 refine C6 3 1 (Qg [y3.2.1, y3.2.2.1]) rfl rfl (by simp) (by simp) ?_
 simp [go_sem]
 refine Dg 6 ?_
 simp [go_sem]
 refine Dg 7 ?_
 simp [go_sem]
 refine Bz (Ex ?_); simp [go_sem]
 refine ⟨(⟨y3.1.reg, I5 y3.1.reqs now hre hle, y3.1.draws, y3.1.aud⟩, [y3.2.1, y3.2.2.1], y3.2.2.2.1, y3.2.2.2.2), by simp [go_sem], ⟨hy3.1.marked hqm.1 hqm.2, hy3.1.aud, hy3.1.num, hy3.1.ag, hn.symm, fun r hr => by simp only [List.mem_cons, A8, or_false] at hr; rcases hr with rfl | rfl <;> first | exact ⟨(hy3.2.1).1, (hy3.2.1).2.1⟩ | exact ⟨(hy3.2.2.1).1, (hy3.2.2.1).2.1⟩, ?_, ?_⟩, y1, y3.1, ([y3.2.1, y3.2.2.1] : List (List Dz)).take i3, hre, hle, by omega, hya, ?_, rfl, ?_⟩
 ·have := hy3.2.2.2.1; dsimp only; omega
 ·have := hy3.2.2.2.2.1; dsimp only; omega
 ·have hS := hy3.2.2.2.2.2
  rw [hn, show l.take 2 = lq.take i3 by rw [Bf (l := lq) (i := i3) (by omega), hlq, List.take_eq_take_iff]; omega]
  exact hS
 have hin : i3 = 0 \/ i3 = 1 \/ i3 = 2 := by omega
 rcases hin with rfl | rfl | rfl <;> simp [hn, List.replicate, (hy3.2.1).2.2, (hy3.2.2.1).2.2]
theorem T0 (cfg : Fa) (x : Du) (l : List Gi) (now : Int) (hd : F4 x) (ha : 1 <= x.aud.length /\ x.aud.length <= 2) (hl : l.length <= 1000) (hi : ∀ p ∈ l, p.items.length <= 257 /\ ∀ t ∈ p.items, t.pay.length <= 1000) : Ct 125 [cfg.g, x.g, .mInp l, .li now] (fun d : Du × List (List Dz) × List Gc × List Int => .tup [d.1.g, .imm false 1 (Qg d.2.1), .mEnt d.2.2.1, .mI d.2.2.2]) (fun d => Ann x d /\ Anm cfg x l now d) := by
 have h : x.aud.length = 1 \/ x.aud.length = 2 := by omega
 rcases h with h | h
 ·exact Ad9 cfg x l now hd h hl hi
 exact Ad8 cfg x l now hd h hl hi
noncomputable def Hw (cfg : Fa) (x : Du) (l : List Gi) (now : Int) (hd : F4 x) (ha : 1 <= x.aud.length /\ x.aud.length <= 2) (hl : l.length <= 1000) (hi : ∀ p ∈ l, p.items.length <= 257 /\ ∀ t ∈ p.items, t.pay.length <= 1000) : Du × List (List Dz) × List Gc × List Int := (got (T0 cfg x l now hd ha hl hi)).choose
theorem Aix (cfg : Fa) (x : Du) (l : List Gi) (now : Int) (hd : F4 x) (ha : 1 <= x.aud.length /\ x.aud.length <= 2) (hl : l.length <= 1000) (hi : ∀ p ∈ l, p.items.length <= 257 /\ ∀ t ∈ p.items, t.pay.length <= 1000) : PP 125 [] [cfg.g, x.g, .mInp l, .li now] [] (.tup [.agg ((Hw cfg x l now hd ha hl hi).1.a false), .imm false 1 (Qg (Hw cfg x l now hd ha hl hi).2.1), .imm false 3 (Aep (Hw cfg x l now hd ha hl hi).2.2.1), .imm false 1 (tI (Hw cfg x l now hd ha hl hi).2.2.2)]) := (got (T0 cfg x l now hd ha hl hi)).choose_spec.1
theorem Up (cfg : Fa) (x : Du) (l : List Gi) (now : Int) (hd : F4 x) (ha : 1 <= x.aud.length /\ x.aud.length <= 2) (hl : l.length <= 1000) (hi : ∀ p ∈ l, p.items.length <= 257 /\ ∀ t ∈ p.items, t.pay.length <= 1000) : Ann x (Hw cfg x l now hd ha hl hi) /\ Anm cfg x l now (Hw cfg x l now hd ha hl hi) := (got (T0 cfg x l now hd ha hl hi)).choose_spec.2
section
variable {P : Program}
theorem VX.rangeFnA {n m : Nat} {γ : Type} {sl : List (Nat × AV)} {K : Exit -> St -> Prop} {g : Tmp} {ps : List Tmp} {asg : Code} {body : Code} {gf : FuncId} {caps : List AV} {items : List (List AV)} (hit : Wa P gf caps items) (f : γ -> List Ob) (M : Nat) (hM : ∀ x, (f x).length = M) (hg : El sl g = .fn gf caps)
    (hlive : ∀ x id, (St.mk sl (f x)).o id ≠ .gone -> ((St.mk sl (f x)).o id).live) (hps : ∀ p ∈ ps, p < n) (hcl : ∀ vs ∈ items, vs.length = ps.length /\ Mq (fun _ => none) vs = vs)
    (Inv : Nat -> γ -> Prop) (x0 : γ) (hI0 : Inv 0 x0) (hround : ∀ i vs x, items[i]? = some vs -> Inv i x -> VX P n M asg ⟨Rb ps vs sl, f x⟩ (fun e s => e = .normal /\ VX P n M body s (Ar3 M sl f (Inv (i + 1)) K))) (hdone : ∀ x, Inv items.length x -> K .normal ⟨sl, f x⟩) :
    VX P n m (.rangeFunc (.tmp g) ps.toArray (asg) body) ⟨sl, f x0⟩ K := by
  have key : ∀ (k i : Nat) (x : γ), i + k = items.length -> Inv i x -> ∃ e s, K e s /\ ∃ (xs : Nat -> γ) (stop : Nat), xs i = x /\ i <= stop /\ stop <= items.length /\
      (∀ j vs, i <= j -> j < stop -> items[j]? = some vs -> ∃ sA, VW P n M asg ⟨Rb ps vs sl, f (xs j)⟩ (fun e s => e = .normal /\ s = sA) /\ VW P n M body sA (I8 M sl (f (xs (j + 1))) True fun _ _ => False)) /\
      (stop = items.length -> e = .normal /\ s = ⟨sl, f (xs stop)⟩) /\ (∀ vs, items[stop]? = some vs -> ∃ sA, VW P n M asg ⟨Rb ps vs sl, f (xs stop)⟩ (fun e s => e = .normal /\ s = sA) /\ VW P n M body sA (I8 M sl [] False fun e' s' => e' = e /\ s' = s)) := by
    intro k
    induction k with
    | zero =>
      intro i x hi hI
      refine ⟨.normal, ⟨sl, f x⟩, hdone x (by have : i = items.length := by omega
                                              rw [<- this]; exact hI), fun _ => x, i, rfl, Aj _, by omega, fun j vs h1 h2 => by omega, fun _ => ⟨rfl, rfl⟩, fun vs h => ?_⟩
      have := (Ab.1 h).1
      omega
    | succ k ih =>
      intro i x hi hI
      obtain ⟨vs, hvs⟩ : ∃ vs, items[i]? = some vs := ⟨_, Aa (by omega)⟩
      obtain ⟨e0, sA, hA, rfl, e1, s1, h1, h2⟩ := hround i vs x hvs hI
      have hA : VW P n M asg ⟨Rb ps vs sl, f x⟩ (fun e s => e = .normal /\ s = sA) := hA
      have other : ∀ (e : Exit) (s : St), K e s -> I8 M sl [] False (fun e' s' => e' = e /\ s' = s) e1 s1 -> ∃ e s, K e s /\ ∃ (xs : Nat -> γ) (stop : Nat), xs i = x /\ i <= stop /\ stop <= items.length /\
          (∀ j vs, i <= j -> j < stop -> items[j]? = some vs -> ∃ sA, VW P n M asg ⟨Rb ps vs sl, f (xs j)⟩ (fun e s => e = .normal /\ s = sA) /\ VW P n M body sA (I8 M sl (f (xs (j + 1))) True fun _ _ => False)) /\
          (stop = items.length -> e = .normal /\ s = ⟨sl, f (xs stop)⟩) /\ (∀ vs, items[stop]? = some vs -> ∃ sA, VW P n M asg ⟨Rb ps vs sl, f (xs stop)⟩ (fun e s => e = .normal /\ s = sA) /\ VW P n M body sA (I8 M sl [] False fun e' s' => e' = e /\ s' = s)) := by
        intro e s hK hR
        refine ⟨e, s, hK, fun _ => x, i, rfl, Aj _, by omega, fun j vs h1 h2 => by omega, fun h => by omega, fun vs' h => ?_⟩
        rw [hvs] at h
        injection h with h
        subst h
        refine ⟨sA, hA, h1.mono ?_⟩
        rintro e' s' ⟨rfl, rfl⟩
        exact hR
      cases e1 with
      | normal =>
        obtain ⟨x', h3, h4⟩ := h2
        obtain ⟨e, s, hK, xs, stop, q1, q2, q3, q4, q5, q6⟩ := ih (i + 1) x' (by omega) h3
        refine ⟨e, s, hK, fun j => if j = i then x else xs j, stop, if_pos rfl, by omega, q3, fun j vs' hj1 hj2 hjv => ?_, fun h => ?_, fun vs' h => ?_⟩
        · by_cases e0 : j = i
          · subst e0
            rw [hvs] at hjv
            injection hjv with hjv
            subst hjv
            simp only [if_true]
            rw [if_neg (by omega), q1]
            refine ⟨sA, hA, h1.mono ?_⟩
            rintro e' s' ⟨rfl, rfl⟩
            exact ⟨h4, trivial⟩
          · simp only
            rw [if_neg e0, if_neg (by omega)]
            exact q4 j vs' (by omega) hj2 hjv
        · obtain ⟨g1, g2⟩ := q5 h
          exact ⟨g1, by simp only; rw [if_neg (by omega)]; exact g2⟩
        · simp only
          rw [if_neg (by omega)]
          exact q6 vs' h
      | ret => obtain ⟨ob, h3, h4⟩ := h2; exact other _ _ h4 ⟨ob, h3, rfl, rfl⟩
      | exit id => obtain ⟨ob, h3, h4⟩ := h2; exact other _ _ h4 ⟨ob, h3, rfl, rfl⟩
      | goto t => obtain ⟨ob, h3, h4⟩ := h2; exact other _ _ h4 ⟨ob, h3, rfl, rfl⟩
      | panic ch => exact h2.elim
      | outgrown => exact h2.elim
  obtain ⟨e, s, hK, xs, stop, q1, q2, q3, q4, q5, q6⟩ := key items.length 0 x0 (by omega) hI0
  refine ⟨e, s, ?_, hK⟩
  have hex : ∀ j vs, ∃ sA, items[j]? = some vs -> j <= stop -> VW P n M asg ⟨Rb ps vs sl, f (xs j)⟩ (fun e s => e = .normal /\ s = sA) /\ VW P n M body sA (I8 M sl (f (xs (j + 1))) (j + 1 <= stop) fun e' s' => e' = e /\ s' = s) := fun j vs => by
    by_cases hc : items[j]? = some vs /\ j <= stop
    · by_cases e0 : j = stop
      · subst e0
        obtain ⟨sA, g1, g2⟩ := q6 vs hc.1
        exact ⟨sA, fun _ _ => ⟨g1, g2.mono fun e' s' h => h.jump⟩⟩
      · obtain ⟨sA, g1, g2⟩ := q4 j vs (Ae _) (by omega) hc.1
        exact ⟨sA, fun _ _ => ⟨g1, g2.mono fun e' s' h => h.mono (fun _ => by omega) fun _ _ h => h.elim⟩⟩
    · exact ⟨⟨[], []⟩, fun h1 h2 => absurd ⟨h1, h2⟩ hc⟩
  have := VW.rangeFnA (m := m) (K := fun e' s' => e' = e /\ s' = s) (body := body) (asg := asg) (ps := ps) (n := n) (sl := sl) (g := g) hit (fun j => f (xs j)) hg (fun j id => hlive (xs j) id) hps (fun j vs => (hex j vs).choose) hcl (fun j => j <= stop) (Ae _) (fun j vs hj hI => ?_) (fun j vs hj hI => ?_) (fun hI => ?_)
  · simp only [q1] at this
    exact this
  · rw [hM]
    exact ((hex j vs).choose_spec hj hI).1
  · rw [hM]
    exact ((hex j vs).choose_spec hj hI).2
  · have hs : stop = items.length := by omega
    obtain ⟨g1, g2⟩ := q5 hs
    rw [hs] at g2
    exact ⟨g1.symm, g2.symm⟩
abbrev Dp := @VX.rangeFnA
end
def Atn (p : Gi) : Prop := p.items.length <= 257 /\ ∀ t ∈ p.items, t.pay.length <= 1000
theorem Auj {x : Du} {n : Int} (hd : F4 x /\ 1 <= x.aud.length /\ x.aud.length <= 2) : F4 (Ev x n hd.1.b) /\ 1 <= (Ev x n hd.1.b).aud.length /\ (Ev x n hd.1.b).aud.length <= 2 := by
 obtain ⟨h1, h2, h3, h4, h5⟩ := Sn x n hd.1.b
 have hr := Ou x.reg n hd.1.b.reg
 refine ⟨⟨h1, ?_, ?_, ?_, ?_⟩, by rw [h5]; exact hd.2⟩
 ·rw [h2, hr.2.2.2.1]; exact hd.1.vehs
 ·rw [h3]; exact Ak (Az _ _) hd.1.reqs
 ·rw [h4]; exact hd.1.dr
 rw [h2, hr.2.1.2]; exact hd.1.rq
theorem Afl {l : List TAg} {k : Nat} {a : TAg} {x : Int × Int × Int} (h : x ∈ V2 l k a) : x.1 = (k : Int) /\ 0 <= x.2.1 /\ 0 <= x.2.2 := by
 unfold V2 at h
 obtain ⟨n, _, rfl⟩ := A4.1 h
 have := (Kc l k).1
 exact ⟨rfl, by simp, by simp; omega⟩
theorem Aja {l : List TAg} {k j : Nat} {a : TAg} {x : Int × Int × Int} (h : (V2 l k a)[j]? = some x) : x.2.2 = En l k + j /\ x.2.1 = j /\ x.1 = k /\ (j : Int) < Ec a := by
 unfold V2 at h
 rw [Ap] at h
 have hj : j < (List.range (Ec a).toNat).length := by
  cases hq : (List.range (Ec a).toNat)[j]? with
  | none => rw [hq] at h; cases h
  | some n => exact (Ab.1 hq).1
 rw [List.length_range] at hj
 rw [List.getElem?_range (by simpa using hj)] at h
 simp at h
 rw [<- h]
 exact ⟨rfl, rfl, rfl, by omega⟩
def X1 (l : List Gi) (b n : Nat) : List Gi := (List.range n).map fun j => (l[b + j]?).getD ⟨false, []⟩
theorem Ajt (l : List Gi) (b n : Nat) : (X1 l b n).length = n := by simp [X1]
theorem Abn {l y : List Gi} {b n : Nat} {p : Gi} (h : y = X1 l b n) (hp : (l[b + n]?).getD ⟨false, []⟩ = p) : y ++ [p] = X1 l b (n + 1) := by rw [h, <- hp]; simp [X1, List.range_succ]
def DtR (cfg : Fa) (x : Du) (l : List Gi) (now : Int) (d : Du × List (List Dz) × List Gc × List Int) : Prop := ∃ h1 h2 h3 h4, Hw cfg x l now h1 h2 h3 h4 = d
theorem DtR.of {cfg : Fa} {x : Du} {l l' : List Gi} {now : Int} {h1 : F4 x} {h2 : 1 <= x.aud.length /\ x.aud.length <= 2} {h3 : l.length <= 1000} {h4 : ∀ p ∈ l, p.items.length <= 257 /\ ∀ t ∈ p.items, t.pay.length <= 1000} (e : l = l') : DtR cfg x l' now (Hw cfg x l now h1 h2 h3 h4) := by
 subst e
 exact ⟨h1, h2, h3, h4, rfl⟩
def BgR (l y : List Du) (now : Int) (i : Nat) : Prop := ∀ (k : Nat) (d : Du), l[k]? = some d -> (k < i -> ∃ hb, y[k]? = some (Ev d now hb)) /\ (i <= k -> y[k]? = some d)
theorem BgR.next {l y : List Du} {now : Int} {i : Nat} {x B : Du} (h : BgR l y now i) (hx : y[i]? = some x) (hB : ∃ hb, Ev x now hb = B) : BgR l (y.set i B) now (i + 1) := fun k d hd => by
 by_cases hk : k = i
 ·subst hk
  have h1 := (h k d hd).2 (Aj _)
  rw [hx] at h1
  injection h1 with h1
  subst h1
  obtain ⟨hb, rfl⟩ := hB
  exact ⟨fun _ => ⟨hb, Bg (Ab.1 hx).1⟩, fun h => by omega⟩
 rw [A9 (Ne.symm hk)]
 exact ⟨fun h1 => (h k d hd).1 (by omega), fun h1 => (h k d hd).2 (by omega)⟩
def Asb (c : Fe) (l : List Gi) (k : Nat) (d : Du) (a : TAg) (D : Du × List (List Dz) × List Gc × List Int) : Prop := ∃ hb, DtR c.cfg (Ev d c.now hb) (X1 l (En c.cfg.ags k).toNat (Ec a).toNat) c.now D
def Akx (c : Fe) (l : List Gi) (ds : List Du) (rp : List (List (List Dz))) (en : List Gc) (i : Nat) : Prop := ∃ ens : List (List Gc), en = ens.flatten /\ ens.length = i /\ ∀ (k : Nat) (d : Du) (a : TAg), c.desks[k]? = some d -> c.cfg.ags[k]? = some a -> (k < i -> ∃ x r e s, ds[k]? = some x /\ rp[k]? = some r /\ ens[k]? = some e /\ Asb c l k d a (x, r, e, s)) /\ (i <= k -> ∃ hb, ds[k]? = some (Ev d c.now hb))
theorem Asb.len {c : Fe} {l : List Gi} {k : Nat} {d : Du} {a : TAg} {D : Du × List (List Dz) × List Gc × List Int} (h : Asb c l k d a D) : D.1.aud.length = d.aud.length /\ D.2.1.length = d.aud.length := by
 obtain ⟨hb, h1, h2, h3, h4, rfl⟩ := h
 have q := (Up c.cfg (Ev d c.now hb) (X1 l (En c.cfg.ags k).toNat (Ec a).toNat) c.now h1 h2 h3 h4).1
 have b := (Sn d c.now hb).2.2.2.2
 exact ⟨q.2.1.trans (by rw [b]), q.2.2.2.2.1.trans (by rw [b])⟩
theorem Akx.len {c : Fe} {l : List Gi} {ds : List Du} {rp : List (List (List Dz))} {en : List Gc} (h : Akx c l ds rp en c.desks.length) (hc : ∀ (k : Nat) (d : Du) (a : TAg), c.desks[k]? = some d -> c.cfg.ags[k]? = some a -> (d.aud.length : Int) = Ec a) (hl : c.desks.length = c.cfg.ags.length) {k : Nat} {a : TAg} (ha : c.cfg.ags[k]? = some a) : (∀ d, ds[k]? = some d -> (d.aud.length : Int) = Ec a) /\ ∀ r, rp[k]? = some r -> (r.length : Int) = Ec a := by
 obtain ⟨ens, _, _, h⟩ := h
 have hk : k < c.desks.length := by rw [hl]; exact (Ab.1 ha).1
 have hd : c.desks[k]? = some c.desks[k] := Aa hk
 obtain ⟨x, r, e, s, h1, h2, _, h4⟩ := (h k _ a hd ha).1 hk
 have hL := h4.len
 have hD := hc k _ a hd ha
 refine ⟨fun d h => ?_, fun r' h => ?_⟩
 ·rw [h1] at h; injection h with h; rw [<- h, <- hD]; exact congrArg Nat.cast hL.1
 rw [h2] at h; injection h with h; rw [<- h, <- hD]; exact congrArg Nat.cast hL.2
theorem Akx.next {c : Fe} {l : List Gi} {ds : List Du} {rp : List (List (List Dz))} {en : List Gc} {i : Nat} {x : Du} {g : TAg} {D : Du × List (List Dz) × List Gc × List Int} (h : Akx c l ds rp en i) (hx : ds[i]? = some x) (hg : c.cfg.ags[i]? = some g) (hr : i < rp.length) (hD : DtR c.cfg x (X1 l (En c.cfg.ags i).toNat (Ec g).toNat) c.now D) : Akx c l (ds.set i D.1) (rp.set i D.2.1) (en ++ D.2.2.1) (i + 1) := by
 obtain ⟨ens, rfl, hl, h⟩ := h
 refine ⟨ens ++ [D.2.2.1], by simp, by simp [hl], fun k d a hd ha => ?_⟩
 have h' := h k d a hd ha
 by_cases hk : k = i
 ·subst hk
  obtain ⟨hb, e⟩ := h'.2 (Aj _)
  rw [hx] at e
  injection e with e
  subst e
  rw [hg] at ha
  injection ha with ha
  subst ha
  exact ⟨fun _ => ⟨D.1, D.2.1, D.2.2.1, D.2.2.2, Bg (Ab.1 hx).1, Bg hr, by rw [<- hl]; simp, hb, hD⟩, fun h => by omega⟩
 rw [A9 (Ne.symm hk), A9 (Ne.symm hk)]
 refine ⟨fun h1 => ?_, fun h1 => h'.2 (by omega)⟩
 rw [Au (by omega)]
 exact h'.1 (by omega)
structure Ax0 (c : Fe) (i : Nat) (y : List Du × List Hk × List Fj × List Int) : Prop where
  f1 : y.2.1 = c.sigs
  f2 : y.2.2.1 = c.svcs
  f3 : y.2.2.2 = c.stuck
  len : y.1.length = c.desks.length
  ok : ∀ d ∈ y.1, F4 d /\ 1 <= d.aud.length /\ d.aud.length <= 2
  bg : BgR c.desks y.1 c.now i
structure Awr (c : Fe) (l : List Gi) (ds : List Du) (sg : List Hk) (sv : List Fj) (sk : List Int) (rp : List (List (List Dz))) (en : List Gc) (rs : List Int) (i : Nat) : Prop where
  f1 : sg = c.sigs
  f2 : sv = c.svcs
  f3 : sk = c.stuck
  len : ds.length = c.desks.length
  ok : ∀ d ∈ ds, F4 d /\ 1 <= d.aud.length /\ d.aud.length <= 2
  rl : rp.length = c.desks.length
  ro : ∀ r ∈ rp, r.length <= 2 /\ ∀ q ∈ r, q.length <= 257 /\ ∀ m ∈ q, Hj m
  el : en.length <= 600 * i
  sl : rs.length <= 600 * i
  k : Akx c l ds rp en i
theorem Uz {α : Type} {p : α -> Prop} {l : List α} {i : Nat} {x : α} (h : ∀ y ∈ l, p y) (hx : p x) : ∀ y ∈ l.set i x, p y := fun y hy => by
 rcases Bi hy with h1 | h1
 ·exact h y h1
 rw [h1]; exact hx
theorem Yl (c : Fe) (l : List Gi) (hc : Jp c) (hl : l.length <= 1000) (hi : ∀ p ∈ l, Atn p) : Cx 95 [.row 70 17 false false (Io c.desks), .row 135 5 false false (Nv c.sigs), .row 138 3 false false (On c.svcs), .row 3 1 false false (tI c.stuck)] [.agg [.mJun c.cfg.juns, .mAg c.cfg.ags, .li c.cfg.per, .li c.cfg.cap, .li c.cfg.hold, .li c.cfg.lock, .lb c.ref, .li c.now, .own 0 c.desks.length, .own 1 c.sigs.length, .own 2 c.svcs.length, .own 3 c.stuck.length, .mView c.views], .mInp l] (fun d : List (List (List Dz)) × List Gc × List Int × List Du => [.row 70 17 false false (Io d.2.2.2), .row 135 5 false false (Nv c.sigs), .row 138 3 false false (On c.svcs), .row 3 1 false false (tI c.stuck)]) (fun d => .tup [.imm false 1 (Ud d.1), .mEnt d.2.1, .mI d.2.2.1]) (fun d => d.2.2.2.length = c.desks.length /\ (∀ x ∈ d.2.2.2, F4 x /\ 1 <= x.aud.length /\ x.aud.length <= 2) /\ d.1.length = c.desks.length /\ (∀ r ∈ d.1, r.length <= 2 /\ ∀ q ∈ r, q.length <= 257 /\ ∀ m ∈ q, Hj m) /\ d.2.1.length <= 2400 /\ d.2.2.1.length <= 2400 /\ Akx c l d.2.2.2 d.1 d.2.1 c.desks.length) := by
 refine R3 Tryz.func95 ?_
 have hcd := hc.desks
 have hca := hc.na
 have hna : c.cfg.ags.length <= 1000000 := by omega
 refine Bq <| .seq ?_
 refine Bq <| .block ?_
 refine Bs c.desks.length (fun i1 (y1 : (List Du) × (List Hk) × (List Fj) × (List Int)) => ⟨[(2, .ptr 4 0), (3, .ptr 5 0), (21, .li c.desks.length), (22, .li i1)], [.row 70 17 false false (Io y1.1), .row 135 5 false false (Nv y1.2.1), .row 138 3 false false (On y1.2.2.1), .row 3 1 false false (tI y1.2.2.2), .box 37 [.mJun c.cfg.juns, .mAg c.cfg.ags, .li c.cfg.per, .li c.cfg.cap, .li c.cfg.hold, .li c.cfg.lock, .lb c.ref, .li c.now, .own 0 y1.1.length, .own 1 y1.2.1.length, .own 2 y1.2.2.1.length, .own 3 y1.2.2.2.length, .mView c.views], .box 147 [.mInp l]]⟩) (fun i1 y1 => Ax0 c i1 y1) (c.desks, c.sigs, c.svcs, c.stuck) (wk ok0 [0, 1, 2, 3, 4, 5]) (⟨rfl, rfl, rfl, rfl, hc.desk, fun k d hd => ⟨fun h => absurd h (Nat.not_lt_zero _), fun _ => hd⟩⟩) fun i1 y1 hi1 hy1 => ?_
 refine Bq <| .seq ?_
 refine Br ?_ ?_ <;> intro h23
 ·refine Bp <| .seq <| .block <| .R ?_
  obtain ⟨dk, hdk⟩ : ∃ e, y1.1[i1]? = some e := ⟨_, Aa (by have := hy1.len; omega)⟩
  have hdi := hy1.ok dk (Ac hdk)
  have hyl := hy1.len
  have hBv := Agw dk c.now hdi.1.b
  have hBq := Auj (n := c.now) hdi
  have hBe : ∃ hb, Ev dk c.now hb = Ev dk c.now hdi.1.b := ⟨_, rfl⟩
  generalize Ev dk c.now hdi.1.b = B at hBv hBq hBe
  refine Co hdk (hBv) ?_
  refine Ci ?_
  exact ⟨by omega, ((y1.1).set i1 B, y1.2.1, y1.2.2.1, y1.2.2.2), ⟨hy1.f1, hy1.f2, hy1.f3, by simpa using hyl, Uz hy1.ok hBq, hy1.bg.next hdk hBe⟩, wk (Dt ((i1 : Int) + 1)) [0, 1, 2, 3, 4, 5]⟩
 refine Bt ?_
 have hyl := hy1.len
 have hyl2 : y1.1.length = c.cfg.ags.length := by omega
 refine Bu hyl2 ?_
 refine Bq ?_
 refine Bq <| .seq ?_
 refine Bu hyl2 <| .block ?_
 refine Cg 9 248 3 (by decide) (k' := 3) (by simp [go_sem]) ?_
 simp [go_sem, -Prod.exists]
 refine Cg 10 3 1 (by decide) (k' := 1) (by simp [go_sem]) ?_
 simp [go_sem, -Prod.exists]
 refine Bs c.cfg.ags.length (fun i2 (y2 : (List Du) × (List Hk) × (List Fj) × (List Int) × (List (List (List Dz))) × (List Gc) × (List Int)) => ⟨[(2, .ptr 4 0), (3, .ptr 5 0), (8, .own 6 y2.2.2.2.2.1.length), (9, .own 7 y2.2.2.2.2.2.1.length), (10, .own 8 y2.2.2.2.2.2.2.length), (49, .li c.cfg.ags.length), (50, .li i2)], [.row 70 17 false false (Io y2.1), .row 135 5 false false (Nv y2.2.1), .row 138 3 false false (On y2.2.2.1), .row 3 1 false false (tI y2.2.2.2.1), .box 37 [.mJun c.cfg.juns, .mAg c.cfg.ags, .li c.cfg.per, .li c.cfg.cap, .li c.cfg.hold, .li c.cfg.lock, .lb c.ref, .li c.now, .own 0 y2.1.length, .own 1 y2.2.1.length, .own 2 y2.2.2.1.length, .own 3 y2.2.2.2.1.length, .mView c.views], .box 147 [.mInp l], .row 152 1 false false (Ud y2.2.2.2.2.1), .row 248 3 false false (Aep y2.2.2.2.2.2.1), .row 3 1 false false (tI y2.2.2.2.2.2.2)]⟩) (fun i2 y2 => Awr c l y2.1 y2.2.1 y2.2.2.1 y2.2.2.2.1 y2.2.2.2.2.1 y2.2.2.2.2.2.1 y2.2.2.2.2.2.2 i2) (y1.1, y1.2.1, y1.2.2.1, y1.2.2.2, List.replicate y1.1.length [], [], []) (wk hyl2 [0, 1, 2, 3, 4, 5, 6, 7, 8]) (⟨hy1.f1, hy1.f2, hy1.f3, hyl, hy1.ok, by simp [hyl2, hcd], fun r hr => by have := List.eq_of_mem_replicate hr; subst this; exact ⟨by simp, fun q hq => by cases hq⟩, by simp, by simp, [], rfl, rfl, fun k d a hd _ => ⟨fun h => absurd h (Nat.not_lt_zero _), fun _ => (hy1.bg k d hd).1 (by have := (Ab.1 hd).1; omega)⟩⟩) fun i2 y2 hi2 hy2 => ?_
 refine Bq <| .seq ?_
 refine Br ?_ ?_ <;> intro h51
 ·refine Bp <| .seq <| .block <| .R ?_
  refine Bq <| .seq ?_
  have hyk := hy2.len
  obtain ⟨ag, hag⟩ : ∃ e, c.cfg.ags[i2]? = some e := ⟨_, Aa (by omega)⟩
  refine B8 ok0 (Rr c.cfg i2) <| .block ?_
  refine Ck 9 0 149 2 (by decide) rfl rfl ?_
  simp [go_sem, -Prod.exists]
  refine C3 (s' := ⟨[(2, .ptr 4 0), (3, .ptr 5 0), (8, .own 6 y2.2.2.2.2.1.length), (9, .own 7 y2.2.2.2.2.2.1.length), (10, .own 8 y2.2.2.2.2.2.2.length), (11, .li i2), (12, .ptr 9 0), (49, .li c.cfg.ags.length), (50, .li i2), (56, .fn 129 [.iptr false (cfT c.cfg) 0, .iptr false [.li (i2 : Int)] 0])], (fun (y3 : List Gi) => [.row 70 17 false false (Io y2.1), .row 135 5 false false (Nv y2.2.1), .row 138 3 false false (On y2.2.2.1), .row 3 1 false false (tI y2.2.2.2.1), .box 37 [.mJun c.cfg.juns, .mAg c.cfg.ags, .li c.cfg.per, .li c.cfg.cap, .li c.cfg.hold, .li c.cfg.lock, .lb c.ref, .li c.now, .own 0 y2.1.length, .own 1 y2.2.1.length, .own 2 y2.2.2.1.length, .own 3 y2.2.2.2.1.length, .mView c.views], .box 147 [.mInp l], .row 152 1 false false (Ud y2.2.2.2.2.1), .row 248 3 false false (Aep y2.2.2.2.2.2.1), .row 3 1 false false (tI y2.2.2.2.2.2.2), .box 147 [.own 10 y3.length], .row 149 2 false false (Asg y3)]) ([])⟩) ⟨[0, 1, 2, 3, 4, 5, 6, 7, 8, 9, 10], Ds (by decide) ?_ ?_, Fu rfl⟩ ?_
  ·simp [go_sem]
  ·simp [go_sem]
  refine Dp (Vx c.cfg i2 ag hag hna) (fun (y3 : List Gi) => [.row 70 17 false false (Io y2.1), .row 135 5 false false (Nv y2.2.1), .row 138 3 false false (On y2.2.2.1), .row 3 1 false false (tI y2.2.2.2.1), .box 37 [.mJun c.cfg.juns, .mAg c.cfg.ags, .li c.cfg.per, .li c.cfg.cap, .li c.cfg.hold, .li c.cfg.lock, .lb c.ref, .li c.now, .own 0 y2.1.length, .own 1 y2.2.1.length, .own 2 y2.2.2.1.length, .own 3 y2.2.2.2.1.length, .mView c.views], .box 147 [.mInp l], .row 152 1 false false (Ud y2.2.2.2.2.1), .row 248 3 false false (Aep y2.2.2.2.2.2.1), .row 3 1 false false (tI y2.2.2.2.2.2.2), .box 147 [.own 10 y3.length], .row 149 2 false false (Asg y3)]) 11 (fun _ => rfl) (by rfl) (fun _ => Qn rfl) (by decide) ?_ (fun j3 y3 => Awr c l y2.1 y2.2.1 y2.2.2.1 y2.2.2.2.1 y2.2.2.2.2.1 y2.2.2.2.2.2.1 y2.2.2.2.2.2.2 i2 /\ y3 = X1 l (En c.cfg.ags i2).toNat j3 /\ ∀ p ∈ y3, Atn p) ([]) (⟨hy2, rfl, fun p hp => by cases hp⟩) (fun j3 vs y3 hj3 hy3 => ?_) (fun y3 hy3 => ?_)
  ·intro vs hvs
   obtain ⟨a, _, rfl⟩ := A4.1 hvs
   simp [go_sem]
  ·
   obtain ⟨a3, ha3, rfl⟩ := D0 hj3
   have hse := Afl (Ac ha3)
   have hj3l := (Ab.1 ha3).1
   have hsq := Va c.cfg.ags i2 ag
   have hsq2 := Ir ag
   have hyo : y3.length = j3 := by rw [hy3.2.1]; exact Ajt ..
   have hbj : (En c.cfg.ags i2).toNat + j3 = a3.2.2.toNat := by have h1 := (Aja ha3).1; have h2 := (Kc c.cfg.ags i2).1; omega
   refine Ci ?_
   refine ⟨rfl, ?_⟩
   refine Dd <| .R <| .seq ?_
   refine Bq ?_
   refine Br ?_ ?_ <;> intro h62
   ·obtain ⟨e1, H1⟩ := gx l a3.2.2.toNat
    refine B0 H1 ?_
    refine B0 H1 ?_
    refine ⟨(y3 ++ ([e1])), ?_, ⟨[0, 1, 2, 3, 4, 5, 6, 7, 8, 9, 10], Ds (by decide) ?_ ?_, Fu rfl⟩⟩
    ·first | exact ⟨hy3.1, Abn hy3.2.1 (by rw [hbj, H1]; rfl), Ig hy3.2.2 (hi _ (Ac H1))⟩ | exact ⟨hy3.1, Abn hy3.2.1 (by rw [Ar (by omega)]; rfl), Ig hy3.2.2 ⟨Ae _, fun t ht => by cases ht⟩⟩
    ·simp [go_sem]
    simp [go_sem, H1]
   refine Bp <| .H1 ok0 ?_
   refine ⟨(y3 ++ ([⟨false, []⟩])), ?_, ⟨[0, 1, 2, 3, 4, 5, 6, 7, 8, 9, 10], Ds (by decide) ?_ ?_, Fu rfl⟩⟩
   ·first | exact ⟨hy3.1, Abn hy3.2.1 (by rw [hbj, H1]; rfl), Ig hy3.2.2 (hi _ (Ac H1))⟩ | exact ⟨hy3.1, Abn hy3.2.1 (by rw [Ar (by omega)]; rfl), Ig hy3.2.2 ⟨Ae _, fun t ht => by cases ht⟩⟩
   all_goals simp [go_sem]
  -- done
  have hyk3 := hy3.1.len
  have hrl3 := hy3.1.rl
  have hel3 := hy3.1.el
  have hsl3 := hy3.1.sl
  have hsq := Va c.cfg.ags i2 ag
  have hsq2 := Ir ag
  obtain ⟨dk, hdk⟩ : ∃ e, y2.1[i2]? = some e := ⟨_, Aa (by omega)⟩
  have hdi := hy3.1.ok dk (Ac hdk)
  have hye := hy3.2.1
  have hyo := congrArg List.length hye
  have hsn : (V2 c.cfg.ags i2 ag).length = (Ec ag).toNat := by omega
  simp only [A2, hsn] at hye
  simp only [A2, Ajt] at hyo
  have hol : y3.length <= 1000 := by omega
  have hTv := Aix c.cfg dk y3 c.now hdi.1 hdi.2 hol hy3.2.2
  have hTq := (Up c.cfg dk y3 c.now hdi.1 hdi.2 hol hy3.2.2).1
  have hTe : DtR c.cfg dk (X1 l (En c.cfg.ags i2).toNat (Ec ag).toNat) c.now (Hw c.cfg dk y3 c.now hdi.1 hdi.2 hol hy3.2.2) := .of hye
  generalize Hw c.cfg dk y3 c.now hdi.1 hdi.2 hol hy3.2.2 = D at hTv hTq hTe
  have he6 := hTq.2.2.2.2.2.2.1
  have hs6 := hTq.2.2.2.2.2.2.2
  refine B2 ok0 10 ?_
  refine Da hdk (hTv) ?_
  refine Bu hdk ?_
  obtain ⟨e2, H2⟩ := gx y2.2.2.2.2.1 i2
  refine Bu H2 ?_
  refine Bu H2 ?_
  refine B0 H2 ?_
  refine B0 H2 ?_
  exact ⟨by omega, ((y2.1).set i2 D.1, y2.2.1, y2.2.2.1, y2.2.2.2.1, (y2.2.2.2.2.1).set i2 D.2.1, y2.2.2.2.2.2.1 ++ D.2.2.1, y2.2.2.2.2.2.2 ++ D.2.2.2), ⟨hy3.1.f1, hy3.1.f2, hy3.1.f3, by simpa using hyk3, Uz hy3.1.ok ⟨hTq.1, by rw [hTq.2.1]; exact hdi.2⟩, by simpa using hrl3, Uz hy3.1.ro ⟨by rw [hTq.2.2.2.2.1]; exact hdi.2.2, hTq.2.2.2.2.2.1⟩, by simp; omega, by simp; omega, hy3.1.k.next hdk hag (by omega) hTe⟩, wk (cj2 (Dt ((i2 : Int) + 1)) H2) [0, 1, 2, 3, 4, 5, 6, 7, 8]⟩
 refine Bt <| .R ?_
 refine B2 ok0 6 ?_
 refine B2 ok0 7 ?_
 refine B2 ok0 8 ?_
 refine Bz ⟨(y2.2.2.2.2.1, y2.2.2.2.2.2.1, y2.2.2.2.2.2.2, y2.1), Ry [0, 1, 2, 3] (by simp [go_sem]) (by decide) (Fu rfl) (by simp [go_sem, hy2.f1, hy2.f2, hy2.f3]) ?_, ⟨hy2.len, hy2.ok, hy2.rl, hy2.ro, by have := hy2.el; dsimp only; omega, by have := hy2.sl; dsimp only; omega, by have h := hy2.k; rwa [show i2 = c.desks.length by omega] at h⟩⟩
 repeat' (first | exact .nil | refine .cons (by simp [go_sem, hy2.f1, hy2.f2, hy2.f3]) ?_)
end Go.Proofs.YtkkimgjinbaemaaGreat
