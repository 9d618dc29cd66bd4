/- The walk. -/
import Derived.Test.YtkkimgjinbaemaaGreatKbl
namespace Go.Proofs.YtkkimgjinbaemaaGreat
open Go.RowKit
set_option linter.unusedVariables false
set_option linter.unusedSimpArgs false
set_option maxRecDepth 100000
set_option maxHeartbeats 4000000
theorem At8 {P : Program} {n m : Nat} {x y : Code} {st : St} {K : Exit -> St -> Prop} (I : St -> Prop) (h1 : ∀ s, I s -> VX P n m y s K) (h2 : (∀ s, I s -> VX P n m y s K) -> VX P n m (.seq x y) st K) : VX P n m (.seq x y) st K := h2 h1
theorem Aha {α : Type} (p : α -> Bool) (l : List α) : Fd p l = -1 \/ ∃ (k : Nat) (t : α), Fd p l = (k : Nat) /\ l[k]? = some t := by
 unfold Fd
 suffices h : ∀ (l : List α) (i : Nat), Dv p l i = -1 \/ ∃ (k : Nat) (t : α), Dv p l i = ((i + k : Nat) : Int) /\ l[k]? = some t by
  rcases h l 0 with h | ⟨k, t, h1, h2⟩
  ·exact .inl h
  exact .inr ⟨k, t, by simpa using h1, h2⟩
 intro l
 induction l with
 | nil => intro i; exact .inl rfl
 | cons a l ih =>
  intro i
  by_cases ha : p a = true
  ·exact .inr ⟨0, a, by simp [Dv, ha], rfl⟩
  rcases ih (i + 1) with h | ⟨k, t, h1, h2⟩
  ·exact .inl (by simp [Dv, ha, h])
  exact .inr ⟨k + 1, t, by simp [Dv, ha, h1]; omega, h2⟩
theorem Vv (l : List Cg) (id : Int) (ws : List (Int × Int)) (now : Int) (hl : l.length <= 4) (hg : ∀ r ∈ l, r.legs.length <= 1000000) (hw : ws.length <= 1000000) : Ct 213 [.mReq l, .li id, .imm false 2 (Zy ws), .li now] (fun d : List Cg × Int => .tup [.mReq d.1, .li d.2]) (fun d => d.1.length <= 4 /\ ∀ r ∈ d.1, r.legs.length <= 1000000) := by
 refine Cb Tryz.func213 ?_
 have hl6 : l.length <= 1000000 := by omega
 refine VX.R <| .seq ?_
 refine VX.region_seq (by rfl) fun K1 hK1 => ?_
 simp [go_sem]
 obtain ⟨Y1, cY1, qY1⟩ := got (Ma l 4 hl6 hg)
 refine .l cY1 ?_
 simp [go_sem]
 refine Bz (by simp [go_sem]) (by simp [go_sem]) ?_
 simp [go_sem]
 first | refine .lo (Rq now) rfl (by simp [AV.cln, Cp]) ?_ | refine .skip ?_
 simp [go_sem]
 refine hK1 _ ?_; clear hK1
 refine VX.C ?_ ?_ <;> intro h24 <;> simp [go_sem] at h24
 ·refine VX.R ?_
  refine VX.ret (Co ?_); simp [go_sem]
  exact ⟨([], 1), rfl, Ae _, fun r h => by cases h⟩
 refine VX.skip <| .L ok0 (Mj l id hl6) <| .seq ?_
 refine VX.R ?_
 rcases Aha (fun r : Cg => r.id == id) l with hk | ⟨k, q, hk, hq⟩
 ·simp only [hk]
  refine VX.C ?_ ?_ <;> intro h29 <;> simp [go_sem] at h29
  refine VX.R ?_
  refine VX.ret (Co ?_); simp [go_sem]
  exact ⟨([], 12), rfl, Ae _, fun r h => by cases h⟩
 simp only [hk]
 refine VX.C ?_ ?_ <;> intro h29 <;> simp [go_sem] at h29
 ·exact absurd h29 (by omega)
 refine VX.skip ?_
 have hkl := (Ab.1 hq).1
 have hqg : q.legs.length <= 1000000 := hg q (Ac hq)
 have hne : l ≠ [] := fun e => by rw [e] at hkl; simp at hkl
 have hk5 : k * 5 + 4 < l.length * 5 := by omega
 refine At8 (fun s => ∃ cs : List AV, s = ⟨[(2, .imm false 2 (Zy ws)), (3, .li now), (8, .nil 5), (9, .li 0), (10, .li (k : Int)), (11, .bsl 0 l.length)], [.box 164 cs, .row 166 5 false false (C7 q.legs)]⟩ /\ cs.length = l.length * 5 /\ cs[k * 5 + 4]? = some (.own 1 q.legs.length) /\ (∀ r : Nat -> Option Nat, r 1 = some 1 -> Il r cs = cs) /\ (∀ o, Of o cs = cs.set (k * 5 + 4) ((AV.own 1 q.legs.length).melt o)) /\ ∀ g : List Dp, ttL (cs.set (k * 5 + 4) (.mLeg g)) = some (Et (l.set k { q with legs := g })).flatten) ?_ (fun tail => ?_)
 ·
  rintro s ⟨cs, rfl, hcl, hck, hr, hm, hcf⟩
  have hck2 : ∀ h, cs[k * 5 + 4]'h = .own 1 q.legs.length := fun h => by have := hck; rw [Aa h] at this; injection this
  refine VX.H (cj5 hck hcl hk5 hkl hck2) <| .seq ?_
  refine VX.R ?_
  refine VX.C ?_ ?_ <;> intro h41 <;> simp [go_sem] at h41
  ·refine VX.R ?_
   refine VX.ret (Co ?_); simp [go_sem]
   exact ⟨([], 8), rfl, Ae _, fun r h => by cases h⟩
  refine VX.skip ?_
  have hwl : ws.length = q.legs.length := by omega
  refine VX.seq <| .R <| .block ?_
  refine VX.rangeE ws.length (fun i1 (y1 : List Dp) => ⟨[(3, .li now), (11, .bsl 0 l.length), (12, .own 1 q.legs.length), (42, .imm false 2 (Zy ws)), (43, .li ws.length), (44, .li i1)], [.box 164 cs, .row 166 5 false false (C7 y1)]⟩) (fun i1 y1 => y1.length = q.legs.length) q.legs ⟨[0, 1], Bp (by decide) ?_ ?_, by simp⟩ rfl fun i1 y1 hi1 hy1 => ?_
  ·simp [go_sem]
  ·simp [go_sem, hr]
  refine VX.R <| .seq ?_
  refine VX.C ?_ ?_ <;> intro h45 <;> simp [go_sem] at h45
  ·refine VX.skip <| .seq <| .block ?_
   obtain ⟨e1, H1⟩ : ∃ e, ws[i1]? = some e := ⟨_, Aa (by omega)⟩
   obtain ⟨e2, H2⟩ : ∃ e, y1[i1]? = some e := ⟨_, Aa (by omega)⟩
   refine VX.H (cj3 H1 H2 hy1) ?_
   refine VX.M (cj3 H1 H2 hy1) (Te e2.j e2.p e1.1 e1.2 now) <| .seq ?_
   refine VX.R ?_
   refine VX.C ?_ ?_ <;> intro h69 <;> simp [go_sem] at h69
   ·refine VX.R ?_
    refine VX.ret (Co ?_); simp [go_sem]
    exact ⟨([], 8), rfl, Ae _, fun r h => by cases h⟩
   refine VX.skip <| .G1 (cj3 H1 H2 hy1) ?_
   refine VX.R1 ?_
   have hs : ∀ v, ((C7 y1).set i1 v)[i1]? = some v := fun v => Bg (by simp; omega)
   refine ⟨by omega, y1.set i1 ⟨e2.j, e2.p, (J8 e2.j e2.p e1.1 e1.2 now).1.fr, (J8 e2.j e2.p e1.1 e1.2 now).1.to, e2.si⟩, ?_, [0, 1], Bp (by decide) ?_ ?_, by simp⟩
   ·simpa using hy1
   ·simp [go_sem, Bq ((i1 : Int) + 1)]
   simp [go_sem, H1, H2, hy1, hr, hs, List.map_set]
  refine VX.exit <| .R ?_
  refine VX.Z (cj2 hy1 hm) 1 ?_
  refine VX.sealB 0 5 (Et (l.set k { q with legs := y1 })) rfl (hcf y1) (fun e he => by obtain ⟨r, _, rfl⟩ := A4.1 he; rfl) (by simp) ?_
  simp [go_sem]
  refine VX.ret (Co ?_); simp [go_sem]
  refine ⟨(l.set k { q with legs := y1 }, 0), by simp [go_sem], by simpa using hl, fun r hr => ?_⟩
  rcases Bi hr with h | h
  ·exact hg r h
  rw [h]; show y1.length <= _; omega
 have hk0 := Hf l hne hl hg
 refine VX.wkE (s' := ⟨[(0, .mReq l), (2, .imm false 2 (Zy ws)), (3, .li now), (8, .nil 5), (9, .li 0), (10, .li (k : Int))], []⟩) ⟨[], Bp (by decide) ?_ ?_, by simp⟩ ?_
 ·simp [go_sem]
 ·simp [go_sem]
 clear h24 h29 hg hw hl6 hk5
 match l, k, hl, hne, hq, hkl, hk0, tail with
 | [], k, _, h, _, _, _, _ => exact absurd rfl h
 | _ :: _ :: _ :: _ :: _ :: _, k, h, _, _, _, _, _ => simp at h
 | [p0], 0, _, _, hq, _, hk0, tail =>
  simp at hq; subst hq
  refine VX.S (fun K kk => by simp [go_sem, Di, Cl, Ec]; refine .by hk0 (LeL.refl _) (by simp) ?_; simp [go_sem, Di, Cl, Ec]; exact kk) ?_
  refine VX.wkE ⟨[0, 1], Bp (by decide) ?_ ?_, by simp⟩ (tail _ ⟨[.li p0.id, .li p0.veh, .li p0.cls, .li p0.unt, .own 1 p0.legs.length], rfl, rfl, rfl, fun r h => by simp [Il, AV.ren, h], fun o => rfl, fun g => rfl⟩)
  all_goals simp [go_sem]
 | [p0], k + 1, _, _, _, h, _, _ => exact absurd h (by simp only [A6, List.length_nil]; omega)
 | [p0, p1], 0, _, _, hq, _, hk0, tail =>
  simp at hq; subst hq
  refine VX.S (fun K kk => by simp [go_sem, Di, Cl, Ec]; refine .by hk0 (LeL.refl _) (by simp) ?_; simp [go_sem, Di, Cl, Ec]; exact kk) ?_
  refine VX.Z ok0 2 ?_
  refine VX.wkE ⟨[0, 1], Bp (by decide) ?_ ?_, by simp⟩ (tail _ ⟨[.li p0.id, .li p0.veh, .li p0.cls, .li p0.unt, .own 1 p0.legs.length, .li p1.id, .li p1.veh, .li p1.cls, .li p1.unt, .imm true 5 (C7 p1.legs)], rfl, rfl, rfl, fun r h => by simp [Il, AV.ren, h], fun o => rfl, fun g => rfl⟩)
  all_goals simp [go_sem]
 | [p0, p1], 1, _, _, hq, _, hk0, tail =>
  simp at hq; subst hq
  refine VX.S (fun K kk => by simp [go_sem, Di, Cl, Ec]; refine .by hk0 (LeL.refl _) (by simp) ?_; simp [go_sem, Di, Cl, Ec]; exact kk) ?_
  refine VX.Z ok0 1 ?_
  refine VX.wkE ⟨[0, 2], Bp (by decide) ?_ ?_, by simp⟩ (tail _ ⟨[.li p0.id, .li p0.veh, .li p0.cls, .li p0.unt, .imm true 5 (C7 p0.legs), .li p1.id, .li p1.veh, .li p1.cls, .li p1.unt, .own 1 p1.legs.length], rfl, rfl, rfl, fun r h => by simp [Il, AV.ren, h], fun o => rfl, fun g => rfl⟩)
  all_goals simp [go_sem]
 | [p0, p1], k + 2, _, _, _, h, _, _ => exact absurd h (by simp only [A6, List.length_nil]; omega)
 | [p0, p1, p2], 0, _, _, hq, _, hk0, tail =>
  simp at hq; subst hq
  refine VX.S (fun K kk => by simp [go_sem, Di, Cl, Ec]; refine .by hk0 (LeL.refl _) (by simp) ?_; simp [go_sem, Di, Cl, Ec]; exact kk) ?_
  refine VX.Z ok0 2 ?_
  refine VX.Z ok0 3 ?_
  refine VX.wkE ⟨[0, 1], Bp (by decide) ?_ ?_, by simp⟩ (tail _ ⟨[.li p0.id, .li p0.veh, .li p0.cls, .li p0.unt, .own 1 p0.legs.length, .li p1.id, .li p1.veh, .li p1.cls, .li p1.unt, .imm true 5 (C7 p1.legs), .li p2.id, .li p2.veh, .li p2.cls, .li p2.unt, .imm true 5 (C7 p2.legs)], rfl, rfl, rfl, fun r h => by simp [Il, AV.ren, h], fun o => rfl, fun g => rfl⟩)
  all_goals simp [go_sem]
 | [p0, p1, p2], 1, _, _, hq, _, hk0, tail =>
  simp at hq; subst hq
  refine VX.S (fun K kk => by simp [go_sem, Di, Cl, Ec]; refine .by hk0 (LeL.refl _) (by simp) ?_; simp [go_sem, Di, Cl, Ec]; exact kk) ?_
  refine VX.Z ok0 1 ?_
  refine VX.Z ok0 3 ?_
  refine VX.wkE ⟨[0, 2], Bp (by decide) ?_ ?_, by simp⟩ (tail _ ⟨[.li p0.id, .li p0.veh, .li p0.cls, .li p0.unt, .imm true 5 (C7 p0.legs), .li p1.id, .li p1.veh, .li p1.cls, .li p1.unt, .own 1 p1.legs.length, .li p2.id, .li p2.veh, .li p2.cls, .li p2.unt, .imm true 5 (C7 p2.legs)], rfl, rfl, rfl, fun r h => by simp [Il, AV.ren, h], fun o => rfl, fun g => rfl⟩)
  all_goals simp [go_sem]
 | [p0, p1, p2], 2, _, _, hq, _, hk0, tail =>
  simp at hq; subst hq
  refine VX.S (fun K kk => by simp [go_sem, Di, Cl, Ec]; refine .by hk0 (LeL.refl _) (by simp) ?_; simp [go_sem, Di, Cl, Ec]; exact kk) ?_
  refine VX.Z ok0 1 ?_
  refine VX.Z ok0 2 ?_
  refine VX.wkE ⟨[0, 3], Bp (by decide) ?_ ?_, by simp⟩ (tail _ ⟨[.li p0.id, .li p0.veh, .li p0.cls, .li p0.unt, .imm true 5 (C7 p0.legs), .li p1.id, .li p1.veh, .li p1.cls, .li p1.unt, .imm true 5 (C7 p1.legs), .li p2.id, .li p2.veh, .li p2.cls, .li p2.unt, .own 1 p2.legs.length], rfl, rfl, rfl, fun r h => by simp [Il, AV.ren, h], fun o => rfl, fun g => rfl⟩)
  all_goals simp [go_sem]
 | [p0, p1, p2], k + 3, _, _, _, h, _, _ => exact absurd h (by simp only [A6, List.length_nil]; omega)
 | [p0, p1, p2, p3], 0, _, _, hq, _, hk0, tail =>
  simp at hq; subst hq
  refine VX.S (fun K kk => by simp [go_sem, Di, Cl, Ec]; refine .by hk0 (LeL.refl _) (by simp) ?_; simp [go_sem, Di, Cl, Ec]; exact kk) ?_
  refine VX.Z ok0 2 ?_
  refine VX.Z ok0 3 ?_
  refine VX.Z ok0 4 ?_
  refine VX.wkE ⟨[0, 1], Bp (by decide) ?_ ?_, by simp⟩ (tail _ ⟨[.li p0.id, .li p0.veh, .li p0.cls, .li p0.unt, .own 1 p0.legs.length, .li p1.id, .li p1.veh, .li p1.cls, .li p1.unt, .imm true 5 (C7 p1.legs), .li p2.id, .li p2.veh, .li p2.cls, .li p2.unt, .imm true 5 (C7 p2.legs), .li p3.id, .li p3.veh, .li p3.cls, .li p3.unt, .imm true 5 (C7 p3.legs)], rfl, rfl, rfl, fun r h => by simp [Il, AV.ren, h], fun o => rfl, fun g => rfl⟩)
  all_goals simp [go_sem]
 | [p0, p1, p2, p3], 1, _, _, hq, _, hk0, tail =>
  simp at hq; subst hq
  refine VX.S (fun K kk => by simp [go_sem, Di, Cl, Ec]; refine .by hk0 (LeL.refl _) (by simp) ?_; simp [go_sem, Di, Cl, Ec]; exact kk) ?_
  refine VX.Z ok0 1 ?_
  refine VX.Z ok0 3 ?_
  refine VX.Z ok0 4 ?_
  refine VX.wkE ⟨[0, 2], Bp (by decide) ?_ ?_, by simp⟩ (tail _ ⟨[.li p0.id, .li p0.veh, .li p0.cls, .li p0.unt, .imm true 5 (C7 p0.legs), .li p1.id, .li p1.veh, .li p1.cls, .li p1.unt, .own 1 p1.legs.length, .li p2.id, .li p2.veh, .li p2.cls, .li p2.unt, .imm true 5 (C7 p2.legs), .li p3.id, .li p3.veh, .li p3.cls, .li p3.unt, .imm true 5 (C7 p3.legs)], rfl, rfl, rfl, fun r h => by simp [Il, AV.ren, h], fun o => rfl, fun g => rfl⟩)
  all_goals simp [go_sem]
 | [p0, p1, p2, p3], 2, _, _, hq, _, hk0, tail =>
  simp at hq; subst hq
  refine VX.S (fun K kk => by simp [go_sem, Di, Cl, Ec]; refine .by hk0 (LeL.refl _) (by simp) ?_; simp [go_sem, Di, Cl, Ec]; exact kk) ?_
  refine VX.Z ok0 1 ?_
  refine VX.Z ok0 2 ?_
  refine VX.Z ok0 4 ?_
  refine VX.wkE ⟨[0, 3], Bp (by decide) ?_ ?_, by simp⟩ (tail _ ⟨[.li p0.id, .li p0.veh, .li p0.cls, .li p0.unt, .imm true 5 (C7 p0.legs), .li p1.id, .li p1.veh, .li p1.cls, .li p1.unt, .imm true 5 (C7 p1.legs), .li p2.id, .li p2.veh, .li p2.cls, .li p2.unt, .own 1 p2.legs.length, .li p3.id, .li p3.veh, .li p3.cls, .li p3.unt, .imm true 5 (C7 p3.legs)], rfl, rfl, rfl, fun r h => by simp [Il, AV.ren, h], fun o => rfl, fun g => rfl⟩)
  all_goals simp [go_sem]
 | [p0, p1, p2, p3], 3, _, _, hq, _, hk0, tail =>
  simp at hq; subst hq
  refine VX.S (fun K kk => by simp [go_sem, Di, Cl, Ec]; refine .by hk0 (LeL.refl _) (by simp) ?_; simp [go_sem, Di, Cl, Ec]; exact kk) ?_
  refine VX.Z ok0 1 ?_
  refine VX.Z ok0 2 ?_
  refine VX.Z ok0 3 ?_
  refine VX.wkE ⟨[0, 4], Bp (by decide) ?_ ?_, by simp⟩ (tail _ ⟨[.li p0.id, .li p0.veh, .li p0.cls, .li p0.unt, .imm true 5 (C7 p0.legs), .li p1.id, .li p1.veh, .li p1.cls, .li p1.unt, .imm true 5 (C7 p1.legs), .li p2.id, .li p2.veh, .li p2.cls, .li p2.unt, .imm true 5 (C7 p2.legs), .li p3.id, .li p3.veh, .li p3.cls, .li p3.unt, .own 1 p3.legs.length], rfl, rfl, rfl, fun r h => by simp [Il, AV.ren, h], fun o => rfl, fun g => rfl⟩)
  all_goals simp [go_sem]
 | [p0, p1, p2, p3], k + 4, _, _, _, h, _, _ => exact absurd h (by simp only [A6, List.length_nil]; omega)
theorem V0 (now : Int) : Ct 150 [.imm false 5 (Et []), .li now] (fun d : List Cg => .mReq d) (fun d => d.length = 0 /\ ∀ r ∈ d, r.legs.length <= 1000000) := by
 refine Cb Tryz.func150 ?_
 refine VX.R ?_
 refine VX.L ok0 (T2 [] (by simp) (by simp)) <| .seq ?_
 refine VX.R <| .block ?_
 refine VX.rangeE 0 (fun i1 (y1 : Unit) => ⟨[(1, .li now), (5, .imm false 5 []), (11, .imm false 5 []), (12, .li 0), (13, .li i1)], []⟩) (fun i1 y1 => True) () (wk ok0 []) trivial fun i1 y1 hi1 hy1 => ?_
 refine VX.R <| .seq ?_
 refine VX.C ?_ ?_ <;> intro h14 <;> simp [go_sem] at h14
 ·exact absurd h14 (by omega)
 refine VX.exit <| .R ?_
 refine VX.ret (Co ?_); simp [go_sem]
 exact ⟨[], rfl, rfl, fun r hr => by simp at hr⟩
theorem J7 (l : List Cg) (now : Int) (hl : l.length <= 4) (hg : ∀ r ∈ l, r.legs.length <= 1000000) : Ct 150 [.mReq l, .li now] (fun d : List Cg => .mReq d) (fun d => d.length = l.length /\ ∀ r ∈ d, r.legs.length <= 1000000) := by
 match l, hl, hg with
 | [], _, _ => exact V0 now
 | [q0], _, hg => exact Vz q0 now hg
 | [q0, q1], _, hg => exact Vy q0 q1 now hg
 | [q0, q1, q2], _, hg => exact Vx q0 q1 q2 now hg
 | [q0, q1, q2, q3], _, hg => exact Vw q0 q1 q2 q3 now hg
 | _ :: _ :: _ :: _ :: _ :: l, h, _ => simp at h
noncomputable def Hv (l : List Cg) (now : Int) (hl : l.length <= 4) (hg : ∀ r ∈ l, r.legs.length <= 1000000) : List Cg := (got (J7 l now hl hg)).choose
theorem Rr (l : List Cg) (now : Int) (hl : l.length <= 4) (hg : ∀ r ∈ l, r.legs.length <= 1000000) : PP 150 [] [.mReq l, .li now] [] (.mReq (Hv l now hl hg)) := (got (J7 l now hl hg)).choose_spec.1
theorem Sa (l : List Cg) (now : Int) (hl : l.length <= 4) (hg : ∀ r ∈ l, r.legs.length <= 1000000) : (Hv l now hl hg).length = l.length /\ ∀ r ∈ (Hv l now hl hg), r.legs.length <= 1000000 := (got (J7 l now hl hg)).choose_spec.2
def Sg (cur : Array Value) (n i : Nat) : Array Value := (cur.toList.take ((i + 1) * 5) ++ (cur.toList.drop (i * 5)).take ((n - i) * 5) ++ cur.toList.drop ((i + 1) * 5 + ((cur.toList.drop (i * 5)).take ((n - i) * 5)).length)).toArray
def Jo (cur vs : Array Value) (i : Nat) : Array Value := (cur.toList.take (i * 5) ++ vs.toList.take 5 ++ cur.toList.drop (i * 5 + (vs.toList.take 5).length)).toArray
theorem Wq {cur : Array Value} {n i c : Nat} (hs : cur.size = c * 5) (hi : i < n) (hn : n + 1 <= c) : (Sg cur n i).size = c * 5 := by
 simp [Sg]; omega
theorem Age {w : World} {b : Nat} {cur : Array Value} {ty : TypeId} {f : Nat × Nat} (h : w.heap[b]? = some (.cells cur ty f)) : w.shape? b = some (ty, cur.size) := by simp [World.shape?, h]
theorem Ac7 {w : World} {b o : Nat} {cur : Array Value} {ty : TypeId} (h : w.heap[b]? = some (.cells cur ty (0, 0))) : w.frozen? ⟨b, o, none⟩ = false := by simp [World.frozen?, h]
theorem Apu (w : World) (b vb vc off la cb : Nat) (cur vcur : Array Value) (hb : w.heap[b]? = some (.cells cur 164 (0, 0))) (hvb : w.heap[vb]? = some (.cells vcur 164 (0, 0))) (hne : vb ≠ b) (h0 : cur.size ≠ 0) :
 (callFunc 280 #[.slice (some ⟨vb, 0, none⟩) 1 vc, .slice (some ⟨b, off, none⟩) la cb]).run Tryz.prog w = .ok (.value (.bool false)) w := by
 rw [run_callFunc_extern Tryz.func280 (by kernel_rfl) (by kernel_rfl) (by kernel_rfl) (e := Extern.SlicesOverlaps.overlaps #[67, 67] #[4]) (by kernel_rfl),
  Lib.run_overlaps_apart w 67 4 164 (by kernel_rfl) 5 (fun w => Jc (P := Tryz.prog) (t := 164) (by kernel_rfl) w) ⟨vb, 0, none⟩ ⟨b, off, none⟩ 1 vc la cb hne 164 164 vcur.size cur.size (Age hvb) (Age hb) h0 (Ac7 hvb) (Ac7 hvb)]
 rfl
theorem Alf (b n c i vb vc : Nat) (cur vcur : Array Value) (w : World) (hi : i < n) (hroom : n + 1 <= c) (hc : c <= 9223372036854775807) (hb : w.heap[b]? = some (.cells cur 164 (0, 0))) (hcs : cur.size = c * 5) (hvb : w.heap[vb]? = some (.cells vcur 164 (0, 0))) (hvs : 5 <= vcur.size) (hne : vb ≠ b)
 (h1 : ∀ j, j < n * 5 -> ∀ v, cur[j]? = some v -> v.oneCell' = true) (h1v : ∀ j, j < 5 -> ∀ v, vcur[j]? = some v -> v.oneCell' = true) :
  Calls Tryz.prog 266 #[.slice (some ⟨b, 0, none⟩) n c, .int .i64 i, .slice (some ⟨vb, 0, none⟩) 1 vc] w fun e w' =>
   e = .returned (.slice (some ⟨b, 0, none⟩) (n + 1) c) /\ w' = (w.drew.setRow b (Sg cur n i)).setRow b (Jo (Sg cur n i) vcur i) := by
 have hu : Tryz.prog.underlying 67 = some (.slice 164) := by kernel_rfl
 have hsz : (Tryz.prog.info? 164).map (·.size) = some 5 := by kernel_rfl
 have hz2 : ¬ ((i : Int) = (n : Int)) := by omega
 have hov : ∀ la cb, (callFunc 280 #[.slice (some ⟨vb, 0, none⟩) 1 vc, .slice (some ⟨b, (i + 1) * 5, none⟩) la cb]).run Tryz.prog w = .ok (.value (.bool false)) w := fun la cb => Apu w b vb vc _ la cb cur vcur hb hvb hne (by omega)
 have hw1 : IntKind.i64.wrap ((i : Int) + 1) = (i : Int) + 1 := by rw [IntKind.wrap_i64]; omega
 have hl1 : ((cur.toList.drop (i * 5)).take ((n - i) * 5)).length = (n - i) * 5 := by simp; omega
 have hcp1 : ∀ ty dc sc, (Builtin.copy_ #[67, 67] ty #[.slice (some ⟨b, (i + 1) * 5, none⟩) (n - i) dc, .slice (some ⟨b, i * 5, none⟩) (n + 1 - i) sc]).run Tryz.prog w.drew = .ok (goInt ((n - i : Nat) : Int)) (w.drew.setRow b (Sg cur n i)) := fun ty dc sc => by
  have hm : Nat.min (n + 1 - i) (n - i) = n - i := by show min _ _ = _; omega
  have h := I0 (P := Tryz.prog) w.drew 67 67 ty 164 5 b ((i + 1) * 5) (n - i) dc ⟨b, i * 5, none⟩ (n + 1 - i) sc cur 164 ((cur.toList.drop (i * 5)).take ((n - i) * 5)) hu hsz hb (by rw [hl1, hm]) (fun j v hj => by
   have hj' : j < (n - i) * 5 := by rw [<- hl1]; exact (Ab.1 hj).1
   rw [Ag hj', Bd] at hj
   rw [Addr.add_lit, cell_of_row w.drew b _ cur 164 (0, 0) hb]
   simpa using hj) (by rw [hl1]; omega) (fun v hv => by
   obtain ⟨j, hj⟩ := A3.1 hv
   have hj' : j < (n - i) * 5 := by rw [<- hl1]; exact (Ab.1 hj).1
   rw [Ag hj', Bd] at hj
   exact h1 (i * 5 + j) (by omega) v (by simpa using hj))
  rw [hm] at h
  exact h
 have hcp2 : ∀ (W : World), W.heap[b]? = some (.cells (Sg cur n i) 164 (0, 0)) -> W.heap[vb]? = some (.cells vcur 164 (0, 0)) -> ∀ ty dc, (Builtin.copy_ #[67, 67] ty #[.slice (some ⟨b, i * 5, none⟩) (n + 1 - i) dc, .slice (some ⟨vb, 0, none⟩) 1 vc]).run Tryz.prog W = .ok (goInt 1) (W.setRow b (Jo (Sg cur n i) vcur i)) := fun W hWb hWv ty dc => by
  have hm : Nat.min 1 (n + 1 - i) = 1 := by show min _ _ = _; omega
  have hl2 : (vcur.toList.take 5).length = 5 := by simp; omega
  have h := I0 (P := Tryz.prog) W 67 67 ty 164 5 b (i * 5) (n + 1 - i) dc ⟨vb, 0, none⟩ 1 vc (Sg cur n i) 164 (vcur.toList.take 5) hu hsz hWb (by rw [hl2, hm]) (fun j v hj => by
   have hj' : j < 5 := by rw [<- hl2]; exact (Ab.1 hj).1
   rw [Ag hj'] at hj
   rw [Addr.add_lit, cell_of_row W vb _ vcur 164 (0, 0) hWv]
   simpa using hj) (by rw [hl2, Wq hcs hi hroom]; omega) (fun v hv => by
   obtain ⟨j, hj⟩ := A3.1 hv
   have hj' : j < 5 := by rw [<- hl2]; exact (Ab.1 hj).1
   rw [Ag hj'] at hj
   exact h1v j hj' v (by simpa using hj))
  rw [hm] at h
  exact h
 have hW1 : (w.drew.setRow b (Sg cur n i)).heap[b]? = some (.cells (Sg cur n i) 164 (0, 0)) := setRow_heap w.drew b cur _ _ (0, 0) hb
 have hW2 : (w.drew.setRow b (Sg cur n i)).heap[vb]? = some (.cells vcur 164 (0, 0)) := (setRow_other w.drew b vb _ hne).trans hvb
 have hin : i <= n := by omega
 have hb1 : (0 : Int) <= (i : Int) + 1 := by omega
 have htn : ((i : Int) + 1).toNat = i + 1 := by omega
 have hb2 : ¬ (c = i + 1) := by omega
 have hb3 : (i : Int) <= (n : Int) + 1 := by omega
 have hb4 : ¬ (c = i) := by omega
 have mixed : Tryz.prog.follows Departure.mixedOrders = true := by kernel_rfl
 go_enter Tryz.func266, Tryz.ntmps266
 go_wp2_with (simp only [hov])
 go_region_law_o (refine step_copy_runI rfl _ _ 67 67 rfl _ _ (by simp [Act.eval, Act.put]) (by simp [Act.eval, Act.put]) (hcp1 _ _ _) ?_)
 go_wp2_with (at_builtin; refine wpList_copy_runI _ rfl _ _ 67 67 rfl _ _ rfl rfl (hcp2 _ hW1 hW2 _ _) ?_)
 go_ret
 exact ⟨rfl, rfl⟩
def Yq (row cur : Array Value) (n i : Nat) : Array Value := (row.toList.take ((i + 1) * 5) ++ (cur.toList.drop (i * 5)).take ((n - i) * 5) ++ row.toList.drop ((i + 1) * 5 + ((cur.toList.drop (i * 5)).take ((n - i) * 5)).length)).toArray
theorem Vn (w : World) (R Y : Array Value) (e : TypeId) : (w.alloc (.cells R e)).setRow w.heap.size Y = w.alloc (.cells Y e) := by
 unfold World.alloc World.setRow
 congr 1
 apply Array.ext_getElem?
 intro j
 rw [Array.getElem?_modify, Array.getElem?_push, Array.getElem?_push]
 by_cases hj : w.heap.size = j
 ·subst hj; simp
 rw [if_neg hj, if_neg (fun e => hj e.symm), if_neg (fun e => hj e.symm)]
theorem Ahn (w : World) (o : Obj) : (w.alloc o).heap[w.heap.size]? = some o := by show (w.heap.push o)[w.heap.size]? = some o; simp
theorem Xq (w : World) (o : Obj) {b : Nat} {x : Obj} (h : w.heap[b]? = some x) : (w.alloc o).heap[b]? = some x := by
 have hb := (Aw.1 h).1
 rw [show (w.alloc o).heap = w.heap.push o from rfl, Array.getElem?_push, if_neg (by omega), h]
theorem Anu (b n c i vb vc : Nat) (cur vcur : Array Value) (w : World) (hi : i < n) (hnc : n <= c) (hroom : c < n + 1) (hbig : n <= 1000) (hb : w.heap[b]? = some (.cells cur 164 (0, 0))) (hcs : cur.size = c * 5) (hvb : w.heap[vb]? = some (.cells vcur 164 (0, 0))) (hvs : 5 <= vcur.size)
 (h1 : ∀ j, j < n * 5 -> ∀ v, cur[j]? = some v -> v.oneCell' = true) (h1v : ∀ j, j < 5 -> ∀ v, vcur[j]? = some v -> v.oneCell' = true) :
  Calls Tryz.prog 266 #[.slice (some ⟨b, 0, none⟩) n c, .int .i64 i, .slice (some ⟨vb, 0, none⟩) 1 vc] w fun e w' =>
   ∃ (ROW : Array Value) (G k : Nat), ROW.size = G * 5 /\ n + 1 <= G /\ G <= maxLen /\ (∀ j, j < i * 5 -> ROW[j]? = cur[j]?) /\ e = .returned (.slice (some ⟨w.heap.size, 0, none⟩) (n + 1) G) /\ w' = { w.alloc (.cells (Yq (Jo ROW vcur i) cur n i) 164) with drawn := k } := by
 have hu : Tryz.prog.underlying 67 = some (.slice 164) := by kernel_rfl
 have hu3 : Tryz.prog.underlying 3 = some (.int .i64) := by kernel_rfl
 have hsz : (Tryz.prog.info? 164).map (·.size) = some 5 := by kernel_rfl
 have hbt : (Tryz.prog.info? 164).map (fun i => decide (i.bytes <= 1000)) = some true := by kernel_rfl
 obtain ⟨i0, z, hi0, hz0, hzs, hzc, _, _⟩ := Mr (P := Tryz.prog) (t := 164) (by kernel_rfl)
 have hzs : i0.size = 5 := by rw [hi0] at hsz; simpa using hsz
 have hzc : z.cells.size = 5 := by rw [hzc, <- hzs]; simp [tsz, hi0]
 have hby : i0.bytes <= 1000 := by rw [hi0] at hbt; simpa using hbt
 have hz2 : ¬ ((i : Int) = (n : Int)) := by omega
 have hz3 : (c : Int) < (n : Int) + 1 := by omega
 have hkk : (n : Int) + 1 - (i : Int) = ((n + 1 - i : Nat) : Int) := by omega
 have hik : i + (n + 1 - i) = n + 1 := by omega
 have hbw : b < w.heap.size := (Aw.1 hb).1
 have hvw : vb < w.heap.size := (Aw.1 hvb).1
 have htk : (cur.toList.take (i * 5)).length = i * 5 := by simp; omega
 have hold : (Builtin.firstCells i0.size i (.slice (some ⟨b, 0, none⟩) i c)).run Tryz.prog w.drew = .ok (cur.toList.take (i * 5)).toArray w.drew := by
  rw [hzs]
  exact run_firstCells_some w.drew 5 i ⟨b, 0, none⟩ i c (cur.toList.take (i * 5)) htk (fun j v hj => by
   have hj' : j < i * 5 := by rw [<- htk]; exact (Ab.1 hj).1
   rw [Ag hj'] at hj
   rw [Addr.add_lit, cell_of_row w.drew b _ cur 164 (0, 0) hb]
   simpa using hj)
 obtain ⟨G, hG⟩ : ∃ G, G = grownCap w (n + 1) c 164 := ⟨_, rfl⟩
 obtain ⟨ROW, hROW⟩ : ∃ ROW : Array Value, ROW = (cur.toList.take (i * 5)).toArray ++ Builtin.zeroCells z.cells (n + 1 - i) ++ Builtin.zeroCells z.cells (G - (n + 1)) := ⟨_, rfl⟩
 have hGn : n + 1 <= G := by rw [hG]; exact grownCap_ge w _ _ _
 have hGm : G <= maxLen := by rw [hG]; exact grownCap_le_maxLen w (n + 1) c 164 (by unfold maxLen; omega)
 have hG63 : G <= 9223372036854775807 := by unfold maxLen at hGm; omega
 have hbn : (n + 1) * i0.bytes <= 140737488355328 := Ak (Nat.mul_le_mul (show n + 1 <= 1001 by omega) hby) (by decide)
 have hRs : ROW.size = G * 5 := by
  rw [hROW]
  simp [size_zeroCells, hzc, Nat.min_eq_left (show i * 5 <= cur.size by omega)]
  omega
 have hRc : ∀ j, j < i * 5 -> ROW[j]? = cur[j]? := fun j hj => by
  rw [hROW, Array.append_assoc, Bk (by simp; omega)]
  simp [Ag hj]
 have hrz : ∀ ty, (Builtin.append_ #[67, 3] ty #[.slice (some ⟨b, 0, none⟩) i c, .int .i64 ((n : Int) + 1 - (i : Int))]).run Tryz.prog w = .ok (.slice (some ⟨w.heap.size, 0, none⟩) (n + 1) G) (w.drew.alloc (.cells ROW 164)) := fun ty => by
  have h := Lib.run_append_grow_zeros w 67 3 ty 164 i0 z .i64 .i64 hu hu3 hi0 hz0 (some ⟨b, 0, none⟩) i c (cur.toList.take (i * 5)) hold (n + 1 - i) (by omega) (by omega) (by omega) (by omega) (Ak (Nat.mul_le_mul (show n + 1 - i <= 1001 by omega) hby) (by decide)) (by rw [hik]; exact growslice_fits hroom hbn)
  rw [hik, <- hG, <- hROW] at h
  rw [hkk]
  exact h
 have hl2 : (vcur.toList.take 5).length = 5 := by simp; omega
 have hl1 : ((cur.toList.drop (i * 5)).take ((n - i) * 5)).length = (n - i) * 5 := by simp; omega
 have hBs : (Jo ROW vcur i).size = G * 5 := by simp [Jo]; omega
 have hcpA : ∀ (W : World), W.heap[w.heap.size]? = some (.cells ROW 164 (0, 0)) -> W.heap[vb]? = some (.cells vcur 164 (0, 0)) -> ∀ ty dc, (Builtin.copy_ #[67, 67] ty #[.slice (some ⟨w.heap.size, i * 5, none⟩) (n + 1 - i) dc, .slice (some ⟨vb, 0, none⟩) 1 vc]).run Tryz.prog W = .ok (goInt ((1 : Nat) : Int)) (W.setRow w.heap.size (Jo ROW vcur i)) := fun W hWb hWv ty dc => by
  have hm : Nat.min 1 (n + 1 - i) = 1 := by show min _ _ = _; omega
  have h := I0 (P := Tryz.prog) W 67 67 ty 164 5 w.heap.size (i * 5) (n + 1 - i) dc ⟨vb, 0, none⟩ 1 vc ROW 164 (vcur.toList.take 5) hu hsz hWb (by rw [hl2, hm]) (fun j v hj => by
   have hj' : j < 5 := by rw [<- hl2]; exact (Ab.1 hj).1
   rw [Ag hj'] at hj
   rw [Addr.add_lit, cell_of_row W vb _ vcur 164 (0, 0) hWv]
   simpa using hj) (by rw [hl2, hRs]; omega) (fun v hv => by
   obtain ⟨j, hj⟩ := A3.1 hv
   have hj' : j < 5 := by rw [<- hl2]; exact (Ab.1 hj).1
   rw [Ag hj'] at hj
   exact h1v j hj' v (by simpa using hj))
  rw [hm] at h
  exact h
 have hcpB : ∀ (W : World), W.heap[w.heap.size]? = some (.cells (Jo ROW vcur i) 164 (0, 0)) -> W.heap[b]? = some (.cells cur 164 (0, 0)) -> ∀ ty dc sc, (Builtin.copy_ #[67, 67] ty #[.slice (some ⟨w.heap.size, (i + 1) * 5, none⟩) (n - i) dc, .slice (some ⟨b, i * 5, none⟩) (n - i) sc]).run Tryz.prog W = .ok (goInt ((n - i : Nat) : Int)) (W.setRow w.heap.size (Yq (Jo ROW vcur i) cur n i)) := fun W hWn hWb ty dc sc => by
  have hm : Nat.min (n - i) (n - i) = n - i := by show min _ _ = _; omega
  have h := I0 (P := Tryz.prog) W 67 67 ty 164 5 w.heap.size ((i + 1) * 5) (n - i) dc ⟨b, i * 5, none⟩ (n - i) sc (Jo ROW vcur i) 164 ((cur.toList.drop (i * 5)).take ((n - i) * 5)) hu hsz hWn (by rw [hl1, hm]) (fun j v hj => by
   have hj' : j < (n - i) * 5 := by rw [<- hl1]; exact (Ab.1 hj).1
   rw [Ag hj', Bd] at hj
   rw [Addr.add_lit, cell_of_row W b _ cur 164 (0, 0) hWb]
   simpa using hj) (by rw [hl1, hBs]; omega) (fun v hv => by
   obtain ⟨j, hj⟩ := A3.1 hv
   have hj' : j < (n - i) * 5 := by rw [<- hl1]; exact (Ab.1 hj).1
   rw [Ag hj', Bd] at hj
   exact h1 (i * 5 + j) (by omega) v (by simpa using hj))
  rw [hm] at h
  exact h
 have hbN : b ≠ w.heap.size := by omega
 have hE1 : ((w.alloc (.cells ROW 164)).drew).heap[w.heap.size]? = some (.cells ROW 164 (0, 0)) := Ahn w.drew _
 have hE2 : ((w.alloc (.cells ROW 164)).drew).heap[vb]? = some (.cells vcur 164 (0, 0)) := Xq w.drew _ hvb
 have hE3 : ((w.alloc (.cells ROW 164)).drew).heap[b]? = some (.cells cur 164 (0, 0)) := Xq w.drew _ hb
 have hF1 : (((w.alloc (.cells ROW 164)).drew.setRow w.heap.size (Jo ROW vcur i)).drew).heap[w.heap.size]? = some (.cells (Jo ROW vcur i) 164 (0, 0)) := setRow_heap _ _ _ (Jo ROW vcur i) _ _ hE1
 have hF2 : (((w.alloc (.cells ROW 164)).drew.setRow w.heap.size (Jo ROW vcur i)).drew).heap[b]? = some (.cells cur 164 (0, 0)) := (setRow_other _ w.heap.size b (Jo ROW vcur i) hbN).trans hE3
 have hfin : ∀ (d : Nat), ((({ w.drew.alloc (.cells ROW 164) with drawn := d } : World).setRow w.heap.size (Jo ROW vcur i)).setRow w.heap.size (Yq (Jo ROW vcur i) cur n i)) = { w.alloc (.cells (Yq (Jo ROW vcur i) cur n i) 164) with drawn := d } := fun d => by
  have e1 := Vn { w with drawn := d } ROW (Jo ROW vcur i) 164
  have e2 := Vn { w with drawn := d } (Jo ROW vcur i) (Yq (Jo ROW vcur i) cur n i) 164
  show ((({ w with drawn := d } : World).alloc (.cells ROW 164)).setRow w.heap.size (Jo ROW vcur i)).setRow w.heap.size _ = ({ w with drawn := d } : World).alloc _
  rw [show (w.heap.size) = ({ w with drawn := d } : World).heap.size from rfl, e1, e2]
 have hw1 : IntKind.i64.wrap ((i : Int) + 1) = (i : Int) + 1 := by rw [IntKind.wrap_i64]; omega
 have hb1 : (0 : Int) <= (i : Int) + 1 := by omega
 have hin : i <= n := by omega
 have htn : ((i : Int) + 1).toNat = i + 1 := by omega
 have hb3 : (i : Int) <= (n : Int) := by omega
 have hGi : ¬ (G = i) := by omega
 have hGim : ¬ (G = i + 1) := by omega
 have hci : ¬ (c = i) := by omega
 have mixed : Tryz.prog.follows Departure.mixedOrders = true := by kernel_rfl
 clear hkk hik hold hROW hG hBs hl1 hl2
 go_enter Tryz.func266, Tryz.ntmps266
 have h9 := hcpA _ hE1 hE2 3 (G - i)
 go_wp2_with (first
  | (at_builtin; refine Lib.wpList_append_run _ rfl _ _ _ _ rfl _ _ rfl rfl _ _ (hrz _) ?_)
  | simp only [h9])
 go_region_law_o (refine step_copy_runI rfl _ _ 67 67 rfl (.slice (some ⟨w.heap.size, (i + 1) * 5, none⟩) (n - i) (G - (i + 1))) (.slice (some ⟨b, i * 5, none⟩) (n - i) (c - i)) (by simp [Act.eval, Act.put]) (by simp [Act.eval, Act.put]) (hcpB _ hF1 hF2 3 (G - (i + 1)) (c - i)) ?_)
 go_wp2
 go_ret
 refine ⟨ROW, G, w.drawn + 1 + 1, hRs, hGn, hGm, hRc, rfl, ?_⟩
 exact hfin (w.drawn + 1 + 1)
end Go.Proofs.YtkkimgjinbaemaaGreat
