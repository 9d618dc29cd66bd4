/- The walk. -/
import Derived.Test.YtkkimgjinbaemaaGreatKbk
namespace Go.Proofs.YtkkimgjinbaemaaGreat
open Go.RowKit
set_option linter.unusedVariables false
set_option linter.unusedSimpArgs false
set_option maxRecDepth 100000
set_option maxHeartbeats 4000000
theorem Vz (q0 : Cg) (now : Int) (hg : ∀ r ∈ [q0], r.legs.length <= 1000000) : Ct 150 [.imm false 5 (Et [q0]), .li now] (fun d : List Cg => .mReq d) (fun d => d.length = 1 /\ ∀ r ∈ d, r.legs.length <= 1000000) := by
 refine Cb Tryz.func150 ?_
 have hk := Hf [q0] (by simp) (by simp) hg
 have hg0 : q0.legs.length <= 1000000 := hg q0 (by simp)
 refine VX.R ?_
 refine VX.S (fun K kk => by simp [go_sem, Di, Cl, Ec]; refine .by hk (LeL.refl _) (by simp) ?_; simp [go_sem, Di, Cl, Ec]; exact kk) <| .seq ?_
 refine VX.R <| .block ?_
 refine VX.rangeE 1 (fun i1 (y1 : List Dp) => ⟨[(1, .li now), (5, .bsl 0 1), (11, .bsl 0 1), (12, .li 1), (13, .li i1)], [.box 164 [.li q0.id, .li q0.veh, .li q0.cls, .li q0.unt, .own 1 q0.legs.length], .row 166 5 false false (C7 y1)]⟩) (fun i1 y1 => y1.length = q0.legs.length) q0.legs (wk ok0 [0, 1]) (rfl) fun i1 y1 hi1 hy1 => ?_
 refine VX.R <| .seq ?_
 refine VX.C ?_ ?_ <;> intro h14 <;> simp [go_sem] at h14
 ·
  refine VX.skip ?_
  have hi : i1 = 0 := by omega
  subst hi
  -- element 0
  refine VX.seq <| .block <| .H hy1 ?_
  refine VX.H hy1 <| .block ?_
  refine VX.rangeE q0.legs.length (fun i2 (y2 : List Dp) => ⟨[(1, .li now), (5, .bsl 0 1), (7, .ptr 2 0), (11, .bsl 0 1), (12, .li 1), (13, .li 0), (19, .li q0.legs.length), (20, .li i2)], [.box 164 [.li q0.id, .li q0.veh, .li q0.cls, .li q0.unt, .own 1 q0.legs.length], .row 166 5 false false (C7 y2), .box 164 [.li q0.id, .li q0.veh, .li q0.cls, .li q0.unt, .own 1 q0.legs.length]]⟩) (fun i2 y2 => y2.length = q0.legs.length) y1 (wk hy1 [0, 1, 2]) hy1 fun i2 y2 hi2 hy2 => ?_
  refine VX.R <| .seq ?_
  refine VX.C ?_ ?_ <;> intro h21 <;> simp [go_sem] at h21
  ·refine VX.skip <| .seq <| .block <| .R ?_
   obtain ⟨e, hx⟩ : ∃ e, y2[i2]? = some e := ⟨_, Aa (by omega)⟩
   refine VX.M1 (cj2 hx hy2) (Em e now) ?_
   refine VX.R1 ?_
   refine ⟨by omega, y2.set i2 (Gm e now), ?_, [0, 1, 2], Bp (by decide) ?_ ?_, by simp⟩
   ·simpa using hy2
   ·simp [go_sem, Bq ((i2 : Int) + 1)]
   simp [go_sem, hy1, hy2, List.map_set]
  refine VX.exit <| .R1 ?_
  refine ⟨by omega, y2, ?_, [0, 1], Bp (by decide) ?_ ?_, by simp⟩
  ·exact hy2
  ·simp [go_sem, Bq (1 : Int)]
  simp [go_sem]
 -- the end
 refine VX.exit <| .R ?_
 refine VX.Z hy1 1 ?_
 refine VX.sealB 0 5 (Et [{ q0 with legs := y1 }]) rfl rfl (by simp [Cg.t]) (by simp) ?_
 simp [go_sem]
 refine VX.ret (Co ?_); simp [go_sem]
 exact ⟨[{ q0 with legs := y1 }], rfl, ⟨rfl, by simp only [List.mem_cons, A8, or_false, forall_eq_or_imp, forall_eq]; (repeat' refine Ax ?_ ?_) <;> first | omega | (dsimp only; omega)⟩⟩
theorem Vy (q0 q1 : Cg) (now : Int) (hg : ∀ r ∈ [q0, q1], r.legs.length <= 1000000) : Ct 150 [.imm false 5 (Et [q0, q1]), .li now] (fun d : List Cg => .mReq d) (fun d => d.length = 2 /\ ∀ r ∈ d, r.legs.length <= 1000000) := by
 refine Cb Tryz.func150 ?_
 have hk := Hf [q0, q1] (by simp) (by simp) hg
 have hg0 : q0.legs.length <= 1000000 := hg q0 (by simp)
 have hg1 : q1.legs.length <= 1000000 := hg q1 (by simp)
 refine VX.R ?_
 refine VX.S (fun K kk => by simp [go_sem, Di, Cl, Ec]; refine .by hk (LeL.refl _) (by simp) ?_; simp [go_sem, Di, Cl, Ec]; exact kk) <| .seq ?_
 refine VX.R <| .block ?_
 refine VX.rangeE 2 (fun i1 (y1 : List Dp × List Dp) => ⟨[(1, .li now), (5, .bsl 0 2), (11, .bsl 0 2), (12, .li 2), (13, .li i1)], [.box 164 [.li q0.id, .li q0.veh, .li q0.cls, .li q0.unt, .own 1 q0.legs.length, .li q1.id, .li q1.veh, .li q1.cls, .li q1.unt, .own 2 q1.legs.length], .row 166 5 false false (C7 y1.1), .row 166 5 false false (C7 y1.2)]⟩) (fun i1 y1 => y1.1.length = q0.legs.length /\ y1.2.length = q1.legs.length) (q0.legs, q1.legs) (wk ok0 [0, 1, 2]) (⟨rfl, rfl⟩) fun i1 y1 hi1 hy1 => ?_
 refine VX.R <| .seq ?_
 refine VX.C ?_ ?_ <;> intro h14 <;> simp [go_sem] at h14
 ·
  refine VX.skip ?_
  have hi : i1 = 0 \/ i1 = 1 := by omega
  rcases hi with rfl | rfl
  ·
   refine VX.seq <| .block <| .H hy1 ?_
   refine VX.H hy1 <| .block ?_
   refine VX.rangeE q0.legs.length (fun i2 (y2 : List Dp) => ⟨[(1, .li now), (5, .bsl 0 2), (7, .ptr 3 0), (11, .bsl 0 2), (12, .li 2), (13, .li 0), (19, .li q0.legs.length), (20, .li i2)], [.box 164 [.li q0.id, .li q0.veh, .li q0.cls, .li q0.unt, .own 1 q0.legs.length, .li q1.id, .li q1.veh, .li q1.cls, .li q1.unt, .own 2 q1.legs.length], .row 166 5 false false (C7 y2), .row 166 5 false false (C7 y1.2), .box 164 [.li q0.id, .li q0.veh, .li q0.cls, .li q0.unt, .own 1 q0.legs.length]]⟩) (fun i2 y2 => y2.length = q0.legs.length) y1.1 (wk hy1 [0, 1, 2, 3]) hy1.1 fun i2 y2 hi2 hy2 => ?_
   refine VX.R <| .seq ?_
   refine VX.C ?_ ?_ <;> intro h21 <;> simp [go_sem] at h21
   ·refine VX.skip <| .seq <| .block <| .R ?_
    obtain ⟨e, hx⟩ : ∃ e, y2[i2]? = some e := ⟨_, Aa (by omega)⟩
    refine VX.M1 (cj2 hx hy2) (Em e now) ?_
    refine VX.R1 ?_
    refine ⟨by omega, y2.set i2 (Gm e now), ?_, [0, 1, 2, 3], Bp (by decide) ?_ ?_, by simp⟩
    ·simpa using hy2
    ·simp [go_sem, Bq ((i2 : Int) + 1)]
    simp [go_sem, hy1, hy2, List.map_set]
   refine VX.exit <| .R1 ?_
   refine ⟨by omega, (y2, y1.2), ?_, [0, 1, 2], Bp (by decide) ?_ ?_, by simp⟩
   ·exact ⟨hy2, hy1.2⟩
   ·simp [go_sem, Bq (1 : Int)]
   simp [go_sem]
  -- element 1
  refine VX.seq <| .block <| .H hy1 ?_
  refine VX.H hy1 <| .block ?_
  refine VX.rangeE q1.legs.length (fun i2 (y2 : List Dp) => ⟨[(1, .li now), (5, .bsl 0 2), (7, .ptr 3 0), (11, .bsl 0 2), (12, .li 2), (13, .li 1), (19, .li q1.legs.length), (20, .li i2)], [.box 164 [.li q0.id, .li q0.veh, .li q0.cls, .li q0.unt, .own 1 q0.legs.length, .li q1.id, .li q1.veh, .li q1.cls, .li q1.unt, .own 2 q1.legs.length], .row 166 5 false false (C7 y1.1), .row 166 5 false false (C7 y2), .box 164 [.li q1.id, .li q1.veh, .li q1.cls, .li q1.unt, .own 2 q1.legs.length]]⟩) (fun i2 y2 => y2.length = q1.legs.length) y1.2 (wk hy1 [0, 1, 2, 3]) hy1.2 fun i2 y2 hi2 hy2 => ?_
  refine VX.R <| .seq ?_
  refine VX.C ?_ ?_ <;> intro h21 <;> simp [go_sem] at h21
  ·refine VX.skip <| .seq <| .block <| .R ?_
   obtain ⟨e, hx⟩ : ∃ e, y2[i2]? = some e := ⟨_, Aa (by omega)⟩
   refine VX.M1 (cj2 hx hy2) (Em e now) ?_
   refine VX.R1 ?_
   refine ⟨by omega, y2.set i2 (Gm e now), ?_, [0, 1, 2, 3], Bp (by decide) ?_ ?_, by simp⟩
   ·simpa using hy2
   ·simp [go_sem, Bq ((i2 : Int) + 1)]
   simp [go_sem, hy1, hy2, List.map_set]
  refine VX.exit <| .R1 ?_
  refine ⟨by omega, (y1.1, y2), ?_, [0, 1, 2], Bp (by decide) ?_ ?_, by simp⟩
  ·exact ⟨hy1.1, hy2⟩
  ·simp [go_sem, Bq (2 : Int)]
  simp [go_sem]
 -- the end
 refine VX.exit <| .R ?_
 refine VX.Z hy1 1 ?_
 refine VX.Z hy1 2 ?_
 refine VX.sealB 0 5 (Et [{ q0 with legs := y1.1 }, { q1 with legs := y1.2 }]) rfl rfl (by simp [Cg.t]) (by simp) ?_
 simp [go_sem]
 refine VX.ret (Co ?_); simp [go_sem]
 exact ⟨[{ q0 with legs := y1.1 }, { q1 with legs := y1.2 }], rfl, ⟨rfl, by simp only [List.mem_cons, A8, or_false, forall_eq_or_imp, forall_eq]; (repeat' refine Ax ?_ ?_) <;> first | omega | (dsimp only; omega)⟩⟩
theorem Vx (q0 q1 q2 : Cg) (now : Int) (hg : ∀ r ∈ [q0, q1, q2], r.legs.length <= 1000000) : Ct 150 [.imm false 5 (Et [q0, q1, q2]), .li now] (fun d : List Cg => .mReq d) (fun d => d.length = 3 /\ ∀ r ∈ d, r.legs.length <= 1000000) := by
 refine Cb Tryz.func150 ?_
 have hk := Hf [q0, q1, q2] (by simp) (by simp) hg
 have hg0 : q0.legs.length <= 1000000 := hg q0 (by simp)
 have hg1 : q1.legs.length <= 1000000 := hg q1 (by simp)
 have hg2 : q2.legs.length <= 1000000 := hg q2 (by simp)
 refine VX.R ?_
 refine VX.S (fun K kk => by simp [go_sem, Di, Cl, Ec]; refine .by hk (LeL.refl _) (by simp) ?_; simp [go_sem, Di, Cl, Ec]; exact kk) <| .seq ?_
 refine VX.R <| .block ?_
 refine VX.rangeE 3 (fun i1 (y1 : List Dp × List Dp × List Dp) => ⟨[(1, .li now), (5, .bsl 0 3), (11, .bsl 0 3), (12, .li 3), (13, .li i1)], [.box 164 [.li q0.id, .li q0.veh, .li q0.cls, .li q0.unt, .own 1 q0.legs.length, .li q1.id, .li q1.veh, .li q1.cls, .li q1.unt, .own 2 q1.legs.length, .li q2.id, .li q2.veh, .li q2.cls, .li q2.unt, .own 3 q2.legs.length], .row 166 5 false false (C7 y1.1), .row 166 5 false false (C7 y1.2.1), .row 166 5 false false (C7 y1.2.2)]⟩) (fun i1 y1 => y1.1.length = q0.legs.length /\ y1.2.1.length = q1.legs.length /\ y1.2.2.length = q2.legs.length) (q0.legs, q1.legs, q2.legs) (wk ok0 [0, 1, 2, 3]) (⟨rfl, rfl, rfl⟩) fun i1 y1 hi1 hy1 => ?_
 refine VX.R <| .seq ?_
 refine VX.C ?_ ?_ <;> intro h14 <;> simp [go_sem] at h14
 ·
  refine VX.skip ?_
  have hi : i1 = 0 \/ i1 = 1 \/ i1 = 2 := by omega
  rcases hi with rfl | rfl | rfl
  ·
   refine VX.seq <| .block <| .H hy1 ?_
   refine VX.H hy1 <| .block ?_
   refine VX.rangeE q0.legs.length (fun i2 (y2 : List Dp) => ⟨[(1, .li now), (5, .bsl 0 3), (7, .ptr 4 0), (11, .bsl 0 3), (12, .li 3), (13, .li 0), (19, .li q0.legs.length), (20, .li i2)], [.box 164 [.li q0.id, .li q0.veh, .li q0.cls, .li q0.unt, .own 1 q0.legs.length, .li q1.id, .li q1.veh, .li q1.cls, .li q1.unt, .own 2 q1.legs.length, .li q2.id, .li q2.veh, .li q2.cls, .li q2.unt, .own 3 q2.legs.length], .row 166 5 false false (C7 y2), .row 166 5 false false (C7 y1.2.1), .row 166 5 false false (C7 y1.2.2), .box 164 [.li q0.id, .li q0.veh, .li q0.cls, .li q0.unt, .own 1 q0.legs.length]]⟩) (fun i2 y2 => y2.length = q0.legs.length) y1.1 (wk hy1 [0, 1, 2, 3, 4]) hy1.1 fun i2 y2 hi2 hy2 => ?_
   refine VX.R <| .seq ?_
   refine VX.C ?_ ?_ <;> intro h21 <;> simp [go_sem] at h21
   ·refine VX.skip <| .seq <| .block <| .R ?_
    obtain ⟨e, hx⟩ : ∃ e, y2[i2]? = some e := ⟨_, Aa (by omega)⟩
    refine VX.M1 (cj2 hx hy2) (Em e now) ?_
    refine VX.R1 ?_
    refine ⟨by omega, y2.set i2 (Gm e now), ?_, [0, 1, 2, 3, 4], Bp (by decide) ?_ ?_, by simp⟩
    ·simpa using hy2
    ·simp [go_sem, Bq ((i2 : Int) + 1)]
    simp [go_sem, hy1, hy2, List.map_set]
   refine VX.exit <| .R1 ?_
   refine ⟨by omega, (y2, y1.2.1, y1.2.2), ?_, [0, 1, 2, 3], Bp (by decide) ?_ ?_, by simp⟩
   ·exact ⟨hy2, hy1.2.1, hy1.2.2⟩
   ·simp [go_sem, Bq (1 : Int)]
   simp [go_sem]
  ·
   refine VX.seq <| .block <| .H hy1 ?_
   refine VX.H hy1 <| .block ?_
   refine VX.rangeE q1.legs.length (fun i2 (y2 : List Dp) => ⟨[(1, .li now), (5, .bsl 0 3), (7, .ptr 4 0), (11, .bsl 0 3), (12, .li 3), (13, .li 1), (19, .li q1.legs.length), (20, .li i2)], [.box 164 [.li q0.id, .li q0.veh, .li q0.cls, .li q0.unt, .own 1 q0.legs.length, .li q1.id, .li q1.veh, .li q1.cls, .li q1.unt, .own 2 q1.legs.length, .li q2.id, .li q2.veh, .li q2.cls, .li q2.unt, .own 3 q2.legs.length], .row 166 5 false false (C7 y1.1), .row 166 5 false false (C7 y2), .row 166 5 false false (C7 y1.2.2), .box 164 [.li q1.id, .li q1.veh, .li q1.cls, .li q1.unt, .own 2 q1.legs.length]]⟩) (fun i2 y2 => y2.length = q1.legs.length) y1.2.1 (wk hy1 [0, 1, 2, 3, 4]) hy1.2.1 fun i2 y2 hi2 hy2 => ?_
   refine VX.R <| .seq ?_
   refine VX.C ?_ ?_ <;> intro h21 <;> simp [go_sem] at h21
   ·refine VX.skip <| .seq <| .block <| .R ?_
    obtain ⟨e, hx⟩ : ∃ e, y2[i2]? = some e := ⟨_, Aa (by omega)⟩
    refine VX.M1 (cj2 hx hy2) (Em e now) ?_
    refine VX.R1 ?_
    refine ⟨by omega, y2.set i2 (Gm e now), ?_, [0, 1, 2, 3, 4], Bp (by decide) ?_ ?_, by simp⟩
    ·simpa using hy2
    ·simp [go_sem, Bq ((i2 : Int) + 1)]
    simp [go_sem, hy1, hy2, List.map_set]
   refine VX.exit <| .R1 ?_
   refine ⟨by omega, (y1.1, y2, y1.2.2), ?_, [0, 1, 2, 3], Bp (by decide) ?_ ?_, by simp⟩
   ·exact ⟨hy1.1, hy2, hy1.2.2⟩
   ·simp [go_sem, Bq (2 : Int)]
   simp [go_sem]
  -- element 2
  refine VX.seq <| .block <| .H hy1 ?_
  refine VX.H hy1 <| .block ?_
  refine VX.rangeE q2.legs.length (fun i2 (y2 : List Dp) => ⟨[(1, .li now), (5, .bsl 0 3), (7, .ptr 4 0), (11, .bsl 0 3), (12, .li 3), (13, .li 2), (19, .li q2.legs.length), (20, .li i2)], [.box 164 [.li q0.id, .li q0.veh, .li q0.cls, .li q0.unt, .own 1 q0.legs.length, .li q1.id, .li q1.veh, .li q1.cls, .li q1.unt, .own 2 q1.legs.length, .li q2.id, .li q2.veh, .li q2.cls, .li q2.unt, .own 3 q2.legs.length], .row 166 5 false false (C7 y1.1), .row 166 5 false false (C7 y1.2.1), .row 166 5 false false (C7 y2), .box 164 [.li q2.id, .li q2.veh, .li q2.cls, .li q2.unt, .own 3 q2.legs.length]]⟩) (fun i2 y2 => y2.length = q2.legs.length) y1.2.2 (wk hy1 [0, 1, 2, 3, 4]) hy1.2.2 fun i2 y2 hi2 hy2 => ?_
  refine VX.R <| .seq ?_
  refine VX.C ?_ ?_ <;> intro h21 <;> simp [go_sem] at h21
  ·refine VX.skip <| .seq <| .block <| .R ?_
   obtain ⟨e, hx⟩ : ∃ e, y2[i2]? = some e := ⟨_, Aa (by omega)⟩
   refine VX.M1 (cj2 hx hy2) (Em e now) ?_
   refine VX.R1 ?_
   refine ⟨by omega, y2.set i2 (Gm e now), ?_, [0, 1, 2, 3, 4], Bp (by decide) ?_ ?_, by simp⟩
   ·simpa using hy2
   ·simp [go_sem, Bq ((i2 : Int) + 1)]
   simp [go_sem, hy1, hy2, List.map_set]
  refine VX.exit <| .R1 ?_
  refine ⟨by omega, (y1.1, y1.2.1, y2), ?_, [0, 1, 2, 3], Bp (by decide) ?_ ?_, by simp⟩
  ·exact ⟨hy1.1, hy1.2.1, hy2⟩
  ·simp [go_sem, Bq (3 : Int)]
  simp [go_sem]
 -- the end
 refine VX.exit <| .R ?_
 refine VX.Z hy1 1 ?_
 refine VX.Z hy1 2 ?_
 refine VX.Z hy1 3 ?_
 refine VX.sealB 0 5 (Et [{ q0 with legs := y1.1 }, { q1 with legs := y1.2.1 }, { q2 with legs := y1.2.2 }]) rfl rfl (by simp [Cg.t]) (by simp) ?_
 simp [go_sem]
 refine VX.ret (Co ?_); simp [go_sem]
 exact ⟨[{ q0 with legs := y1.1 }, { q1 with legs := y1.2.1 }, { q2 with legs := y1.2.2 }], rfl, ⟨rfl, by simp only [List.mem_cons, A8, or_false, forall_eq_or_imp, forall_eq]; (repeat' refine Ax ?_ ?_) <;> first | omega | (dsimp only; omega)⟩⟩
theorem Vw (q0 q1 q2 q3 : Cg) (now : Int) (hg : ∀ r ∈ [q0, q1, q2, q3], r.legs.length <= 1000000) : Ct 150 [.imm false 5 (Et [q0, q1, q2, q3]), .li now] (fun d : List Cg => .mReq d) (fun d => d.length = 4 /\ ∀ r ∈ d, r.legs.length <= 1000000) := by
 refine Cb Tryz.func150 ?_
 have hk := Hf [q0, q1, q2, q3] (by simp) (by simp) hg
 have hg0 : q0.legs.length <= 1000000 := hg q0 (by simp)
 have hg1 : q1.legs.length <= 1000000 := hg q1 (by simp)
 have hg2 : q2.legs.length <= 1000000 := hg q2 (by simp)
 have hg3 : q3.legs.length <= 1000000 := hg q3 (by simp)
 refine VX.R ?_
 refine VX.S (fun K kk => by simp [go_sem, Di, Cl, Ec]; refine .by hk (LeL.refl _) (by simp) ?_; simp [go_sem, Di, Cl, Ec]; exact kk) <| .seq ?_
 refine VX.R <| .block ?_
 refine VX.rangeE 4 (fun i1 (y1 : List Dp × List Dp × List Dp × List Dp) => ⟨[(1, .li now), (5, .bsl 0 4), (11, .bsl 0 4), (12, .li 4), (13, .li i1)], [.box 164 [.li q0.id, .li q0.veh, .li q0.cls, .li q0.unt, .own 1 q0.legs.length, .li q1.id, .li q1.veh, .li q1.cls, .li q1.unt, .own 2 q1.legs.length, .li q2.id, .li q2.veh, .li q2.cls, .li q2.unt, .own 3 q2.legs.length, .li q3.id, .li q3.veh, .li q3.cls, .li q3.unt, .own 4 q3.legs.length], .row 166 5 false false (C7 y1.1), .row 166 5 false false (C7 y1.2.1), .row 166 5 false false (C7 y1.2.2.1), .row 166 5 false false (C7 y1.2.2.2)]⟩) (fun i1 y1 => y1.1.length = q0.legs.length /\ y1.2.1.length = q1.legs.length /\ y1.2.2.1.length = q2.legs.length /\ y1.2.2.2.length = q3.legs.length) (q0.legs, q1.legs, q2.legs, q3.legs) (wk ok0 [0, 1, 2, 3, 4]) (⟨rfl, rfl, rfl, rfl⟩) fun i1 y1 hi1 hy1 => ?_
 refine VX.R <| .seq ?_
 refine VX.C ?_ ?_ <;> intro h14 <;> simp [go_sem] at h14
 ·
  refine VX.skip ?_
  have hi : i1 = 0 \/ i1 = 1 \/ i1 = 2 \/ i1 = 3 := by omega
  rcases hi with rfl | rfl | rfl | rfl
  ·
   refine VX.seq <| .block <| .H hy1 ?_
   refine VX.H hy1 <| .block ?_
   refine VX.rangeE q0.legs.length (fun i2 (y2 : List Dp) => ⟨[(1, .li now), (5, .bsl 0 4), (7, .ptr 5 0), (11, .bsl 0 4), (12, .li 4), (13, .li 0), (19, .li q0.legs.length), (20, .li i2)], [.box 164 [.li q0.id, .li q0.veh, .li q0.cls, .li q0.unt, .own 1 q0.legs.length, .li q1.id, .li q1.veh, .li q1.cls, .li q1.unt, .own 2 q1.legs.length, .li q2.id, .li q2.veh, .li q2.cls, .li q2.unt, .own 3 q2.legs.length, .li q3.id, .li q3.veh, .li q3.cls, .li q3.unt, .own 4 q3.legs.length], .row 166 5 false false (C7 y2), .row 166 5 false false (C7 y1.2.1), .row 166 5 false false (C7 y1.2.2.1), .row 166 5 false false (C7 y1.2.2.2), .box 164 [.li q0.id, .li q0.veh, .li q0.cls, .li q0.unt, .own 1 q0.legs.length]]⟩) (fun i2 y2 => y2.length = q0.legs.length) y1.1 (wk hy1 [0, 1, 2, 3, 4, 5]) hy1.1 fun i2 y2 hi2 hy2 => ?_
   refine VX.R <| .seq ?_
   refine VX.C ?_ ?_ <;> intro h21 <;> simp [go_sem] at h21
   ·refine VX.skip <| .seq <| .block <| .R ?_
    obtain ⟨e, hx⟩ : ∃ e, y2[i2]? = some e := ⟨_, Aa (by omega)⟩
    refine VX.M1 (cj2 hx hy2) (Em e now) ?_
    refine VX.R1 ?_
    refine ⟨by omega, y2.set i2 (Gm e now), ?_, [0, 1, 2, 3, 4, 5], Bp (by decide) ?_ ?_, by simp⟩
    ·simpa using hy2
    ·simp [go_sem, Bq ((i2 : Int) + 1)]
    simp [go_sem, hy1, hy2, List.map_set]
   refine VX.exit <| .R1 ?_
   refine ⟨by omega, (y2, y1.2.1, y1.2.2.1, y1.2.2.2), ?_, [0, 1, 2, 3, 4], Bp (by decide) ?_ ?_, by simp⟩
   ·exact ⟨hy2, hy1.2.1, hy1.2.2.1, hy1.2.2.2⟩
   ·simp [go_sem, Bq (1 : Int)]
   simp [go_sem]
  ·
   refine VX.seq <| .block <| .H hy1 ?_
   refine VX.H hy1 <| .block ?_
   refine VX.rangeE q1.legs.length (fun i2 (y2 : List Dp) => ⟨[(1, .li now), (5, .bsl 0 4), (7, .ptr 5 0), (11, .bsl 0 4), (12, .li 4), (13, .li 1), (19, .li q1.legs.length), (20, .li i2)], [.box 164 [.li q0.id, .li q0.veh, .li q0.cls, .li q0.unt, .own 1 q0.legs.length, .li q1.id, .li q1.veh, .li q1.cls, .li q1.unt, .own 2 q1.legs.length, .li q2.id, .li q2.veh, .li q2.cls, .li q2.unt, .own 3 q2.legs.length, .li q3.id, .li q3.veh, .li q3.cls, .li q3.unt, .own 4 q3.legs.length], .row 166 5 false false (C7 y1.1), .row 166 5 false false (C7 y2), .row 166 5 false false (C7 y1.2.2.1), .row 166 5 false false (C7 y1.2.2.2), .box 164 [.li q1.id, .li q1.veh, .li q1.cls, .li q1.unt, .own 2 q1.legs.length]]⟩) (fun i2 y2 => y2.length = q1.legs.length) y1.2.1 (wk hy1 [0, 1, 2, 3, 4, 5]) hy1.2.1 fun i2 y2 hi2 hy2 => ?_
   refine VX.R <| .seq ?_
   refine VX.C ?_ ?_ <;> intro h21 <;> simp [go_sem] at h21
   ·refine VX.skip <| .seq <| .block <| .R ?_
    obtain ⟨e, hx⟩ : ∃ e, y2[i2]? = some e := ⟨_, Aa (by omega)⟩
    refine VX.M1 (cj2 hx hy2) (Em e now) ?_
    refine VX.R1 ?_
    refine ⟨by omega, y2.set i2 (Gm e now), ?_, [0, 1, 2, 3, 4, 5], Bp (by decide) ?_ ?_, by simp⟩
    ·simpa using hy2
    ·simp [go_sem, Bq ((i2 : Int) + 1)]
    simp [go_sem, hy1, hy2, List.map_set]
   refine VX.exit <| .R1 ?_
   refine ⟨by omega, (y1.1, y2, y1.2.2.1, y1.2.2.2), ?_, [0, 1, 2, 3, 4], Bp (by decide) ?_ ?_, by simp⟩
   ·exact ⟨hy1.1, hy2, hy1.2.2.1, hy1.2.2.2⟩
   ·simp [go_sem, Bq (2 : Int)]
   simp [go_sem]
  ·
   refine VX.seq <| .block <| .H hy1 ?_
   refine VX.H hy1 <| .block ?_
   refine VX.rangeE q2.legs.length (fun i2 (y2 : List Dp) => ⟨[(1, .li now), (5, .bsl 0 4), (7, .ptr 5 0), (11, .bsl 0 4), (12, .li 4), (13, .li 2), (19, .li q2.legs.length), (20, .li i2)], [.box 164 [.li q0.id, .li q0.veh, .li q0.cls, .li q0.unt, .own 1 q0.legs.length, .li q1.id, .li q1.veh, .li q1.cls, .li q1.unt, .own 2 q1.legs.length, .li q2.id, .li q2.veh, .li q2.cls, .li q2.unt, .own 3 q2.legs.length, .li q3.id, .li q3.veh, .li q3.cls, .li q3.unt, .own 4 q3.legs.length], .row 166 5 false false (C7 y1.1), .row 166 5 false false (C7 y1.2.1), .row 166 5 false false (C7 y2), .row 166 5 false false (C7 y1.2.2.2), .box 164 [.li q2.id, .li q2.veh, .li q2.cls, .li q2.unt, .own 3 q2.legs.length]]⟩) (fun i2 y2 => y2.length = q2.legs.length) y1.2.2.1 (wk hy1 [0, 1, 2, 3, 4, 5]) hy1.2.2.1 fun i2 y2 hi2 hy2 => ?_
   refine VX.R <| .seq ?_
   refine VX.C ?_ ?_ <;> intro h21 <;> simp [go_sem] at h21
   ·refine VX.skip <| .seq <| .block <| .R ?_
    obtain ⟨e, hx⟩ : ∃ e, y2[i2]? = some e := ⟨_, Aa (by omega)⟩
    refine VX.M1 (cj2 hx hy2) (Em e now) ?_
    refine VX.R1 ?_
    refine ⟨by omega, y2.set i2 (Gm e now), ?_, [0, 1, 2, 3, 4, 5], Bp (by decide) ?_ ?_, by simp⟩
    ·simpa using hy2
    ·simp [go_sem, Bq ((i2 : Int) + 1)]
    simp [go_sem, hy1, hy2, List.map_set]
   refine VX.exit <| .R1 ?_
   refine ⟨by omega, (y1.1, y1.2.1, y2, y1.2.2.2), ?_, [0, 1, 2, 3, 4], Bp (by decide) ?_ ?_, by simp⟩
   ·exact ⟨hy1.1, hy1.2.1, hy2, hy1.2.2.2⟩
   ·simp [go_sem, Bq (3 : Int)]
   simp [go_sem]
  -- element 3
  refine VX.seq <| .block <| .H hy1 ?_
  refine VX.H hy1 <| .block ?_
  refine VX.rangeE q3.legs.length (fun i2 (y2 : List Dp) => ⟨[(1, .li now), (5, .bsl 0 4), (7, .ptr 5 0), (11, .bsl 0 4), (12, .li 4), (13, .li 3), (19, .li q3.legs.length), (20, .li i2)], [.box 164 [.li q0.id, .li q0.veh, .li q0.cls, .li q0.unt, .own 1 q0.legs.length, .li q1.id, .li q1.veh, .li q1.cls, .li q1.unt, .own 2 q1.legs.length, .li q2.id, .li q2.veh, .li q2.cls, .li q2.unt, .own 3 q2.legs.length, .li q3.id, .li q3.veh, .li q3.cls, .li q3.unt, .own 4 q3.legs.length], .row 166 5 false false (C7 y1.1), .row 166 5 false false (C7 y1.2.1), .row 166 5 false false (C7 y1.2.2.1), .row 166 5 false false (C7 y2), .box 164 [.li q3.id, .li q3.veh, .li q3.cls, .li q3.unt, .own 4 q3.legs.length]]⟩) (fun i2 y2 => y2.length = q3.legs.length) y1.2.2.2 (wk hy1 [0, 1, 2, 3, 4, 5]) hy1.2.2.2 fun i2 y2 hi2 hy2 => ?_
  refine VX.R <| .seq ?_
  refine VX.C ?_ ?_ <;> intro h21 <;> simp [go_sem] at h21
  ·refine VX.skip <| .seq <| .block <| .R ?_
   obtain ⟨e, hx⟩ : ∃ e, y2[i2]? = some e := ⟨_, Aa (by omega)⟩
   refine VX.M1 (cj2 hx hy2) (Em e now) ?_
   refine VX.R1 ?_
   refine ⟨by omega, y2.set i2 (Gm e now), ?_, [0, 1, 2, 3, 4, 5], Bp (by decide) ?_ ?_, by simp⟩
   ·simpa using hy2
   ·simp [go_sem, Bq ((i2 : Int) + 1)]
   simp [go_sem, hy1, hy2, List.map_set]
  refine VX.exit <| .R1 ?_
  refine ⟨by omega, (y1.1, y1.2.1, y1.2.2.1, y2), ?_, [0, 1, 2, 3, 4], Bp (by decide) ?_ ?_, by simp⟩
  ·exact ⟨hy1.1, hy1.2.1, hy1.2.2.1, hy2⟩
  ·simp [go_sem, Bq (4 : Int)]
  simp [go_sem]
 -- the end
 refine VX.exit <| .R ?_
 refine VX.Z hy1 1 ?_
 refine VX.Z hy1 2 ?_
 refine VX.Z hy1 3 ?_
 refine VX.Z hy1 4 ?_
 refine VX.sealB 0 5 (Et [{ q0 with legs := y1.1 }, { q1 with legs := y1.2.1 }, { q2 with legs := y1.2.2.1 }, { q3 with legs := y1.2.2.2 }]) rfl rfl (by simp [Cg.t]) (by simp) ?_
 simp [go_sem]
 refine VX.ret (Co ?_); simp [go_sem]
 exact ⟨[{ q0 with legs := y1.1 }, { q1 with legs := y1.2.1 }, { q2 with legs := y1.2.2.1 }, { q3 with legs := y1.2.2.2 }], rfl, ⟨rfl, by simp only [List.mem_cons, A8, or_false, forall_eq_or_imp, forall_eq]; (repeat' refine Ax ?_ ?_) <;> first | omega | (dsimp only; omega)⟩⟩
end Go.Proofs.YtkkimgjinbaemaaGreat
