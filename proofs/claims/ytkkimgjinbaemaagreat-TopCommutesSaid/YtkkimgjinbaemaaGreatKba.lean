/- The walk. -/
import Derived.Test.YtkkimgjinbaemaaGreatKaz
namespace Go.Proofs.YtkkimgjinbaemaaGreat
open Go.RowKit
set_option linter.unusedVariables false
set_option linter.unusedSimpArgs false
set_option maxRecDepth 100000
set_option maxHeartbeats 4000000
theorem T3 (now : Int) (r : Cg) : PP 169 [] [r.g, .iptr false [.li now] 0] [] (.lb (decide (now <= r.unt))) := by
 refine B0 Tryz.func169 ?_
 iterate 2 refine VW.R ?_
 exact .ret (rL ok0)
theorem Hs (r : Cg) : PP 193 [] [r.g] [] (.lb (true)) := by
 refine B0 Tryz.func193 ?_
 iterate 2 refine VW.R ?_
 exact .ret (rL ok0)
theorem S5 (v : Int) (r : Cg) : PP 238 [] [r.g, .iptr false [.li v] 0] [] (.lb (r.veh != v)) := by
 refine B0 Tryz.func238 ?_
 iterate 2 refine VW.R ?_
 exact .ret (rL ok0)
theorem T5 (i : Int) (r : Cg) : PP 245 [] [r.g, .iptr false [.li i] 0] [] (.lb (r.id != i)) := by
 refine B0 Tryz.func245 ?_
 iterate 2 refine VW.R ?_
 exact .ret (rL ok0)
theorem Up (i : Int) (r : Cg) : PP 268 [] [r.g, .iptr false [.li i] 0] [] (.lb (r.id == i)) := by
 refine B0 Tryz.func268 ?_
 iterate 2 refine VW.R ?_
 exact .ret (rL ok0)
theorem T4 (j : Int) (g : Dp) : PP 179 [] [g.g, .iptr false [.li j] 0] [] (.lb (g.j == j)) := by
 refine B0 Tryz.func179 ?_
 iterate 2 refine VW.R ?_
 exact .ret (rL ok0)
theorem Pg (t : Dc) : PP 275 [] [t.g] [] (.lb (!t.used)) := by
 refine B0 Tryz.func275 ?_
 iterate 2 refine VW.R ?_
 exact .ret (rL ok0)
theorem X3 (x : Cz) : PP 250 [] [x.g] [] (.lb (x.l != 0)) := by
 refine B0 Tryz.func250 ?_
 iterate 2 refine VW.R ?_
 exact .ret (rL ok0)
theorem Kb (l : List Cg) (fid : FuncId) (caps : List AV) (p : Cg -> Bool) (hl : l.length <= 1000000) (hg : ∀ r ∈ l, r.legs.length <= 1000000) (hc : Vp caps) (hp : ∀ t, PP fid [] (t.g :: caps) [] (.lb (p t))) : PP 168 [] [.mReq l, .fn fid caps] [] (.mReq (l.filter p)) := by
 refine B0 Tryz.func168 ?_
 refine VW.S (fun K kk => by simp [go_sem, hc.pass, hc.passC, hc.bor, hc.low]; exact kk) ?_
 refine VW.S (fun K kk => by simp [go_sem, hc.pass, hc.passC, hc.bor, hc.low]; exact kk) <| .seq ?_
 refine VW.S (fun K kk => by simp [go_sem, hc.pass, hc.passC, hc.bor, hc.low]; exact kk) <| .block ?_
 refine VW.own0 5 164 5 (by decide) (k' := 5) (by simp [go_sem]) ?_
 simp [go_sem]
 refine VW.range l.length (fun i1 => ⟨[(1, .fn fid caps), (5, .own 0 ((l.take i1).filter p).length), (8, .mReq l), (9, .li l.length), (10, .li i1)], [.row 164 5 false false (Et ((l.take i1).filter p))]⟩) ⟨[0], Bp (by decide) ?_ ?_, by simp⟩ fun i1 hi1 => ?_
 ·simp [go_sem, hc.ren]
 ·simp [go_sem, hc.ren]
 refine VW.S (fun K kk => by simp [go_sem, hc.pass, hc.passC, hc.bor, hc.low]; exact kk) <| .seq ?_
 refine VW.C ?_ ?_ <;> intro h11 <;> simp [go_sem] at h11
 ·have hx : l[i1]? = some l[i1] := Aa (by omega)
  generalize l[i1] = e at hx
  have hf : ((l.take i1).filter p).length <= i1 := Ak (Az _ _) (by simp; omega)
  have ht : List.take (i1 + 1) l = List.take i1 l ++ [e] := by rw [List.take_add_one, hx]; rfl
  refine VW.skip <| .seq <| .block <| .H hx ?_
  refine VW.S (fun K kk => by simp [go_sem, hc.pass, hc.passC, hc.bor, hc.low]; refine .lo (hp e) (by simp [go_sem, hc.low]) (by simp [AV.cln, Cp]) ?_; simp [go_sem, hc.pass, hc.passC, hc.bor, hc.low]; exact kk) ?_
  refine VW.C ?_ ?_ <;> intro h16 <;> simp [go_sem] at h16
  ·refine VW.S1 (fun K kk => by simp [go_sem, hc.pass, hc.passC, hc.bor, hc.low]; refine .l (Qy e (hg e (Ac hx))) ?_; simp [go_sem, hc.pass, hc.passC, hc.bor, hc.low]; (repeat first | exact kk | refine aK ?_)) ?_
   refine VW.S1 (fun K kk => by simp [go_sem, hc.pass, hc.passC, hc.bor, hc.low]; exact kk) ?_
   refine ⟨by omega, [0], Bp (by decide) ?_ ?_, by simp⟩
   ·simp [go_sem, Bq ((i1 : Int) + 1), hc.ren, ht, List.filter_append, h11, h16]
   simp [go_sem, hc.ren, ht, List.filter_append, h11, h16]
  refine VW.skip <| .S1 (fun K kk => by simp [go_sem, hc.pass, hc.passC, hc.bor, hc.low]; exact kk) ?_
  refine ⟨by omega, [0], Bp (by decide) ?_ ?_, by simp⟩
  ·simp [go_sem, Bq ((i1 : Int) + 1), hc.ren, ht, List.filter_append, h11, h16]
  simp [go_sem, hc.ren, ht, List.filter_append, h11, h16]
 refine VW.exit <| .S (fun K kk => by simp [go_sem, hc.pass, hc.passC, hc.bor, hc.low]; exact kk) ?_
 have he : l.take i1 = l := Bf (by omega)
 simp only [he]
 refine VW.freeze 0 (by simp [go_sem, Db]) ?_
 simp [go_sem]
 exact .ret (rL ok0)
theorem Wc (l : List Cg) (now : Int) (hl : l.length <= 1000000) (hg : ∀ r ∈ l, r.legs.length <= 1000000) : PP 148 [] [.mReq l, .li now] [] (.mReq (l.filter fun r => decide (now <= r.unt))) := by
 refine B0 Tryz.func148 ?_
 refine VW.R ?_
 refine VW.sel1 0 rfl rfl (by simp) ?_
 simp [go_sem]
 refine VW.S (fun K kk => by simp [go_sem]; refine .lo (Kb l _ [.iptr false [.li now] 0] (fun r => decide (now <= r.unt)) hl hg (R2 _) (T3 now)) (by simp [go_sem]) (by simp [AV.cln, Cp]) ?_; simp [go_sem]; exact kk) ?_
 exact .ret (rL ok0)
theorem Ho (l : List Cg) (v : Int) (hl : l.length <= 1000000) (hg : ∀ r ∈ l, r.legs.length <= 1000000) : PP 211 [] [.mReq l, .li v] [] (.mReq (l.filter fun r => r.veh != v)) := by
 refine B0 Tryz.func211 ?_
 refine VW.R ?_
 refine VW.sel1 0 rfl rfl (by simp) ?_
 simp [go_sem]
 refine VW.S (fun K kk => by simp [go_sem]; refine .lo (Kb l _ [.iptr false [.li v] 0] (fun r => r.veh != v) hl hg (R2 _) (S5 v)) (by simp [go_sem]) (by simp [AV.cln, Cp]) ?_; simp [go_sem]; exact kk) ?_
 exact .ret (rL ok0)
theorem Ano (l : List Cg) (hl : l.length <= 1000000) (hg : ∀ r ∈ l, r.legs.length <= 1000000) : PP 168 [] [.mReq l, .fn 193 []] [] (.mReq l) := by
 have h := Kb l _ [] (fun _ => true) hl hg Pp (Hs)
 rwa [show l.filter (fun _ => true) = l by simp] at h
theorem T2 (l : List Cg) (hl : l.length <= 1000000) (hg : ∀ r ∈ l, r.legs.length <= 1000000) : PP 171 [] [.mReq l] [] (.mReq l) := by
 refine B0 Tryz.func171 ?_
 refine VW.R ?_
 refine VW.S (fun K kk => by simp [go_sem]; refine .lo (Ano l hl hg) (by simp [go_sem]) (by simp [AV.cln, Cp]) ?_; simp [go_sem]; exact kk) ?_
 exact .ret (rL ok0)
theorem Mj (l : List Cg) (i : Int) (hl : l.length <= 1000000) : PP 244 [] [.mReq l, .li i] [] (.li (Fd (fun r : Cg => r.id == i) l)) := by
 refine B0 Tryz.func244 ?_
 refine VW.R ?_
 refine VW.sel1 0 rfl rfl (by simp) ?_
 simp [go_sem]
 refine VW.S (fun K kk => by simp [go_sem]; refine .lo (S8 l _ [.iptr false [.li i] 0] (fun r => r.id == i) hl (R2 _) (Up i)) (by simp [go_sem]) (by simp [AV.cln, Cp]) ?_; simp [go_sem]; exact kk) ?_
 exact .ret (rL ok0)
theorem Aaq {α : Type} (p : α -> Bool) : ∀ (l : List α) (i : Nat), Dv p l i < i + l.length /\ -1 <= Dv p l i
 | [], i => by simp [Dv]; omega
 | t :: ts, i => by
  unfold Dv
  split
  ·simp; omega
  have := Aaq p ts (i + 1)
  simp at this ⊢
  omega
theorem Aap {α : Type} (p : α -> Bool) (l : List α) : Fd p l < l.length /\ -1 <= Fd p l := by
 have := Aaq p l 0
 simpa [Fd] using this
theorem Mp (l : List Dp) (hl : l.length <= 1000000) : Ct 265 [.mLeg l] (fun d : Bool => .lb d) (fun d => True) := by
 refine Cb Tryz.func265 ?_
 refine VX.R <| .seq ?_
 refine VX.R ?_
 refine VX.C ?_ ?_ <;> intro h14 <;> simp [go_sem] at h14
 ·refine VX.R ?_
  exact .ret (fin ok0 false trivial)
 refine VX.skip <| .seq <| .R <| .block ?_
 refine VX.rangeE l.length (fun i1 (y1 : Unit) => ⟨[(0, .mLeg l), (15, .mLeg l), (16, .li l.length), (17, .li i1)], []⟩) (fun i1 y1 => True) () (wk ok0 []) (trivial) fun i1 y1 hi1 hy1 => ?_
 refine VX.R <| .seq ?_
 refine VX.C ?_ ?_ <;> intro h18 <;> simp [go_sem] at h18
 ·refine VX.skip <| .seq <| .block ?_
  have H1 : l[i1]? = some l[i1] := Aa (by omega)
  generalize l[i1] = e1 at H1
  refine VX.H H1 <| .seq ?_
  refine VX.L H1 (Zm e1) ?_
  refine VX.C ?_ ?_ <;> intro h24 <;> simp [go_sem] at h24
  ·refine VX.H H1 ?_
   exact .ret (fin H1 false trivial)
  refine VX.skip <| .H H1 <| .block ?_
  refine VX.rangeE ((l.take i1).length) (fun i2 (y2 : Unit) => ⟨[(0, .mLeg l), (4, .ptr 0 0), (15, .mLeg l), (16, .li l.length), (17, .li i1), (27, .mLeg (l.take i1)), (28, .li ((l.take i1).length)), (29, .li i2)], [.box 166 [.li e1.j, .li e1.p, .li e1.fr, .li e1.to, .li e1.si]]⟩) (fun i2 y2 => True) () (wk H1 [0]) (trivial) fun i2 y2 hi2 hy2 => ?_
  refine VX.H H1 <| .seq ?_
  refine VX.C ?_ ?_ <;> intro h30 <;> simp [go_sem] at h30
  ·have hlt : i2 < i1 := (Nat.lt_min.1 h30).1
   have hlt2 : i2 < l.length := (Nat.lt_min.1 h30).2
   have hxq : l[i2]? = some l[i2] := Aa (by omega)
   generalize l[i2] = q at hxq
   refine VX.skip <| .seq <| .block <| .H (cj3 H1 hxq hlt) ?_
   refine VX.H (cj2 H1 hxq) ?_
   refine VX.C ?_ ?_ <;> intro h37 <;> simp [go_sem] at h37
   ·refine VX.H H1 ?_
    exact .ret (fin H1 false trivial)
   refine VX.skip <| .H1 H1 ?_
   have hN : i2 < (l.take i1).length := by rw [A5]; exact Nat.lt_min.2 ⟨hlt, hlt2⟩
   exact ⟨by omega, (), trivial, wk (cj2 (Bq ((i2 : Int) + 1)) H1) [0]⟩
  refine VX.exit <| .H1 H1 ?_
  exact ⟨by omega, (), trivial, wk (cj2 (Bq ((i1 : Int) + 1)) H1) []⟩
 refine VX.exit <| .R ?_
 exact .ret (fin ok0 true trivial)
theorem Ma (l : List Cg) (n : Int) (hl : l.length <= 1000000) (hg : ∀ r ∈ l, r.legs.length <= 1000000) : Ct 242 [.mReq l, .li n] (fun d : Bool => .lb d) (fun d => True) := by
 refine Cb Tryz.func242 ?_
 refine VX.R <| .seq ?_
 refine VX.R ?_
 refine VX.C ?_ ?_ <;> intro h15 <;> simp [go_sem] at h15
 ·refine VX.R ?_
  exact .ret (fin ok0 false trivial)
 refine VX.skip <| .seq <| .R <| .block ?_
 refine VX.rangeE l.length (fun i1 (y1 : Unit) => ⟨[(0, .mReq l), (16, .mReq l), (17, .li l.length), (18, .li i1)], []⟩) (fun i1 y1 => True) () (wk ok0 []) (trivial) fun i1 y1 hi1 hy1 => ?_
 refine VX.R <| .seq ?_
 refine VX.C ?_ ?_ <;> intro h19 <;> simp [go_sem] at h19
 ·refine VX.skip <| .seq <| .block ?_
  have H1 : l[i1]? = some l[i1] := Aa (by omega)
  generalize l[i1] = e1 at H1
  refine VX.H H1 <| .seq ?_
  refine VX.region_seq (by rfl) fun K1 hK1 => ?_
  simp [go_sem, H1]
  refine .l (Hz e1.id) ?_
  simp [go_sem, H1]
  refine Bz (by simp [go_sem]) (by simp [go_sem]) ?_
  simp [go_sem, H1]
  first | refine .lo (Hz e1.veh) rfl (by simp [AV.cln, Cp]) ?_ | refine .skip ?_
  simp [go_sem, H1]
  refine Bz (by simp [go_sem]) (by simp [go_sem]) ?_
  simp [go_sem, H1]
  first | refine .lo (Qz e1.cls) rfl (by simp [AV.cln, Cp]) ?_ | refine .skip ?_
  simp [go_sem, H1]
  refine Bz (by simp [go_sem]) (by simp [go_sem]) ?_
  simp [go_sem, H1]
  obtain ⟨Y1, cY1, qY1⟩ := got (Mp e1.legs (hg e1 (Ac H1)))
  first | refine .lo cY1 rfl (by simp [AV.cln, Cp]) ?_ | refine .skip ?_
  simp [go_sem, H1]
  refine hK1 _ ?_; clear hK1
  refine VX.C ?_ ?_ <;> intro h44 <;> simp [go_sem] at h44
  ·refine VX.H H1 ?_
   exact .ret (fin H1 false trivial)
  refine VX.skip <| .seq <| .H H1 ?_
  refine VX.C ?_ ?_ <;> intro h52 <;> simp [go_sem] at h52
  ·refine VX.H H1 ?_
   exact .ret (fin H1 false trivial)
  refine VX.skip ?_
  by_cases hc10 : 0 < i1
  ·have hw2 := Bq (i1 - 1 : Int)
   have H3 : l[(i1 - 1)]? = some l[(i1 - 1)] := Aa (by omega)
   generalize l[(i1 - 1)] = e3 at H3
   refine VX.G (cj4 H1 hc10 hw2 H3) ?_
   refine VX.C ?_ ?_ <;> intro h65 <;> simp [go_sem] at h65
   ·refine VX.H (cj4 H1 hc10 hw2 H3) ?_
    exact .ret (fin (cj4 H1 hc10 hw2 H3) false trivial)
   refine VX.skip <| .H1 (cj4 H1 hc10 hw2 H3) ?_
   exact ⟨by omega, (), trivial, wk (cj5 (Bq ((i1 : Int) + 1)) H1 hc10 hw2 H3) []⟩
  have hi0 : i1 = 0 := by omega
  have hxb : l[i1 - 1]? = some e1 := by rw [<- H1, hi0]
  have hw4 := Bq (i1 - 1 : Int)
  refine VX.G (cj4 H1 hc10 hxb hw4) ?_
  refine VX.C ?_ ?_ <;> intro h65 <;> simp [go_sem] at h65
  refine VX.skip <| .H1 (cj4 H1 hc10 hxb hw4) ?_
  exact ⟨by omega, (), trivial, wk (cj5 (Bq ((i1 : Int) + 1)) H1 hc10 hxb hw4) []⟩
 refine VX.exit <| .R ?_
 exact .ret (fin ok0 true trivial)
theorem V1 (l : List Cg) (a : Int) (j : Int) (hl : l.length <= 1000000) (hg : ∀ r ∈ l, r.legs.length <= 1000000) : Ct 155 [.mReq l, .li a, .li j] (fun d : List Cj => .mClaim d) (fun d => d.length <= l.length) := by
 refine Cb Tryz.func155 ?_
 refine VX.R ?_
 refine VX.sel1 0 rfl rfl (by simp) ?_
 simp [go_sem]
 refine VX.R <| .seq ?_
 refine VX.R <| .block ?_
 refine VX.own0 7 287 5 (by decide) (k' := 5) (by simp [go_sem]) ?_
 simp [go_sem]
 refine VX.rangeE l.length (fun i1 (y1 : (List Cj)) => ⟨[(1, .li a), (5, .iptr false [.li j] 0), (7, .own 0 y1.length), (12, .mReq l), (13, .li l.length), (14, .li i1)], [.row 287 5 true false (R0 y1)]⟩) (fun i1 y1 => y1.length <= i1) ([]) (wk ok0 [1]) (by simp) fun i1 y1 hi1 hy1 => ?_
 refine VX.R <| .seq ?_
 refine VX.C ?_ ?_ <;> intro h15 <;> simp [go_sem] at h15
 ·refine VX.skip <| .seq <| .block ?_
  have H1 : l[i1]? = some l[i1] := Aa (by omega)
  generalize l[i1] = e1 at H1
  refine VX.H H1 ?_
  refine VX.S (fun K kk => by simp [go_sem, H1]; refine .lo (Yd e1.legs _ [.iptr false [.li j] 0] (fun g => g.j == j) (hg e1 (Ac H1)) (R2 _) (T4 j)) (by simp [go_sem]) (by simp [AV.cln, Cp]) ?_; simp [go_sem, H1]; exact kk) <| .seq ?_
  by_cases hc6 : 0 <= Fd (fun g : Dp => g.j == j) e1.legs
  ·have hi := Aap (fun g : Dp => g.j == j) e1.legs
   have H2 : e1.legs[(Fd (fun g : Dp => g.j == j) e1.legs).toNat]? = some e1.legs[(Fd (fun g : Dp => g.j == j) e1.legs).toNat] := Aa (by omega)
   generalize e1.legs[(Fd (fun g : Dp => g.j == j) e1.legs).toNat] = e2 at H2
   refine VX.H (cj3 H1 hc6 H2) ?_
   refine VX.C ?_ ?_ <;> intro h32 <;> simp [go_sem] at h32
   ·refine VX.exit <| .H1 (cj3 H1 hc6 H2) ?_
    refine ⟨by omega, (y1), ?_, wk (cj4 (Bq ((i1 : Int) + 1)) H1 hc6 H2) [0]⟩
    first | omega | (simp; omega)
   refine VX.skip <| .H (cj3 H1 hc6 H2) ?_
   refine VX.H1 (cj3 H1 hc6 H2) ?_
   refine VX.H1 (cj3 H1 hc6 H2) ?_
   refine ⟨by omega, (y1 ++ ([⟨a, e1.id, e2.p, e1.cls, e2.si⟩])), ?_, wk (cj4 (Bq ((i1 : Int) + 1)) H1 hc6 H2) [0]⟩
   first | omega | (simp; omega)
  have hneg : Fd (fun g : Dp => g.j == j) e1.legs < 0 := by omega
  have hi := Aap (fun g : Dp => g.j == j) e1.legs
  refine VX.H (cj3 H1 hc6 hneg) ?_
  refine VX.C ?_ ?_ <;> intro h32 <;> simp [go_sem] at h32
  refine VX.exit <| .H1 (cj3 H1 hc6 hneg) ?_
  refine ⟨by omega, (y1), ?_, wk (cj4 (Bq ((i1 : Int) + 1)) H1 hc6 hneg) [0]⟩
  first | omega | (simp; omega)
 refine VX.exit <| .R ?_
 refine VX.Z ok0 0 ?_
 exact .ret (fin ok0 y1 (by first | omega | (simp; omega)))
theorem K5 (l : List E7) (hl : l.length <= 4) (hv : ∀ v ∈ l, v.col.length <= 8 /\ v.cnt.length <= 8) : ∃ d : List Int, PP 135 [] [.mView l] [.row 5 1 false false (tY d)] (.own 0 d.length) /\ (d.length <= 11 * l.length) := by
 refine Km (D := List Int) (F := fun d => .own 0 d.length) (S := fun d => [.row 5 1 false false (tY d)]) (Q := fun d => d.length <= 11 * l.length) Tryz.func135 rfl rfl rfl (by simp [Tryz.ntmps135]) ?_
 refine VX.R ?_
 refine VX.R <| .seq ?_
 refine VX.R <| .block ?_
 refine VX.own0 3 5 1 (by decide) (k' := 1) (by simp [go_sem]) ?_
 simp [go_sem]
 refine VX.rangeE l.length (fun i1 (y1 : (List Int)) => ⟨[(3, .own 0 y1.length), (13, .mView l), (14, .li l.length), (15, .li i1)], [.row 5 1 true false (tY y1)]⟩) (fun i1 y1 => y1.length <= 11 * i1) ([]) (wk ok0 [0]) (by simp) fun i1 y1 hi1 hy1 => ?_
 refine VX.R <| .seq ?_
 refine VX.C ?_ ?_ <;> intro h16 <;> simp [go_sem] at h16
 ·refine VX.skip <| .seq <| .block ?_
  have H1 : l[i1]? = some l[i1] := Aa (by omega)
  generalize l[i1] = e1 at H1
  refine VX.H H1 ?_
  have hb := hv e1 (Ac H1)
  refine VX.H H1 <| .seq ?_
  refine VX.H H1 ?_
  refine VX.C ?_ ?_ <;> intro h20 <;> simp [go_sem] at h20
  ·refine VX.H1 H1 <| .seq ?_
   refine VX.H H1 ?_
   refine VX.C ?_ ?_ <;> intro h24 <;> simp [go_sem] at h24
   ·refine VX.H1 H1 ?_
    refine VX.H H1 <| .seq ?_
    refine VX.H H1 <| .block ?_
    refine VX.rangeE e1.col.length (fun i2 (y2 : Int × Int) => ⟨[(3, .own 0 y1.length), (5, .ptr 1 0), (6, .li (IntKind.i64.wrap (IntKind.i64.wrap (0 + 1) + 2))), (7, .li y2.1), (8, .li y2.2), (13, .mView l), (14, .li l.length), (15, .li i1), (28, .mI e1.col), (29, .li e1.col.length), (30, .li i2)], [.row 5 1 true false (tY y1), .box 128 [.lb e1.fl, .lb e1.ov, .mI e1.col, .mI e1.cnt]]⟩) (fun i2 y2 => True) (0, 1) (wk H1 [0, 1]) (trivial) fun i2 y2 hi2 hy2 => ?_
    refine VX.H H1 <| .seq ?_
    refine VX.C ?_ ?_ <;> intro h31 <;> simp [go_sem] at h31
    ·refine VX.skip <| .seq <| .block ?_
     have H2 : e1.col[i2]? = some e1.col[i2] := Aa (by omega)
     generalize e1.col[i2] = e2 at H2
     refine VX.H (cj2 H1 H2) ?_
     refine VX.H (cj2 H1 H2) ?_
     refine VX.H1 (cj2 H1 H2) ?_
     refine VX.H1 (cj2 H1 H2) ?_
     exact ⟨by omega, (IntKind.i64.wrap (y2.1 + (IntKind.i64.wrap (e2 * y2.2))), IntKind.i64.wrap (y2.2 * 4)), trivial, wk (cj3 (Bq ((i2 : Int) + 1)) H1 H2) [0, 1]⟩
    refine VX.exit <| .H H1 ?_
    refine VX.H H1 <| .block ?_
    refine VX.rangeE e1.cnt.length (fun i3 (y3 : (List Int)) => ⟨[(3, .own 0 y3.length), (13, .mView l), (14, .li l.length), (15, .li i1), (53, .mI e1.cnt), (54, .li e1.cnt.length), (55, .li i3)], [.row 5 1 true false (tY y3)]⟩) (fun i3 y3 => y3.length <= 11 * i1 + 3 + i3) (y1 ++ ([IntKind.u8.wrap (IntKind.i64.wrap (IntKind.i64.wrap (0 + 1) + 2)), IntKind.u8.wrap (Int.fdiv y2.1 (2 ^ min (Int.toNat 8) 64)), IntKind.u8.wrap y2.1])) (wk H1 [0]) (by simp; omega) fun i3 y3 hi3 hy3 => ?_
    refine VX.H H1 <| .seq ?_
    refine VX.C ?_ ?_ <;> intro h56 <;> simp [go_sem] at h56
    ·refine VX.skip <| .seq <| .block ?_
     have H3 : e1.cnt[i3]? = some e1.cnt[i3] := Aa (by omega)
     generalize e1.cnt[i3] = e3 at H3
     refine VX.H (cj2 H1 H3) ?_
     refine VX.H1 (cj2 H1 H3) ?_
     refine VX.H1 (cj2 H1 H3) ?_
     refine ⟨by omega, (y3 ++ ([IntKind.u8.wrap e3])), ?_, wk (cj3 (Bq ((i3 : Int) + 1)) H1 H3) [0]⟩
     simp; omega
    refine VX.exit <| .H1 H1 ?_
    refine ⟨by omega, (y3), ?_, wk (cj2 (Bq ((i1 : Int) + 1)) H1) [0]⟩
    omega
   refine VX.skip <| .H H1 <| .seq ?_
   refine VX.H H1 <| .block ?_
   refine VX.rangeE e1.col.length (fun i4 (y4 : Int × Int) => ⟨[(3, .own 0 y1.length), (5, .ptr 1 0), (6, .li (IntKind.i64.wrap (0 + 1))), (7, .li y4.1), (8, .li y4.2), (13, .mView l), (14, .li l.length), (15, .li i1), (28, .mI e1.col), (29, .li e1.col.length), (30, .li i4)], [.row 5 1 true false (tY y1), .box 128 [.lb e1.fl, .lb e1.ov, .mI e1.col, .mI e1.cnt]]⟩) (fun i4 y4 => True) (0, 1) (wk H1 [0, 1]) (trivial) fun i4 y4 hi4 hy4 => ?_
   refine VX.H H1 <| .seq ?_
   refine VX.C ?_ ?_ <;> intro h31 <;> simp [go_sem] at h31
   ·refine VX.skip <| .seq <| .block ?_
    have H4 : e1.col[i4]? = some e1.col[i4] := Aa (by omega)
    generalize e1.col[i4] = e4 at H4
    refine VX.H (cj2 H1 H4) ?_
    refine VX.H (cj2 H1 H4) ?_
    refine VX.H1 (cj2 H1 H4) ?_
    refine VX.H1 (cj2 H1 H4) ?_
    exact ⟨by omega, (IntKind.i64.wrap (y4.1 + (IntKind.i64.wrap (e4 * y4.2))), IntKind.i64.wrap (y4.2 * 4)), trivial, wk (cj3 (Bq ((i4 : Int) + 1)) H1 H4) [0, 1]⟩
   refine VX.exit <| .H H1 ?_
   refine VX.H H1 <| .block ?_
   refine VX.rangeE e1.cnt.length (fun i5 (y5 : (List Int)) => ⟨[(3, .own 0 y5.length), (13, .mView l), (14, .li l.length), (15, .li i1), (53, .mI e1.cnt), (54, .li e1.cnt.length), (55, .li i5)], [.row 5 1 true false (tY y5)]⟩) (fun i5 y5 => y5.length <= 11 * i1 + 3 + i5) (y1 ++ ([IntKind.u8.wrap (IntKind.i64.wrap (0 + 1)), IntKind.u8.wrap (Int.fdiv y4.1 (2 ^ min (Int.toNat 8) 64)), IntKind.u8.wrap y4.1])) (wk H1 [0]) (by simp; omega) fun i5 y5 hi5 hy5 => ?_
   refine VX.H H1 <| .seq ?_
   refine VX.C ?_ ?_ <;> intro h56 <;> simp [go_sem] at h56
   ·refine VX.skip <| .seq <| .block ?_
    have H5 : e1.cnt[i5]? = some e1.cnt[i5] := Aa (by omega)
    generalize e1.cnt[i5] = e5 at H5
    refine VX.H (cj2 H1 H5) ?_
    refine VX.H1 (cj2 H1 H5) ?_
    refine VX.H1 (cj2 H1 H5) ?_
    refine ⟨by omega, (y5 ++ ([IntKind.u8.wrap e5])), ?_, wk (cj3 (Bq ((i5 : Int) + 1)) H1 H5) [0]⟩
    simp; omega
   refine VX.exit <| .H1 H1 ?_
   refine ⟨by omega, (y5), ?_, wk (cj2 (Bq ((i1 : Int) + 1)) H1) [0]⟩
   omega
  refine VX.skip <| .seq <| .H H1 ?_
  refine VX.C ?_ ?_ <;> intro h24 <;> simp [go_sem] at h24
  ·refine VX.H1 H1 ?_
   refine VX.H H1 <| .seq ?_
   refine VX.H H1 <| .block ?_
   refine VX.rangeE e1.col.length (fun i6 (y6 : Int × Int) => ⟨[(3, .own 0 y1.length), (5, .ptr 1 0), (6, .li (IntKind.i64.wrap (0 + 2))), (7, .li y6.1), (8, .li y6.2), (13, .mView l), (14, .li l.length), (15, .li i1), (28, .mI e1.col), (29, .li e1.col.length), (30, .li i6)], [.row 5 1 true false (tY y1), .box 128 [.lb e1.fl, .lb e1.ov, .mI e1.col, .mI e1.cnt]]⟩) (fun i6 y6 => True) (0, 1) (wk H1 [0, 1]) (trivial) fun i6 y6 hi6 hy6 => ?_
   refine VX.H H1 <| .seq ?_
   refine VX.C ?_ ?_ <;> intro h31 <;> simp [go_sem] at h31
   ·refine VX.skip <| .seq <| .block ?_
    have H6 : e1.col[i6]? = some e1.col[i6] := Aa (by omega)
    generalize e1.col[i6] = e6 at H6
    refine VX.H (cj2 H1 H6) ?_
    refine VX.H (cj2 H1 H6) ?_
    refine VX.H1 (cj2 H1 H6) ?_
    refine VX.H1 (cj2 H1 H6) ?_
    exact ⟨by omega, (IntKind.i64.wrap (y6.1 + (IntKind.i64.wrap (e6 * y6.2))), IntKind.i64.wrap (y6.2 * 4)), trivial, wk (cj3 (Bq ((i6 : Int) + 1)) H1 H6) [0, 1]⟩
   refine VX.exit <| .H H1 ?_
   refine VX.H H1 <| .block ?_
   refine VX.rangeE e1.cnt.length (fun i7 (y7 : (List Int)) => ⟨[(3, .own 0 y7.length), (13, .mView l), (14, .li l.length), (15, .li i1), (53, .mI e1.cnt), (54, .li e1.cnt.length), (55, .li i7)], [.row 5 1 true false (tY y7)]⟩) (fun i7 y7 => y7.length <= 11 * i1 + 3 + i7) (y1 ++ ([IntKind.u8.wrap (IntKind.i64.wrap (0 + 2)), IntKind.u8.wrap (Int.fdiv y6.1 (2 ^ min (Int.toNat 8) 64)), IntKind.u8.wrap y6.1])) (wk H1 [0]) (by simp; omega) fun i7 y7 hi7 hy7 => ?_
   refine VX.H H1 <| .seq ?_
   refine VX.C ?_ ?_ <;> intro h56 <;> simp [go_sem] at h56
   ·refine VX.skip <| .seq <| .block ?_
    have H7 : e1.cnt[i7]? = some e1.cnt[i7] := Aa (by omega)
    generalize e1.cnt[i7] = e7 at H7
    refine VX.H (cj2 H1 H7) ?_
    refine VX.H1 (cj2 H1 H7) ?_
    refine VX.H1 (cj2 H1 H7) ?_
    refine ⟨by omega, (y7 ++ ([IntKind.u8.wrap e7])), ?_, wk (cj3 (Bq ((i7 : Int) + 1)) H1 H7) [0]⟩
    simp; omega
   refine VX.exit <| .H1 H1 ?_
   refine ⟨by omega, (y7), ?_, wk (cj2 (Bq ((i1 : Int) + 1)) H1) [0]⟩
   omega
  refine VX.skip <| .H H1 <| .seq ?_
  refine VX.H H1 <| .block ?_
  refine VX.rangeE e1.col.length (fun i8 (y8 : Int × Int) => ⟨[(3, .own 0 y1.length), (5, .ptr 1 0), (6, .li 0), (7, .li y8.1), (8, .li y8.2), (13, .mView l), (14, .li l.length), (15, .li i1), (28, .mI e1.col), (29, .li e1.col.length), (30, .li i8)], [.row 5 1 true false (tY y1), .box 128 [.lb e1.fl, .lb e1.ov, .mI e1.col, .mI e1.cnt]]⟩) (fun i8 y8 => True) (0, 1) (wk H1 [0, 1]) (trivial) fun i8 y8 hi8 hy8 => ?_
  refine VX.H H1 <| .seq ?_
  refine VX.C ?_ ?_ <;> intro h31 <;> simp [go_sem] at h31
  ·refine VX.skip <| .seq <| .block ?_
   have H8 : e1.col[i8]? = some e1.col[i8] := Aa (by omega)
   generalize e1.col[i8] = e8 at H8
   refine VX.H (cj2 H1 H8) ?_
   refine VX.H (cj2 H1 H8) ?_
   refine VX.H1 (cj2 H1 H8) ?_
   refine VX.H1 (cj2 H1 H8) ?_
   exact ⟨by omega, (IntKind.i64.wrap (y8.1 + (IntKind.i64.wrap (e8 * y8.2))), IntKind.i64.wrap (y8.2 * 4)), trivial, wk (cj3 (Bq ((i8 : Int) + 1)) H1 H8) [0, 1]⟩
  refine VX.exit <| .H H1 ?_
  refine VX.H H1 <| .block ?_
  refine VX.rangeE e1.cnt.length (fun i9 (y9 : (List Int)) => ⟨[(3, .own 0 y9.length), (13, .mView l), (14, .li l.length), (15, .li i1), (53, .mI e1.cnt), (54, .li e1.cnt.length), (55, .li i9)], [.row 5 1 true false (tY y9)]⟩) (fun i9 y9 => y9.length <= 11 * i1 + 3 + i9) (y1 ++ ([IntKind.u8.wrap 0, IntKind.u8.wrap (Int.fdiv y8.1 (2 ^ min (Int.toNat 8) 64)), IntKind.u8.wrap y8.1])) (wk H1 [0]) (by simp; omega) fun i9 y9 hi9 hy9 => ?_
  refine VX.H H1 <| .seq ?_
  refine VX.C ?_ ?_ <;> intro h56 <;> simp [go_sem] at h56
  ·refine VX.skip <| .seq <| .block ?_
   have H9 : e1.cnt[i9]? = some e1.cnt[i9] := Aa (by omega)
   generalize e1.cnt[i9] = e9 at H9
   refine VX.H (cj2 H1 H9) ?_
   refine VX.H1 (cj2 H1 H9) ?_
   refine VX.H1 (cj2 H1 H9) ?_
   refine ⟨by omega, (y9 ++ ([IntKind.u8.wrap e9])), ?_, wk (cj3 (Bq ((i9 : Int) + 1)) H1 H9) [0]⟩
   simp; omega
  refine VX.exit <| .H1 H1 ?_
  refine ⟨by omega, (y9), ?_, wk (cj2 (Bq ((i1 : Int) + 1)) H1) [0]⟩
  omega
 refine VX.exit <| .R ?_
 exact .ret ⟨y1, rW ok0 [0], (by omega)⟩
noncomputable def Fz (l : List E7) (hl : l.length <= 4) (hv : ∀ v ∈ l, v.col.length <= 8 /\ v.cnt.length <= 8) : List Int := (K5 l hl hv).choose
theorem Pj (l : List E7) (hl : l.length <= 4) (hv : ∀ v ∈ l, v.col.length <= 8 /\ v.cnt.length <= 8) : PP 135 [] [.mView l] [.row 5 1 false false (tY (Fz l hl hv))] (.own 0 (Fz l hl hv).length) := (K5 l hl hv).choose_spec.1
theorem Kj (l : List E7) (hl : l.length <= 4) (hv : ∀ v ∈ l, v.col.length <= 8 /\ v.cnt.length <= 8) : (Fz l hl hv).length <= 11 * l.length := (K5 l hl hv).choose_spec.2
theorem Abd (g : Dp) (l : List E7) (now : Int) (hl : l.length <= 1000000) (hv : ∀ v ∈ l, v.col.length <= 8) : Ct 180 [g.g, .mView l, .li now] (fun d : Int => .li d) (fun d => True) := by
 refine Cb Tryz.func180 ?_
 refine VX.R <| .seq ?_
 refine VX.L ok0 (Tf g now) ?_
 refine VX.C ?_ ?_ <;> intro h23 <;> simp [go_sem] at h23
 ·refine VX.R ?_
  exact .ret (fin ok0 1 trivial)
 refine VX.skip ?_
 have H1 : l[g.j.toNat]? = some l[g.j.toNat] := Aa (by omega)
 generalize l[g.j.toNat] = e1 at H1
 refine VX.H H1 <| .seq ?_
 refine VX.H H1 ?_
 refine VX.C ?_ ?_ <;> intro h39 <;> simp [go_sem] at h39
 ·refine VX.H H1 ?_
  exact .ret (fin H1 1 trivial)
 refine VX.skip <| .seq ?_
 have H2 : e1.col[g.p.toNat]? = some e1.col[g.p.toNat] := Aa (by omega)
 generalize e1.col[g.p.toNat] = e2 at H2
 refine VX.H (cj2 H1 H2) ?_
 refine VX.C ?_ ?_ <;> intro h55 <;> simp [go_sem] at h55
 ·refine VX.H (cj2 H1 H2) ?_
  exact .ret (fin (cj2 H1 H2) 3 trivial)
 refine VX.skip <| .H (cj2 H1 H2) ?_
 exact .ret (fin (cj2 H1 H2) 2 trivial)
theorem Abc (n : Int) (l : List E7) (hl : l.length <= 4) (hv : ∀ v ∈ l, v.col.length <= 8 /\ v.cnt.length <= 8) : Ct 101 [.li n, .mView l] (fun d : B3 => d.g) (fun d => d.kind = 21 /\ d.args = [n] /\ d.tok = [] /\ d.data = Fz l hl hv) := by
 refine Cb Tryz.func101 ?_
 have hb := Kj l hl hv
 refine VX.R ?_
 refine VX.L ok0 (Pj l hl hv) ?_
 refine VX.F 1 ?_
 simp [go_sem]
 refine VX.F 2 ?_
 simp [go_sem]
 refine VX.ret (Co ?_); simp [go_sem]
 exact ⟨⟨21, [], [n], (Fz l hl hv)⟩, by first | rfl | simp [go_sem], (by simp)⟩
theorem Vu (n : Int) (l : List E7) (c : List Int) (hl : l.length <= 4) (hv : ∀ v ∈ l, v.col.length <= 8 /\ v.cnt.length <= 8) (hc : c.length <= 1000) : Ct 157 [.li n, .mView l, .mY c] (fun d : B3 => d.g) (fun d => d.kind = 17 /\ d.args = [n] /\ d.tok = [] /\ d.data = Fz l hl hv ++ c) := by
 refine Cb Tryz.func157 ?_
 have hb := Kj l hl hv
 refine VX.R ?_
 refine VX.L ok0 (Pj l hl hv) ?_
 refine VX.F 1 ?_
 simp [go_sem]
 refine VX.F 2 ?_
 simp [go_sem]
 refine VX.ret (Co ?_); simp [go_sem]
 exact ⟨⟨17, [], [n], (Fz l hl hv) ++ c⟩, by first | rfl | simp [go_sem], (by simp)⟩
theorem Zg (l : List Cg) (n : Int) (w : List E7) (now : Int) (hl : l.length <= 1000000) (hw : w.length <= 1000000) (hv : ∀ v ∈ w, v.col.length <= 8) (hn : n <= 4) : Ct 156 [.mReq l, .li n, .mView w, .li now] (fun d : List Int => .mY d) (fun d => d.length <= 12) := by
 refine Cb Tryz.func156 ?_
 refine VX.R <| .seq ?_
 refine VX.R ?_
 refine VX.C ?_ ?_ <;> intro h18 <;> simp [go_sem] at h18
 ·refine VX.R ?_
  exact .ret (fin ok0 ([]) (by first | exact Ae _ | omega))
 refine VX.skip ?_
 have hw1 := Bq (n * 3 : Int)
 refine VX.H hw1 <| .seq ?_
 refine VX.H hw1 <| .block ?_
 refine VX.rangeE ((n * 3).toNat) (fun i1 (y1 : (List Int)) => ⟨[(0, .mReq l), (2, .mView w), (3, .li now), (9, .own 0 y1.length), (23, .li ((n * 3).toNat)), (24, .li i1)], [.row 5 1 false false (tY y1)]⟩) (fun i1 y1 => y1.length = (n * 3).toNat) (List.replicate ((n * 3).toNat) 0) (wk hw1 [0]) (by simp) fun i1 y1 hi1 hy1 => ?_
 refine VX.H hw1 <| .seq ?_
 refine VX.C ?_ ?_ <;> intro h25 <;> simp [go_sem] at h25
 ·refine VX.skip <| .seq <| .block <| .H hw1 ?_
  have hq := Bq ((i1 : Int) / 3)
  have hr : Int.tmod (i1 : Int) 3 = (i1 : Int) % 3 := Int.tmod_eq_emod_of_nonneg (by omega)
  refine VX.H (cj2 hw1 hq) ?_
  obtain ⟨e2, H2⟩ := gx y1 i1
  refine VX.H (cj2 hw1 H2) ?_
  refine VX.gen 0 rfl (by simp) (fun x : Int => [T.lit (Value.int IntKind.u8 x)]) ((n * 3).toNat) ?_ fun R hR => ?_
  ·apply G7
   ·repeat' first | exact Ii | exact Ih | exact Ig (x := 0) rfl | apply G3 | apply G5 | apply G4 | apply Ij | apply (fun h => Ie (x := _) h rfl) | apply (fun h => G6 (x := _) rfl h)
   first | rfl | omega | simp | (simp; omega)
  simp [go_sem, -Prod.exists]
  refine VX.H (cj4 hw1 H2 hR hr) ?_
  by_cases hc10 : ((i1 : Int) / 3) < l.length
  ·obtain ⟨e3, H3⟩ := gx l (((i1 : Int) / 3).toNat)
   refine VX.H (cj5 hw1 H2 hR hc10 H3) ?_
   refine VX.C ?_ ?_ <;> intro h47 <;> simp [go_sem] at h47
   ·obtain ⟨e4, H4⟩ := gx e3.legs (((i1 : Int) % 3).toNat)
    obtain ⟨e5, H5⟩ := gx R i1
    obtain ⟨Y1, cY1, qY1⟩ := got (Abd e4 w now (by first | assumption | omega) (by first | assumption | omega))
    refine VX.S1 (fun K kk => by simp [go_sem, hw1, H2, hR, hc10, H3, H4, H5]; (repeat refine aK ?_); refine .l cY1 ?_; simp [go_sem, hw1, H2, hR, hc10, H3, H4, H5]; (repeat first | exact kk | refine aK ?_)) ?_
    refine VX.S1 (fun K kk => by simp [go_sem, hw1, H2, hR, hc10, H3, H4, H5]; exact kk) ?_
    refine ⟨by omega, ((R).set i1 (IntKind.u8.wrap Y1)), ?_, [0], Bp (by decide) ?_ ?_, by simp⟩
    ·first | omega | (simp; omega)
    all_goals simp [go_sem, Bq ((i1 : Int) + 1), hw1, H2, hR, hc10, H3, H4, H5, hy1]
   refine VX.skip <| .H1 (cj5 hw1 H2 hR hc10 H3) ?_
   refine ⟨by omega, (R), ?_, [0], Bp (by decide) ?_ ?_, by simp⟩
   ·first | omega | (simp; omega)
   all_goals simp [go_sem, Bq ((i1 : Int) + 1), hw1, H2, hR, hc10, H3, hy1]
  have hn : l[((i1 : Int) / 3).toNat]? = none := Ar (by omega)
  refine VX.H (cj5 hw1 H2 hR hc10 hn) ?_
  refine VX.C ?_ ?_ <;> intro h47 <;> simp [go_sem] at h47
  refine VX.skip <| .H1 (cj5 hw1 H2 hR hc10 hn) ?_
  refine ⟨by omega, (R), ?_, [0], Bp (by decide) ?_ ?_, by simp⟩
  ·first | omega | (simp; omega)
  all_goals simp [go_sem, Bq ((i1 : Int) + 1), hw1, H2, hR, hc10, hn, hy1]
 refine VX.exit <| .H hw1 ?_
 refine VX.Z ok0 0 ?_
 exact .ret (fin hw1 y1 (by first | exact Ae _ | omega))
end Go.Proofs.YtkkimgjinbaemaaGreat
