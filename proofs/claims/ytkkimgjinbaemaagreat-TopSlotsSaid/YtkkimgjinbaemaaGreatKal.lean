/- The walk. -/
import Derived.Test.YtkkimgjinbaemaaGreatKak
namespace Go.Proofs.YtkkimgjinbaemaaGreat
open Go.RowKit
set_option linter.unusedVariables false
set_option linter.unusedSimpArgs false
set_option maxRecDepth 100000
set_option maxHeartbeats 4000000
theorem Wi (now : Int) (r : Em) : PP 169 [] [r.g, .iptr false [.li now] 0] [] (.lb (decide (now <= r.unt))) := by
 refine Eb Tryz.func169 ?_
 iterate 2 refine Bw ?_
 exact .ret (rL ok0)
theorem Jy (r : Em) : PP 193 [] [r.g] [] (.lb (true)) := by
 refine Eb Tryz.func193 ?_
 iterate 2 refine Bw ?_
 exact .ret (rL ok0)
theorem Vl (v : Int) (r : Em) : PP 238 [] [r.g, .iptr false [.li v] 0] [] (.lb (r.veh != v)) := by
 refine Eb Tryz.func238 ?_
 iterate 2 refine Bw ?_
 exact .ret (rL ok0)
theorem Wk (i : Int) (r : Em) : PP 245 [] [r.g, .iptr false [.li i] 0] [] (.lb (r.id != i)) := by
 refine Eb Tryz.func245 ?_
 iterate 2 refine Bw ?_
 exact .ret (rL ok0)
theorem Xa (i : Int) (r : Em) : PP 268 [] [r.g, .iptr false [.li i] 0] [] (.lb (r.id == i)) := by
 refine Eb Tryz.func268 ?_
 iterate 2 refine Bw ?_
 exact .ret (rL ok0)
theorem Wj (j : Int) (g : Gf) : PP 179 [] [g.g, .iptr false [.li j] 0] [] (.lb (g.j == j)) := by
 refine Eb Tryz.func179 ?_
 iterate 2 refine Bw ?_
 exact .ret (rL ok0)
theorem Rn (t : Fi) : PP 275 [] [t.g] [] (.lb (!t.used)) := by
 refine Eb Tryz.func275 ?_
 iterate 2 refine Bw ?_
 exact .ret (rL ok0)
theorem Aal (x : Fd) : PP 250 [] [x.g] [] (.lb (x.l != 0)) := by
 refine Eb Tryz.func250 ?_
 iterate 2 refine Bw ?_
 exact .ret (rL ok0)
theorem L9 (l : List Em) (fid : FuncId) (caps : List AV) (p : Em -> Bool) (hl : l.length <= 1000000) (hg : ∀ r ∈ l, r.legs.length <= 1000000) (hc : Ya caps) (hp : ∀ t, PP fid [] (t.g :: caps) [] (.lb (p t))) : PP 168 [] [.mReq l, .fn fid caps] [] (.mReq (l.filter p)) := by
 refine Eb Tryz.func168 ?_
 refine Ce (fun K kk => by simp [go_sem, hc.pass, hc.passC, hc.bor, hc.low]; exact kk) ?_
 refine Ce (fun K kk => by simp [go_sem, hc.pass, hc.passC, hc.bor, hc.low]; exact kk) <| .seq ?_
 refine Ce (fun K kk => by simp [go_sem, hc.pass, hc.passC, hc.bor, hc.low]; exact kk) <| .block ?_
 refine Cm 5 164 5 (by decide) (k' := 5) (by simp [go_sem]) ?_
 simp [go_sem]
 refine Cc l.length (fun i1 => ⟨[(1, .fn fid caps), (5, .own 0 ((l.take i1).filter p).length), (8, .mReq l), (9, .li l.length), (10, .li i1)], [.row 164 5 false false (Gz ((l.take i1).filter p))]⟩) ⟨[0], Ds (by decide) ?_ ?_, by simp⟩ fun i1 hi1 => ?_
 ·simp [go_sem, hc.ren]
 ·simp [go_sem, hc.ren]
 refine Ce (fun K kk => by simp [go_sem, hc.pass, hc.passC, hc.bor, hc.low]; exact kk) <| .seq ?_
 refine B7 ?_ ?_ <;> intro h11
 ·have hx : l[i1]? = some l[i1] := Aa (by omega)
  generalize l[i1] = e at hx
  have hf : ((l.take i1).filter p).length <= i1 := Ak (Az _ _) (by simp; omega)
  have ht : List.take (i1 + 1) l = List.take i1 l ++ [e] := by rw [List.take_add_one, hx]; rfl
  refine Bv <| .seq <| .block <| .H hx ?_
  refine Ce (fun K kk => by simp [go_sem, hc.pass, hc.passC, hc.bor, hc.low]; refine .lo (hp e) (by simp [go_sem, hc.low]) (by simp [AV.cln, Ez]) ?_; simp [go_sem, hc.pass, hc.passC, hc.bor, hc.low]; exact kk) ?_
  refine B7 ?_ ?_ <;> intro h16
  ·refine VW.S1 (fun K kk => by simp [go_sem, hc.pass, hc.passC, hc.bor, hc.low]; refine .l (S6 e (hg e (Ac hx))) ?_; simp [go_sem, hc.pass, hc.passC, hc.bor, hc.low]; (repeat first | exact kk | refine aK ?_)) ?_
   refine VW.S1 (fun K kk => by simp [go_sem, hc.pass, hc.passC, hc.bor, hc.low]; exact kk) ?_
   refine ⟨by omega, [0], Ds (by decide) ?_ ?_, by simp⟩
   ·simp [go_sem, Dt ((i1 : Int) + 1), hc.ren, ht, List.filter_append, h11, h16]
   simp [go_sem, hc.ren, ht, List.filter_append, h11, h16]
  refine Bv <| .S1 (fun K kk => by simp [go_sem, hc.pass, hc.passC, hc.bor, hc.low]; exact kk) ?_
  refine ⟨by omega, [0], Ds (by decide) ?_ ?_, by simp⟩
  ·simp [go_sem, Dt ((i1 : Int) + 1), hc.ren, ht, List.filter_append, h11, h16]
  simp [go_sem, hc.ren, ht, List.filter_append, h11, h16]
 refine B5 <| .S (fun K kk => by simp [go_sem, hc.pass, hc.passC, hc.bor, hc.low]; exact kk) ?_
 have he : l.take i1 = l := Bf (by omega)
 simp only [he]
 refine Ch 0 (by simp [go_sem, Fp]) ?_
 simp [go_sem]
 exact .ret (rL ok0)
theorem Yt (l : List Em) (now : Int) (hl : l.length <= 1000000) (hg : ∀ r ∈ l, r.legs.length <= 1000000) : PP 148 [] [.mReq l, .li now] [] (.mReq (l.filter fun r => decide (now <= r.unt))) := by
 refine Eb Tryz.func148 ?_
 refine Bw ?_
 refine VW.sel1 0 rfl rfl (by simp) ?_
 simp [go_sem]
 refine Ce (fun K kk => by simp [go_sem]; refine .lo (L9 l _ [.iptr false [.li now] 0] (fun r => decide (now <= r.unt)) hl hg (Uf _) (Wi now)) (by simp [go_sem]) (by simp [AV.cln, Ez]) ?_; simp [go_sem]; exact kk) ?_
 exact .ret (rL ok0)
theorem Jv (l : List Em) (v : Int) (hl : l.length <= 1000000) (hg : ∀ r ∈ l, r.legs.length <= 1000000) : PP 211 [] [.mReq l, .li v] [] (.mReq (l.filter fun r => r.veh != v)) := by
 refine Eb Tryz.func211 ?_
 refine Bw ?_
 refine VW.sel1 0 rfl rfl (by simp) ?_
 simp [go_sem]
 refine Ce (fun K kk => by simp [go_sem]; refine .lo (L9 l _ [.iptr false [.li v] 0] (fun r => r.veh != v) hl hg (Uf _) (Vl v)) (by simp [go_sem]) (by simp [AV.cln, Ez]) ?_; simp [go_sem]; exact kk) ?_
 exact .ret (rL ok0)
theorem Aqt (l : List Em) (hl : l.length <= 1000000) (hg : ∀ r ∈ l, r.legs.length <= 1000000) : PP 168 [] [.mReq l, .fn 193 []] [] (.mReq l) := by
 have h := L9 l _ [] (fun _ => true) hl hg Rx (Jy)
 rwa [show l.filter (fun _ => true) = l by simp] at h
theorem Wh (l : List Em) (hl : l.length <= 1000000) (hg : ∀ r ∈ l, r.legs.length <= 1000000) : PP 171 [] [.mReq l] [] (.mReq l) := by
 refine Eb Tryz.func171 ?_
 refine Bw ?_
 refine Ce (fun K kk => by simp [go_sem]; refine .lo (Aqt l hl hg) (by simp [go_sem]) (by simp [AV.cln, Ez]) ?_; simp [go_sem]; exact kk) ?_
 exact .ret (rL ok0)
theorem Oj (l : List Em) (i : Int) (hl : l.length <= 1000000) : PP 244 [] [.mReq l, .li i] [] (.li (Hi (fun r : Em => r.id == i) l)) := by
 refine Eb Tryz.func244 ?_
 refine Bw ?_
 refine VW.sel1 0 rfl rfl (by simp) ?_
 simp [go_sem]
 refine Ce (fun K kk => by simp [go_sem]; refine .lo (Vo l _ [.iptr false [.li i] 0] (fun r => r.id == i) hl (Uf _) (Xa i)) (by simp [go_sem]) (by simp [AV.cln, Ez]) ?_; simp [go_sem]; exact kk) ?_
 exact .ret (rL ok0)
theorem Adf {α : Type} (p : α -> Bool) : ∀ (l : List α) (i : Nat), Gb p l i < i + l.length /\ -1 <= Gb p l i
 | [], i => by simp [Gb]; omega
 | t :: ts, i => by
  unfold Gb
  split
  ·simp; omega
  have := Adf p ts (i + 1)
  simp at this ⊢
  omega
theorem Ade {α : Type} (p : α -> Bool) (l : List α) : Hi p l < l.length /\ -1 <= Hi p l := by
 have := Adf p l 0
 simpa [Hi] using this
theorem O0 (l : List Gf) (hl : l.length <= 1000000) : Ct 265 [.mLeg l] (fun d : Bool => .lb d) (fun d => True) := by
 refine Ek Tryz.func265 ?_
 refine Bq <| .seq ?_
 refine Bq ?_
 refine Br ?_ ?_ <;> intro h14
 ·refine Bq ?_
  exact .ret (fin ok0 false trivial)
 refine Bp <| .seq <| .R <| .block ?_
 refine Bs l.length (fun i1 (y1 : Unit) => ⟨[(0, .mLeg l), (15, .mLeg l), (16, .li l.length), (17, .li i1)], []⟩) (fun i1 y1 => True) () (wk ok0 []) (trivial) fun i1 y1 hi1 hy1 => ?_
 refine Bq <| .seq ?_
 refine Br ?_ ?_ <;> intro h18
 ·refine Bp <| .seq <| .block ?_
  have H1 : l[i1]? = some l[i1] := Aa (by omega)
  generalize l[i1] = e1 at H1
  refine Bu H1 <| .seq ?_
  refine B8 H1 (Ab3 e1) ?_
  refine Br ?_ ?_ <;> intro h24
  ·refine Bu H1 ?_
   exact .ret (fin H1 false trivial)
  refine Bp <| .H H1 <| .block ?_
  refine Bs ((l.take i1).length) (fun i2 (y2 : Unit) => ⟨[(0, .mLeg l), (4, .ptr 0 0), (15, .mLeg l), (16, .li l.length), (17, .li i1), (27, .mLeg (l.take i1)), (28, .li ((l.take i1).length)), (29, .li i2)], [.box 166 [.li e1.j, .li e1.p, .li e1.fr, .li e1.to, .li e1.si]]⟩) (fun i2 y2 => True) () (wk H1 [0]) (trivial) fun i2 y2 hi2 hy2 => ?_
  refine Bu H1 <| .seq ?_
  refine Br ?_ ?_ <;> intro h30
  ·have hlt : i2 < i1 := (Nat.lt_min.1 h30).1
   have hlt2 : i2 < l.length := (Nat.lt_min.1 h30).2
   have hxq : l[i2]? = some l[i2] := Aa (by omega)
   generalize l[i2] = q at hxq
   refine Bp <| .seq <| .block <| .H (cj3 H1 hxq hlt) ?_
   refine Bu (cj2 H1 hxq) ?_
   refine Br ?_ ?_ <;> intro h37
   ·refine Bu H1 ?_
    exact .ret (fin H1 false trivial)
   refine Bp <| .H1 H1 ?_
   have hN : i2 < (l.take i1).length := by rw [A5]; exact Nat.lt_min.2 ⟨hlt, hlt2⟩
   exact ⟨by omega, (), trivial, wk (cj2 (Dt ((i2 : Int) + 1)) H1) [0]⟩
  refine Bt <| .H1 H1 ?_
  exact ⟨by omega, (), trivial, wk (cj2 (Dt ((i1 : Int) + 1)) H1) []⟩
 refine Bt <| .R ?_
 exact .ret (fin ok0 true trivial)
theorem N7 (l : List Em) (n : Int) (hl : l.length <= 1000000) (hg : ∀ r ∈ l, r.legs.length <= 1000000) : Ct 242 [.mReq l, .li n] (fun d : Bool => .lb d) (fun d => True) := by
 refine Ek Tryz.func242 ?_
 refine Bq <| .seq ?_
 refine Bq ?_
 refine Br ?_ ?_ <;> intro h15
 ·refine Bq ?_
  exact .ret (fin ok0 false trivial)
 refine Bp <| .seq <| .R <| .block ?_
 refine Bs l.length (fun i1 (y1 : Unit) => ⟨[(0, .mReq l), (16, .mReq l), (17, .li l.length), (18, .li i1)], []⟩) (fun i1 y1 => True) () (wk ok0 []) (trivial) fun i1 y1 hi1 hy1 => ?_
 refine Bq <| .seq ?_
 refine Br ?_ ?_ <;> intro h19
 ·refine Bp <| .seq <| .block ?_
  have H1 : l[i1]? = some l[i1] := Aa (by omega)
  generalize l[i1] = e1 at H1
  refine Bu H1 <| .seq ?_
  refine B4 (by rfl) fun K1 hK1 => ?_
  simp [go_sem, H1]
  refine .l (J8 e1.id) ?_
  simp [go_sem, H1]
  refine RCG ?_
  simp [go_sem, H1]
  first | refine .lo (J8 e1.veh) rfl (by simp [AV.cln, Ez]) ?_ | refine .skip ?_
  simp [go_sem, H1]
  refine RCG ?_
  simp [go_sem, H1]
  first | refine .lo (S7 e1.cls) rfl (by simp [AV.cln, Ez]) ?_ | refine .skip ?_
  simp [go_sem, H1]
  refine RCG ?_
  simp [go_sem, H1]
  obtain ⟨Y1, cY1, qY1⟩ := got (O0 e1.legs (hg e1 (Ac H1)))
  first | refine .lo cY1 rfl (by simp [AV.cln, Ez]) ?_ | refine .skip ?_
  simp [go_sem, H1]
  refine hK1 _ ?_; clear hK1
  refine Br ?_ ?_ <;> intro h44
  ·refine Bu H1 ?_
   exact .ret (fin H1 false trivial)
  refine Bp <| .seq <| .H H1 ?_
  refine Br ?_ ?_ <;> intro h52
  ·refine Bu H1 ?_
   exact .ret (fin H1 false trivial)
  refine Bp ?_
  by_cases hc10 : 0 < i1
  ·have hw2 := Dt (i1 - 1 : Int)
   have H3 : l[(i1 - 1)]? = some l[(i1 - 1)] := Aa (by omega)
   generalize l[(i1 - 1)] = e3 at H3
   refine C8 (cj4 H1 hc10 hw2 H3) ?_
   refine Br ?_ ?_ <;> intro h65
   ·refine Bu (cj4 H1 hc10 hw2 H3) ?_
    exact .ret (fin (cj4 H1 hc10 hw2 H3) false trivial)
   refine Bp <| .H1 (cj4 H1 hc10 hw2 H3) ?_
   exact ⟨by omega, (), trivial, wk (cj5 (Dt ((i1 : Int) + 1)) H1 hc10 hw2 H3) []⟩
  have hi0 : i1 = 0 := by omega
  have hxb : l[i1 - 1]? = some e1 := by rw [<- H1, hi0]
  have hw4 := Dt (i1 - 1 : Int)
  refine C8 (cj4 H1 hc10 hxb hw4) ?_
  refine C5 ?_ ?_ <;> intro h65 <;> simp [go_sem] at h65
  refine Bp <| .H1 (cj4 H1 hc10 hxb hw4) ?_
  exact ⟨by omega, (), trivial, wk (cj5 (Dt ((i1 : Int) + 1)) H1 hc10 hxb hw4) []⟩
 refine Bt <| .R ?_
 exact .ret (fin ok0 true trivial)
theorem Yi (l : List Em) (a : Int) (j : Int) (hl : l.length <= 1000000) (hg : ∀ r ∈ l, r.legs.length <= 1000000) : Ct 155 [.mReq l, .li a, .li j] (fun d : List Es => .mClaim d) (fun d => d.length <= l.length) := by
 refine Ek Tryz.func155 ?_
 refine Bq ?_
 refine VX.sel1 0 rfl rfl (by simp) ?_
 simp [go_sem]
 refine Bq <| .seq ?_
 refine Bq <| .block ?_
 refine Cg 7 287 5 (by decide) (k' := 5) (by simp [go_sem]) ?_
 simp [go_sem]
 refine Bs l.length (fun i1 (y1 : (List Es)) => ⟨[(1, .li a), (5, .iptr false [.li j] 0), (7, .own 0 y1.length), (12, .mReq l), (13, .li l.length), (14, .li i1)], [.row 287 5 true false (Ue y1)]⟩) (fun i1 y1 => y1.length <= i1) ([]) (wk ok0 [1]) (by simp) fun i1 y1 hi1 hy1 => ?_
 refine Bq <| .seq ?_
 refine Br ?_ ?_ <;> intro h15
 ·refine Bp <| .seq <| .block ?_
  have H1 : l[i1]? = some l[i1] := Aa (by omega)
  generalize l[i1] = e1 at H1
  refine Bu H1 ?_
  refine B3 (fun K kk => by simp [go_sem, H1]; refine .lo (Aaw e1.legs _ [.iptr false [.li j] 0] (fun g => g.j == j) (hg e1 (Ac H1)) (Uf _) (Wj j)) (by simp [go_sem]) (by simp [AV.cln, Ez]) ?_; simp [go_sem, H1]; exact kk) <| .seq ?_
  by_cases hc6 : 0 <= Hi (fun g : Gf => g.j == j) e1.legs
  ·have hi := Ade (fun g : Gf => g.j == j) e1.legs
   have H2 : e1.legs[(Hi (fun g : Gf => g.j == j) e1.legs).toNat]? = some e1.legs[(Hi (fun g : Gf => g.j == j) e1.legs).toNat] := Aa (by omega)
   generalize e1.legs[(Hi (fun g : Gf => g.j == j) e1.legs).toNat] = e2 at H2
   refine Bu (cj3 H1 hc6 H2) ?_
   refine Br ?_ ?_ <;> intro h32
   ·refine Bt <| .H1 (cj3 H1 hc6 H2) ?_
    refine ⟨by omega, (y1), ?_, wk (cj4 (Dt ((i1 : Int) + 1)) H1 hc6 H2) [0]⟩
    first | omega | (simp; omega)
   refine Bp <| .H (cj3 H1 hc6 H2) ?_
   refine B0 (cj3 H1 hc6 H2) ?_
   refine B0 (cj3 H1 hc6 H2) ?_
   refine ⟨by omega, (y1 ++ ([⟨a, e1.id, e2.p, e1.cls, e2.si⟩])), ?_, wk (cj4 (Dt ((i1 : Int) + 1)) H1 hc6 H2) [0]⟩
   first | omega | (simp; omega)
  have hneg : Hi (fun g : Gf => g.j == j) e1.legs < 0 := by omega
  have hi := Ade (fun g : Gf => g.j == j) e1.legs
  refine Bu (cj3 H1 hc6 hneg) ?_
  refine C5 ?_ ?_ <;> intro h32 <;> simp [go_sem] at h32
  refine Bt <| .H1 (cj3 H1 hc6 hneg) ?_
  refine ⟨by omega, (y1), ?_, wk (cj4 (Dt ((i1 : Int) + 1)) H1 hc6 hneg) [0]⟩
  first | omega | (simp; omega)
 refine Bt <| .R ?_
 refine B2 ok0 0 ?_
 exact .ret (fin ok0 y1 (by first | omega | (simp; omega)))
def vwl (l : List Ft) : Nat := (l.map fun v => 3 + v.cnt.length).sum
theorem Apc {l : List Ft} {i : Nat} {e : Ft} (h : l[i]? = some e) : vwl (l.take (i + 1)) = vwl (l.take i) + 3 + e.cnt.length := by
 unfold vwl
 rw [List.take_add_one, h]
 simp only [List.map_append, List.sum_append, Option.toList_some, List.map_cons, List.map_nil, List.sum_cons, List.sum_nil]
 omega
theorem Ab2 : ∀ {l : List Ft}, (∀ v ∈ l, v.col.length <= 8 /\ v.cnt.length <= 8) -> vwl l <= 11 * l.length
 | [], _ => Ae _
 | v :: l, h => by
  have h1 := (h v (List.mem_cons_self ..)).2
  have h2 := Ab2 (l := l) fun w hw => h w (List.mem_cons_of_mem _ hw)
  show 3 + v.cnt.length + vwl l <= 11 * (l.length + 1)
  omega
theorem M4 (l : List Ft) (hl : l.length <= 4) (hv : ∀ v ∈ l, v.col.length <= 8 /\ v.cnt.length <= 8) : ∃ d : List Int, PP 135 [] [.mView l] [.row 5 1 false false (tY d)] (.own 0 d.length) /\ (d.length = vwl l) := by
 refine Mi (D := List Int) (F := fun d => .own 0 d.length) (S := fun d => [.row 5 1 false false (tY d)]) (Q := fun d => d.length = vwl l) Tryz.func135 rfl rfl rfl (by simp [Tryz.ntmps135]) ?_
 refine Bq ?_
 refine Bq <| .seq ?_
 refine Bq <| .block ?_
 refine Cg 3 5 1 (by decide) (k' := 1) (by simp [go_sem]) ?_
 simp [go_sem]
 refine Bs l.length (fun i1 (y1 : (List Int)) => ⟨[(3, .own 0 y1.length), (13, .mView l), (14, .li l.length), (15, .li i1)], [.row 5 1 true false (tY y1)]⟩) (fun i1 y1 => y1.length = vwl (l.take i1)) ([]) (wk ok0 [0]) (by simp [vwl]) fun i1 y1 hi1 hy1 => ?_
 refine Bq <| .seq ?_
 refine Br ?_ ?_ <;> intro h16
 ·refine Bp <| .seq <| .block ?_
  have H1 : l[i1]? = some l[i1] := Aa (by omega)
  generalize l[i1] = e1 at H1
  refine Bu H1 ?_
  have hb := hv e1 (Ac H1)
  have hvs := Apc H1
  have hvb : vwl (l.take i1) <= 44 := by have := Ab2 (l := l.take i1) fun v h => hv v (Aq h); rw [A5] at this; omega
  refine Bu H1 <| .seq ?_
  refine Bu H1 ?_
  refine Br ?_ ?_ <;> intro h20
  ·refine B0 H1 <| .seq ?_
   refine Bu H1 ?_
   refine Br ?_ ?_ <;> intro h24
   ·refine B0 H1 ?_
    refine Bu H1 <| .seq ?_
    refine Bu H1 <| .block ?_
    refine Bs e1.col.length (fun i2 (y2 : Int × Int) => ⟨[(3, .own 0 y1.length), (5, .ptr 1 0), (6, .li (IntKind.i64.wrap (IntKind.i64.wrap (0 + 1) + 2))), (7, .li y2.1), (8, .li y2.2), (13, .mView l), (14, .li l.length), (15, .li i1), (28, .mI e1.col), (29, .li e1.col.length), (30, .li i2)], [.row 5 1 true false (tY y1), .box 128 [.lb e1.fl, .lb e1.ov, .mI e1.col, .mI e1.cnt]]⟩) (fun i2 y2 => True) (0, 1) (wk H1 [0, 1]) (trivial) fun i2 y2 hi2 hy2 => ?_
    refine Bu H1 <| .seq ?_
    refine Br ?_ ?_ <;> intro h31
    ·refine Bp <| .seq <| .block ?_
     have H2 : e1.col[i2]? = some e1.col[i2] := Aa (by omega)
     generalize e1.col[i2] = e2 at H2
     refine Bu (cj2 H1 H2) ?_
     refine Bu (cj2 H1 H2) ?_
     refine B0 (cj2 H1 H2) ?_
     refine B0 (cj2 H1 H2) ?_
     exact ⟨by omega, (IntKind.i64.wrap (y2.1 + (IntKind.i64.wrap (e2 * y2.2))), IntKind.i64.wrap (y2.2 * 4)), trivial, wk (cj3 (Dt ((i2 : Int) + 1)) H1 H2) [0, 1]⟩
    refine Bt <| .H H1 ?_
    refine Bu H1 <| .block ?_
    refine Bs e1.cnt.length (fun i3 (y3 : (List Int)) => ⟨[(3, .own 0 y3.length), (13, .mView l), (14, .li l.length), (15, .li i1), (53, .mI e1.cnt), (54, .li e1.cnt.length), (55, .li i3)], [.row 5 1 true false (tY y3)]⟩) (fun i3 y3 => y3.length = vwl (l.take i1) + 3 + i3) (y1 ++ ([IntKind.u8.wrap (IntKind.i64.wrap (IntKind.i64.wrap (0 + 1) + 2)), IntKind.u8.wrap (Int.fdiv y2.1 (2 ^ min (Int.toNat 8) 64)), IntKind.u8.wrap y2.1])) (wk H1 [0]) (by simp; omega) fun i3 y3 hi3 hy3 => ?_
    refine Bu H1 <| .seq ?_
    refine Br ?_ ?_ <;> intro h56
    ·refine Bp <| .seq <| .block ?_
     have H3 : e1.cnt[i3]? = some e1.cnt[i3] := Aa (by omega)
     generalize e1.cnt[i3] = e3 at H3
     refine Bu (cj2 H1 H3) ?_
     refine B0 (cj2 H1 H3) ?_
     refine B0 (cj2 H1 H3) ?_
     refine ⟨by omega, (y3 ++ ([IntKind.u8.wrap e3])), ?_, wk (cj3 (Dt ((i3 : Int) + 1)) H1 H3) [0]⟩
     simp; omega
    refine Bt <| .H1 H1 ?_
    refine ⟨by omega, (y3), ?_, wk (cj2 (Dt ((i1 : Int) + 1)) H1) [0]⟩
    omega
   refine Bp <| .H H1 <| .seq ?_
   refine Bu H1 <| .block ?_
   refine Bs e1.col.length (fun i4 (y4 : Int × Int) => ⟨[(3, .own 0 y1.length), (5, .ptr 1 0), (6, .li (IntKind.i64.wrap (0 + 1))), (7, .li y4.1), (8, .li y4.2), (13, .mView l), (14, .li l.length), (15, .li i1), (28, .mI e1.col), (29, .li e1.col.length), (30, .li i4)], [.row 5 1 true false (tY y1), .box 128 [.lb e1.fl, .lb e1.ov, .mI e1.col, .mI e1.cnt]]⟩) (fun i4 y4 => True) (0, 1) (wk H1 [0, 1]) (trivial) fun i4 y4 hi4 hy4 => ?_
   refine Bu H1 <| .seq ?_
   refine Br ?_ ?_ <;> intro h31
   ·refine Bp <| .seq <| .block ?_
    have H4 : e1.col[i4]? = some e1.col[i4] := Aa (by omega)
    generalize e1.col[i4] = e4 at H4
    refine Bu (cj2 H1 H4) ?_
    refine Bu (cj2 H1 H4) ?_
    refine B0 (cj2 H1 H4) ?_
    refine B0 (cj2 H1 H4) ?_
    exact ⟨by omega, (IntKind.i64.wrap (y4.1 + (IntKind.i64.wrap (e4 * y4.2))), IntKind.i64.wrap (y4.2 * 4)), trivial, wk (cj3 (Dt ((i4 : Int) + 1)) H1 H4) [0, 1]⟩
   refine Bt <| .H H1 ?_
   refine Bu H1 <| .block ?_
   refine Bs e1.cnt.length (fun i5 (y5 : (List Int)) => ⟨[(3, .own 0 y5.length), (13, .mView l), (14, .li l.length), (15, .li i1), (53, .mI e1.cnt), (54, .li e1.cnt.length), (55, .li i5)], [.row 5 1 true false (tY y5)]⟩) (fun i5 y5 => y5.length = vwl (l.take i1) + 3 + i5) (y1 ++ ([IntKind.u8.wrap (IntKind.i64.wrap (0 + 1)), IntKind.u8.wrap (Int.fdiv y4.1 (2 ^ min (Int.toNat 8) 64)), IntKind.u8.wrap y4.1])) (wk H1 [0]) (by simp; omega) fun i5 y5 hi5 hy5 => ?_
   refine Bu H1 <| .seq ?_
   refine Br ?_ ?_ <;> intro h56
   ·refine Bp <| .seq <| .block ?_
    have H5 : e1.cnt[i5]? = some e1.cnt[i5] := Aa (by omega)
    generalize e1.cnt[i5] = e5 at H5
    refine Bu (cj2 H1 H5) ?_
    refine B0 (cj2 H1 H5) ?_
    refine B0 (cj2 H1 H5) ?_
    refine ⟨by omega, (y5 ++ ([IntKind.u8.wrap e5])), ?_, wk (cj3 (Dt ((i5 : Int) + 1)) H1 H5) [0]⟩
    simp; omega
   refine Bt <| .H1 H1 ?_
   refine ⟨by omega, (y5), ?_, wk (cj2 (Dt ((i1 : Int) + 1)) H1) [0]⟩
   omega
  refine Bp <| .seq <| .H H1 ?_
  refine Br ?_ ?_ <;> intro h24
  ·refine B0 H1 ?_
   refine Bu H1 <| .seq ?_
   refine Bu H1 <| .block ?_
   refine Bs e1.col.length (fun i6 (y6 : Int × Int) => ⟨[(3, .own 0 y1.length), (5, .ptr 1 0), (6, .li (IntKind.i64.wrap (0 + 2))), (7, .li y6.1), (8, .li y6.2), (13, .mView l), (14, .li l.length), (15, .li i1), (28, .mI e1.col), (29, .li e1.col.length), (30, .li i6)], [.row 5 1 true false (tY y1), .box 128 [.lb e1.fl, .lb e1.ov, .mI e1.col, .mI e1.cnt]]⟩) (fun i6 y6 => True) (0, 1) (wk H1 [0, 1]) (trivial) fun i6 y6 hi6 hy6 => ?_
   refine Bu H1 <| .seq ?_
   refine Br ?_ ?_ <;> intro h31
   ·refine Bp <| .seq <| .block ?_
    have H6 : e1.col[i6]? = some e1.col[i6] := Aa (by omega)
    generalize e1.col[i6] = e6 at H6
    refine Bu (cj2 H1 H6) ?_
    refine Bu (cj2 H1 H6) ?_
    refine B0 (cj2 H1 H6) ?_
    refine B0 (cj2 H1 H6) ?_
    exact ⟨by omega, (IntKind.i64.wrap (y6.1 + (IntKind.i64.wrap (e6 * y6.2))), IntKind.i64.wrap (y6.2 * 4)), trivial, wk (cj3 (Dt ((i6 : Int) + 1)) H1 H6) [0, 1]⟩
   refine Bt <| .H H1 ?_
   refine Bu H1 <| .block ?_
   refine Bs e1.cnt.length (fun i7 (y7 : (List Int)) => ⟨[(3, .own 0 y7.length), (13, .mView l), (14, .li l.length), (15, .li i1), (53, .mI e1.cnt), (54, .li e1.cnt.length), (55, .li i7)], [.row 5 1 true false (tY y7)]⟩) (fun i7 y7 => y7.length = vwl (l.take i1) + 3 + i7) (y1 ++ ([IntKind.u8.wrap (IntKind.i64.wrap (0 + 2)), IntKind.u8.wrap (Int.fdiv y6.1 (2 ^ min (Int.toNat 8) 64)), IntKind.u8.wrap y6.1])) (wk H1 [0]) (by simp; omega) fun i7 y7 hi7 hy7 => ?_
   refine Bu H1 <| .seq ?_
   refine Br ?_ ?_ <;> intro h56
   ·refine Bp <| .seq <| .block ?_
    have H7 : e1.cnt[i7]? = some e1.cnt[i7] := Aa (by omega)
    generalize e1.cnt[i7] = e7 at H7
    refine Bu (cj2 H1 H7) ?_
    refine B0 (cj2 H1 H7) ?_
    refine B0 (cj2 H1 H7) ?_
    refine ⟨by omega, (y7 ++ ([IntKind.u8.wrap e7])), ?_, wk (cj3 (Dt ((i7 : Int) + 1)) H1 H7) [0]⟩
    simp; omega
   refine Bt <| .H1 H1 ?_
   refine ⟨by omega, (y7), ?_, wk (cj2 (Dt ((i1 : Int) + 1)) H1) [0]⟩
   omega
  refine Bp <| .H H1 <| .seq ?_
  refine Bu H1 <| .block ?_
  refine Bs e1.col.length (fun i8 (y8 : Int × Int) => ⟨[(3, .own 0 y1.length), (5, .ptr 1 0), (6, .li 0), (7, .li y8.1), (8, .li y8.2), (13, .mView l), (14, .li l.length), (15, .li i1), (28, .mI e1.col), (29, .li e1.col.length), (30, .li i8)], [.row 5 1 true false (tY y1), .box 128 [.lb e1.fl, .lb e1.ov, .mI e1.col, .mI e1.cnt]]⟩) (fun i8 y8 => True) (0, 1) (wk H1 [0, 1]) (trivial) fun i8 y8 hi8 hy8 => ?_
  refine Bu H1 <| .seq ?_
  refine Br ?_ ?_ <;> intro h31
  ·refine Bp <| .seq <| .block ?_
   have H8 : e1.col[i8]? = some e1.col[i8] := Aa (by omega)
   generalize e1.col[i8] = e8 at H8
   refine Bu (cj2 H1 H8) ?_
   refine Bu (cj2 H1 H8) ?_
   refine B0 (cj2 H1 H8) ?_
   refine B0 (cj2 H1 H8) ?_
   exact ⟨by omega, (IntKind.i64.wrap (y8.1 + (IntKind.i64.wrap (e8 * y8.2))), IntKind.i64.wrap (y8.2 * 4)), trivial, wk (cj3 (Dt ((i8 : Int) + 1)) H1 H8) [0, 1]⟩
  refine Bt <| .H H1 ?_
  refine Bu H1 <| .block ?_
  refine Bs e1.cnt.length (fun i9 (y9 : (List Int)) => ⟨[(3, .own 0 y9.length), (13, .mView l), (14, .li l.length), (15, .li i1), (53, .mI e1.cnt), (54, .li e1.cnt.length), (55, .li i9)], [.row 5 1 true false (tY y9)]⟩) (fun i9 y9 => y9.length = vwl (l.take i1) + 3 + i9) (y1 ++ ([IntKind.u8.wrap 0, IntKind.u8.wrap (Int.fdiv y8.1 (2 ^ min (Int.toNat 8) 64)), IntKind.u8.wrap y8.1])) (wk H1 [0]) (by simp; omega) fun i9 y9 hi9 hy9 => ?_
  refine Bu H1 <| .seq ?_
  refine Br ?_ ?_ <;> intro h56
  ·refine Bp <| .seq <| .block ?_
   have H9 : e1.cnt[i9]? = some e1.cnt[i9] := Aa (by omega)
   generalize e1.cnt[i9] = e9 at H9
   refine Bu (cj2 H1 H9) ?_
   refine B0 (cj2 H1 H9) ?_
   refine B0 (cj2 H1 H9) ?_
   refine ⟨by omega, (y9 ++ ([IntKind.u8.wrap e9])), ?_, wk (cj3 (Dt ((i9 : Int) + 1)) H1 H9) [0]⟩
   simp; omega
  refine Bt <| .H1 H1 ?_
  refine ⟨by omega, (y9), ?_, wk (cj2 (Dt ((i1 : Int) + 1)) H1) [0]⟩
  omega
 refine Bt <| .R ?_
 exact .ret ⟨y1, rW ok0 [0], (by show y1.length = vwl l; rw [hy1, Bf (by omega)])⟩
noncomputable def G2 (l : List Ft) (hl : l.length <= 4) (hv : ∀ v ∈ l, v.col.length <= 8 /\ v.cnt.length <= 8) : List Int := (M4 l hl hv).choose
theorem Rq (l : List Ft) (hl : l.length <= 4) (hv : ∀ v ∈ l, v.col.length <= 8 /\ v.cnt.length <= 8) : PP 135 [] [.mView l] [.row 5 1 false false (tY (G2 l hl hv))] (.own 0 (G2 l hl hv).length) := (M4 l hl hv).choose_spec.1
theorem Rz (l : List Ft) (hl : l.length <= 4) (hv : ∀ v ∈ l, v.col.length <= 8 /\ v.cnt.length <= 8) : (G2 l hl hv).length = vwl l := (M4 l hl hv).choose_spec.2
theorem Pv (l : List Ft) (hl : l.length <= 4) (hv : ∀ v ∈ l, v.col.length <= 8 /\ v.cnt.length <= 8) : (G2 l hl hv).length <= 11 * l.length := by rw [Rz]; exact Ab2 hv
theorem Vp (g : Gf) (l : List Ft) (now : Int) (hl : l.length <= 1000000) (hv : ∀ v ∈ l, v.col.length <= 8) : Ct 180 [g.g, .mView l, .li now] (fun d : Int => .li d) (fun d => True) := by
 refine Ek Tryz.func180 ?_
 refine Bq <| .seq ?_
 refine B8 ok0 (Vu g now) ?_
 refine Br ?_ ?_ <;> intro h23
 ·refine Bq ?_
  exact .ret (fin ok0 1 trivial)
 refine Bp ?_
 have H1 : l[g.j.toNat]? = some l[g.j.toNat] := Aa (by omega)
 generalize l[g.j.toNat] = e1 at H1
 refine Bu H1 <| .seq ?_
 refine Bu H1 ?_
 refine Br ?_ ?_ <;> intro h39
 ·refine Bu H1 ?_
  exact .ret (fin H1 1 trivial)
 refine Bp <| .seq ?_
 have H2 : e1.col[g.p.toNat]? = some e1.col[g.p.toNat] := Aa (by omega)
 generalize e1.col[g.p.toNat] = e2 at H2
 refine Bu (cj2 H1 H2) ?_
 refine Br ?_ ?_ <;> intro h55
 ·refine Bu (cj2 H1 H2) ?_
  exact .ret (fin (cj2 H1 H2) 3 trivial)
 refine Bp <| .H (cj2 H1 H2) ?_
 exact .ret (fin (cj2 H1 H2) 2 trivial)
noncomputable def V5 (g : Gf) (l : List Ft) (now : Int) (hl : l.length <= 1000000) (hv : ∀ v ∈ l, v.col.length <= 8) : Int := (got (Vp g l now hl hv)).choose
theorem Aeh (g : Gf) (l : List Ft) (now : Int) (hl : l.length <= 1000000) (hv : ∀ v ∈ l, v.col.length <= 8) : PP 180 [] [g.g, .mView l, .li now] [] (.li (V5 g l now hl hv)) := (got (Vp g l now hl hv)).choose_spec.1
theorem Ad3 (n : Int) (l : List Ft) (hl : l.length <= 4) (hv : ∀ v ∈ l, v.col.length <= 8 /\ v.cnt.length <= 8) : Ct 101 [.li n, .mView l] (fun d : Dz => d.g) (fun d => d.kind = 21 /\ d.args = [n] /\ d.tok = [] /\ d.data = G2 l hl hv) := by
 refine Ek Tryz.func101 ?_
 have hb := Pv l hl hv
 refine Bq ?_
 refine B8 ok0 (Rq l hl hv) ?_
 refine Dg 1 ?_
 simp [go_sem]
 refine Dg 2 ?_
 simp [go_sem]
 refine Bz (Ex ?_); simp [go_sem]
 exact ⟨⟨21, [], [n], (G2 l hl hv)⟩, by first | rfl | simp [go_sem], (by simp)⟩
theorem Mx (n : Int) (l : List Ft) (c : List Int) (hl : l.length <= 4) (hv : ∀ v ∈ l, v.col.length <= 8 /\ v.cnt.length <= 8) (hc : c.length <= 1000) : Ct 157 [.li n, .mView l, .mY c] (fun d : Dz => d.g) (fun d => d.kind = 17 /\ d.args = [n] /\ d.tok = [] /\ d.data = G2 l hl hv ++ c) := by
 refine Ek Tryz.func157 ?_
 have hb := Pv l hl hv
 refine Bq ?_
 refine B8 ok0 (Rq l hl hv) ?_
 refine Dg 1 ?_
 simp [go_sem]
 refine Dg 2 ?_
 simp [go_sem]
 refine Bz (Ex ?_); simp [go_sem]
 exact ⟨⟨17, [], [n], (G2 l hl hv) ++ c⟩, by first | rfl | simp [go_sem], (by simp)⟩
noncomputable def Hz (n : Int) (l : List Ft) (c : List Int) (hl : l.length <= 4) (hv : ∀ v ∈ l, v.col.length <= 8 /\ v.cnt.length <= 8) (hc : c.length <= 1000) : Dz := (got (Mx n l c hl hv hc)).choose
theorem Yp (n : Int) (l : List Ft) (c : List Int) (hl : l.length <= 4) (hv : ∀ v ∈ l, v.col.length <= 8 /\ v.cnt.length <= 8) (hc : c.length <= 1000) : PP 157 [] [.li n, .mView l, .mY c] [] (.agg ((Hz n l c hl hv hc).a false)) := (got (Mx n l c hl hv hc)).choose_spec.1
theorem Y0 (n : Int) (l : List Ft) (c : List Int) (hl : l.length <= 4) (hv : ∀ v ∈ l, v.col.length <= 8 /\ v.cnt.length <= 8) (hc : c.length <= 1000) : (Hz n l c hl hv hc).kind = 17 /\ (Hz n l c hl hv hc).args = [n] /\ (Hz n l c hl hv hc).tok = [] /\ (Hz n l c hl hv hc).data = G2 l hl hv ++ c := (got (Mx n l c hl hv hc)).choose_spec.2
theorem Pc (l : List Em) (n : Int) (w : List Ft) (now : Int) (hl : l.length <= 1000000) (hw : w.length <= 1000000) (hv : ∀ v ∈ w, v.col.length <= 8) (hn : n <= 3) : Ct 156 [.mReq l, .li n, .mView w, .li now] (fun d : List Int => .mY d) (fun d => d.length = (n * 3).toNat) := by
 refine Ek Tryz.func156 ?_
 refine Bq <| .seq ?_
 refine Bq ?_
 refine Br ?_ ?_ <;> intro h18
 ·refine Bq ?_
  refine Bz (Ex ?_); simp [go_sem]
  exact ⟨[], by first | rfl | simp [go_sem], (by simp; omega)⟩
 refine Bp ?_
 have hw1 := Dt (n * 3 : Int)
 refine Bu hw1 <| .seq ?_
 refine Bu hw1 <| .block ?_
 refine Bs ((n * 3).toNat) (fun i1 (y1 : (List Int)) => ⟨[(0, .mReq l), (2, .mView w), (3, .li now), (9, .own 0 y1.length), (23, .li ((n * 3).toNat)), (24, .li i1)], [.row 5 1 false false (tY y1)]⟩) (fun i1 y1 => y1.length = (n * 3).toNat) (List.replicate ((n * 3).toNat) 0) ⟨[0], Ds (by decide) ?_ ?_, by simp⟩ (by simp) fun i1 y1 hi1 hy1 => ?_
 ·simp [go_sem, hw1]
 ·simp [go_sem, hw1]
 refine Bu hw1 <| .seq ?_
 refine Br ?_ ?_ <;> intro h25
 ·refine Bp <| .seq <| .block <| .H hw1 ?_
  have hq := Dt ((i1 : Int) / 3)
  have hr : Int.tmod (i1 : Int) 3 = (i1 : Int) % 3 := Int.tmod_eq_emod_of_nonneg (by omega)
  refine Bu (cj2 hw1 hq) ?_
  obtain ⟨e2, H2⟩ := gx y1 i1
  refine Bu (cj2 hw1 H2) ?_
  refine Dj 0 rfl (by simp) (fun x : Int => [T.lit (Value.int IntKind.u8 x)]) ((n * 3).toNat) ?_ fun R hR => ?_
  ·apply Jk
   ·repeat' first | exact Kh | exact Kg | exact Kf (x := 0) rfl | apply Jg | apply Ji | apply Jh | apply Ki | apply (fun h => Ke (x := _) h rfl) | apply (fun h => Jj (x := _) rfl h)
   first | rfl | omega | simp | (simp; omega)
  simp [go_sem, -Prod.exists]
  refine Bu (cj4 hw1 H2 hR hr) ?_
  by_cases hc10 : ((i1 : Int) / 3) < l.length
  ·obtain ⟨e3, H3⟩ := gx l (((i1 : Int) / 3).toNat)
   refine Bu (cj5 hw1 H2 hR hc10 H3) ?_
   refine Br ?_ ?_ <;> intro h47
   ·obtain ⟨e4, H4⟩ := gx e3.legs (((i1 : Int) % 3).toNat)
    obtain ⟨e5, H5⟩ := gx R i1
    refine Cb (fun K kk => by simp [go_sem, hw1, H2, hR, hc10, H3, H4, H5]; (repeat refine aK ?_); refine .l (Aeh e4 w now (by first | assumption | omega) (by first | assumption | omega)) ?_; simp [go_sem, hw1, H2, hR, hc10, H3, H4, H5]; (repeat first | exact kk | refine aK ?_)) ?_
    refine Cb (fun K kk => by simp [go_sem, hw1, H2, hR, hc10, H3, H4, H5]; exact kk) ?_
    refine ⟨by omega, ((R).set i1 (IntKind.u8.wrap (V5 e4 w now (by first | assumption | omega) (by first | assumption | omega)))), ?_, [0], Ds (by decide) ?_ ?_, by simp⟩
    ·first | omega | (simp; omega)
    all_goals simp [go_sem, Dt ((i1 : Int) + 1), hw1, H2, hR, hc10, H3, H4, H5, hy1]
   refine Bp <| .H1 (cj5 hw1 H2 hR hc10 H3) ?_
   refine ⟨by omega, (R), ?_, [0], Ds (by decide) ?_ ?_, by simp⟩
   ·first | omega | (simp; omega)
   all_goals simp [go_sem, Dt ((i1 : Int) + 1), hw1, H2, hR, hc10, H3, hy1]
  have hn : l[((i1 : Int) / 3).toNat]? = none := Ar (by omega)
  refine Bu (cj5 hw1 H2 hR hc10 hn) ?_
  refine C5 ?_ ?_ <;> intro h47 <;> simp [go_sem] at h47
  refine Bp <| .H1 (cj5 hw1 H2 hR hc10 hn) ?_
  refine ⟨by omega, (R), ?_, [0], Ds (by decide) ?_ ?_, by simp⟩
  ·first | omega | (simp; omega)
  all_goals simp [go_sem, Dt ((i1 : Int) + 1), hw1, H2, hR, hc10, hn, hy1]
 refine Bt <| .H hw1 ?_
 refine Dg 0 ?_
 simp [go_sem]
 refine Bz (Ex ?_); simp [go_sem, hw1]
 exact ⟨y1, by first | rfl | simp [go_sem], (by simp; omega)⟩
noncomputable def I4 (l : List Em) (n : Int) (w : List Ft) (now : Int) (hl : l.length <= 1000000) (hw : w.length <= 1000000) (hv : ∀ v ∈ w, v.col.length <= 8) (hn : n <= 3) : List Int := (got (Pc l n w now hl hw hv hn)).choose
theorem Ab6 (l : List Em) (n : Int) (w : List Ft) (now : Int) (hl : l.length <= 1000000) (hw : w.length <= 1000000) (hv : ∀ v ∈ w, v.col.length <= 8) (hn : n <= 3) : PP 156 [] [.mReq l, .li n, .mView w, .li now] [] (.mY (I4 l n w now hl hw hv hn)) := (got (Pc l n w now hl hw hv hn)).choose_spec.1
theorem Acz (l : List Em) (n : Int) (w : List Ft) (now : Int) (hl : l.length <= 1000000) (hw : w.length <= 1000000) (hv : ∀ v ∈ w, v.col.length <= 8) (hn : n <= 3) : (I4 l n w now hl hw hv hn).length = (n * 3).toNat := (got (Pc l n w now hl hw hv hn)).choose_spec.2
theorem Aea (a : List Int) (b : List Int) (h1 : a.length <= 1000000) (h2 : b.length <= 1000000) : Ct 229 [.mY a, .mY b] (fun d : Bool => .lb d) (fun d => True) := by
 refine Ek Tryz.func229 ?_
 refine Bq ?_
 refine B3 (fun K kk => by simp [go_sem, Add]; exact kk) ?_
 refine Bz (Ex ?_); simp [go_sem]
 exact ⟨_, by first | rfl | simp [go_sem], trivial⟩
theorem Ai8 {l : List Fi} {i : Nat} {x : Fi} (h : ∀ t ∈ l, t.sec.length <= 1000000) (hx : x.sec.length <= 1000000) : ∀ t ∈ l.set i x, t.sec.length <= 1000000 := fun t ht => by
 rcases Bi ht with h1 | h1
 ·exact h t h1
 subst h1; exact hx
theorem Ao9 {n : Nat} {a b c d : Int} {u : Bool} : ∀ t ∈ List.replicate n (⟨u, [], a, b, c, d⟩ : Fi), t.sec.length <= 1000000 := fun t ht => by
 rw [(List.mem_replicate.1 ht).2]
 simp
theorem Qr (a : TAg) (h : a.sec.length <= 1000000) : ∃ d : List Fi, PP 111 [] [a.g] [.row 73 6 false false (M9 d)] (.own 0 d.length) /\ (d.length = 8 /\ ∀ t ∈ d, t.sec.length <= 1000000) := by
 refine Mi (D := List Fi) (F := fun d => .own 0 d.length) (S := fun d => [.row 73 6 false false (M9 d)]) (Q := fun d => d.length = 8 /\ ∀ t ∈ d, t.sec.length <= 1000000) Tryz.func111 rfl rfl rfl (by simp [Tryz.ntmps111]) ?_
 refine Bq ?_
 refine Bu ok0 <| .seq ?_
 refine Bq <| .block ?_
 refine Bs 8 (fun i1 (y1 : (List Fi)) => ⟨[(1, .ptr 0 0), (3, .own 1 y1.length), (7, .li 8), (8, .li i1)], [.box 60 [.mY a.sec, .li a.ri, .li a.cls, .mI a.lims, .li a.rq, .li a.se, .li a.ra, .li a.bu], .row 73 6 false false (M9 y1)]⟩) (fun i1 y1 => y1.length = 8 /\ ∀ t ∈ y1, t.sec.length <= 1000000) (List.replicate 8 ⟨false, [], 0, 0, 0, 0⟩) (wk ok0 [0, 1]) (⟨rfl, Ao9⟩) fun i1 y1 hi1 hy1 => ?_
 refine Bq <| .seq ?_
 refine Br ?_ ?_ <;> intro h9
 ·refine Bp <| .seq <| .block <| .R ?_
  obtain ⟨e1, H1⟩ := gx y1 i1
  refine Do H1 (Sd) ?_
  refine B0 H1 ?_
  exact ⟨by omega, ((y1).set i1 Pp), ⟨by simp; omega, Ai8 hy1.2 (by simp [Pp])⟩, wk (cj2 (Dt ((i1 : Int) + 1)) H1) [0, 1]⟩
 refine Bt ?_
 obtain ⟨e2, H2⟩ := gx y1 0
 refine Cz (fun K kk => by simp [go_sem, H2]; refine .lo (Ei.froz (Ee _ (by first | (simp; omega) | (simp; assumption)) (by first | (simp [T.plain]; done) | (rw [Am]; intro e he; repeat (first | replace he := Aq he | replace he := Ay he); obtain ⟨x, _, rfl⟩ := A4.1 he; rfl)))) rfl (by simp [AV.cln, Ez]) ?_; simp [go_sem, H2]; (repeat first | exact kk | refine aK ?_)) ?_
 refine Bu H2 ?_
 exact .ret ⟨(y1).set 0 ⟨true, a.sec, (-1), a.ri, a.cls, 0⟩, rW H2 [1], ⟨by simp; omega, Ai8 hy1.2 h⟩⟩
noncomputable def Jc (a : TAg) (h : a.sec.length <= 1000000) : List Fi := (Qr a h).choose
theorem Aef (a : TAg) (h : a.sec.length <= 1000000) : PP 111 [] [a.g] [.row 73 6 false false (M9 (Jc a h))] (.own 0 (Jc a h).length) := (Qr a h).choose_spec.1
theorem Ail (a : TAg) (h : a.sec.length <= 1000000) : PP 111 [] [a.g] [] (.mTok (Jc a h)) := (Aef a h).frozA (by simp [go_sem])
theorem Ajl (a : TAg) (h : a.sec.length <= 1000000) : (Jc a h).length = 8 /\ ∀ t ∈ (Jc a h), t.sec.length <= 1000000 := (Qr a h).choose_spec.2
theorem La (l : List Fi) (hl : l.length <= 1000000) (ht : ∀ t ∈ l, t.sec.length <= 1000000) : PP 183 [] [.mTok l] [.row 73 6 false false (M9 l)] (.own 0 l.length) := by
 refine Eb Tryz.func183 ?_
 refine Bw ?_
 refine Ce (fun K kk => by simp [go_sem]; refine .lo (Q5 _ (by simpa using hl)) rfl (by simp) ?_; simp [go_sem]; exact kk) <| .seq ?_
 refine Bw <| .block ?_
 refine Cc l.length (fun i1 => ⟨[(3, .own 0 l.length), (8, .li l.length), (9, .li i1)], [.row 73 6 false false (M9 l)]⟩) (wk ok0 [0]) fun i1 hi1 => ?_
 refine Bw <| .seq ?_
 refine B7 ?_ ?_ <;> intro h10
 ·have hx : l[i1]? = some l[i1] := Aa h10
  generalize l[i1] = t at hx
  have hs := Ga (f := Fi.t) hx
  simp only [Fi.t] at hs
  refine Bv <| .seq <| .block <| .R ?_
  refine VW.S1 (fun K kk => by simp [go_sem, hx, hs]; (repeat refine aK ?_); refine .lo (Ei.froz (Ee _ (by simpa using ht t (Ac hx)) (by simp [T.plain]))) rfl (by simp) ?_; simp [go_sem, hx, hs]; (repeat first | exact kk | refine aK ?_)) ?_
  refine Cl ?_
  refine ⟨by omega, [0], Ds (by decide) ?_ ?_, by simp⟩
  ·simp [go_sem, Dt ((i1 : Int) + 1)]
  simp [go_sem]
 refine B5 <| .R ?_
 exact .ret (rW ok0 [0])
theorem M8 (x : Jx) (hb : Re x) : PP 165 [] [x.g] [] (x.g) := by
 refine Eb Tryz.func165 ?_
 have hb1 := hb.toks
 refine Bw ?_
 refine Df ok0 (Ma x.ag hb.sec hb.lims) ?_
 refine Ce (fun K kk => by simp [go_sem]; refine .lo (Q5 _ (by simpa using hb.toks)) rfl (by simp) ?_; simp [go_sem]; exact kk) <| .seq ?_
 refine Bw <| .block ?_
 refine Cc x.toks.length (fun i1 => ⟨[(1, .ptr 0 0), (2, .ptr 1 0), (14, .li x.toks.length), (15, .li i1)], [.box 66 [.li x.num, .mY x.ag.sec, .li x.ag.ri, .li x.ag.cls, .mI x.ag.lims, .li x.ag.rq, .li x.ag.se, .li x.ag.ra, .li x.ag.bu, .own 2 x.toks.length, .mVeh x.vehs, .li x.bk.lv, .li x.bk.ra, .li x.bk.bu], .box 66 [.li 0, .nil 1, .li 0, .li 0, .nil 1, .li 0, .li 0, .li 0, .li 0, .nil 6, .nil 2, .li 0, .li 0, .li 0], .row 73 6 false false (M9 x.toks)]⟩) (wk ok0 [0, 1, 2]) fun i1 hi1 => ?_
 refine Bw <| .seq ?_
 refine B7 ?_ ?_ <;> intro h16
 ·have hx : x.toks[i1]? = some x.toks[i1] := Aa h16
  generalize x.toks[i1] = t at hx
  have hs := Ga (f := Fi.t) hx
  simp only [Fi.t] at hs
  refine Bv <| .seq <| .block <| .R ?_
  refine VW.E1 (fun K kk => by simp [go_sem, hx, hs]; (repeat refine aK ?_); refine .lo (Ei.froz (Ee _ (by simpa using hb.tsec t (Ac hx)) (by simp [T.plain]))) rfl (by simp) ?_; simp [go_sem, hx, hs]; (repeat first | exact kk | refine aK ?_)) ?_
  refine Cl ?_
  refine ⟨by omega, [0, 1, 2], Ds (by decide) ?_ ?_, by simp⟩
  ·simp [go_sem, Dt ((i1 : Int) + 1)]
  simp [go_sem]
 refine B5 ?_
 refine Ch 2 (by simp [go_sem, Fp]) ?_
 simp [go_sem]
 refine Ce (fun K kk => by simp [go_sem]; refine .lo (Ei.froz (S8 _ (by simpa using hb.vehs) (by simp [T.plain, Gm.t]))) rfl (by simp) ?_; simp [go_sem]; exact kk) ?_
 refine Bw ?_
 exact .ret (rL h16)
theorem Aty {l : List Fi} {s : Int} {t : Fi} (h : Wp l s 0 = true) (hs : s ≠ 0) (ht : l[s.toNat]? = some t) : 0 <= t.par /\ t.par < l.length := by
 unfold Wp Tc at h
 rw [Pq] at h
 split at h
 ·rw [List.contains_cons] at h
  have e : (0 == s) = false := by simpa using fun e => hs e.symm
  rw [e, Bool.false_or, Pq] at h
  split at h
  ·rename_i hu
   have hp : Ai2 l s = t.par := by simp [Ai2, ht]
   rw [hp] at hu
   obtain ⟨h0, t', h1, _⟩ := Po hu
   have := (Ab.1 h1).1
   omega
  simp at h
 simp at h
theorem Kw (l : List Fi) (hl : l.length <= 1000000) (ht : ∀ t ∈ l, t.sec.length <= 1000000) : Ct 253 [.mTok l] (fun d : Bool => .lb d) (fun d => d = true -> l.length = 8) := by
 refine Ek Tryz.func253 ?_
 refine Bq <| .seq ?_
 refine Bq ?_
 refine Br ?_ ?_ <;> intro h9
 ·refine Bq ?_
  exact .ret (fin ok0 false (by first | (intro _; omega) | (simp; done)))
 refine Bp ?_
 obtain ⟨e1, H1⟩ := gx l 0
 refine Bu H1 <| .seq ?_
 refine B4 (by rfl) fun K1 hK1 => ?_
 simp [go_sem, H1]
 refine RCG ?_
 simp [go_sem, H1]
 first | refine .lo (Vv e1) rfl (by simp [AV.cln, Ez]) ?_ | refine .skip ?_
 simp [go_sem, H1]
 refine hK1 _ ?_; clear hK1
 refine Br ?_ ?_ <;> intro h30
 ·refine Bu H1 ?_
  exact .ret (fin H1 false (by first | (intro _; omega) | (simp; done)))
 refine Bp <| .seq <| .H H1 <| .block ?_
 refine Cj (fun (y1 : Int) => ⟨[(0, .mTok l), (4, .li y1)], []⟩) (fun y1 => 1 <= y1 /\ y1 <= l.length) (fun y1 => (l.length - y1).toNat) (1) (wk H1 []) (by omega) fun y1 hy1 => ?_
 refine Ca <| .H H1 ?_
 refine Br ?_ ?_ <;> intro h34
 ·refine Bp <| .seq <| .block ?_
  obtain ⟨e2, H2⟩ := gx l y1.toNat
  refine Bu (cj2 H1 H2) <| .seq ?_
  refine Bu (cj2 H1 H2) ?_
  refine Br ?_ ?_ <;> intro h43
  ·refine Ca <| .L (cj2 H1 H2) (Ab4 e2) ?_
   refine Br ?_ ?_ <;> intro h46
   ·refine Bu (cj2 H1 H2) ?_
    exact .ret (fin (cj2 H1 H2) false (by first | (intro _; omega) | (simp; done)))
   refine Bp <| .exit ?_
   have hw3 := Dt (y1 + 1 : Int)
   refine B0 (cj3 H1 H2 hw3) ?_
   refine ⟨((y1 + 1)), ?_, ?_, [], Ds (by decide) ?_ ?_, by simp⟩
   ·omega
   ·omega
   all_goals simp [go_sem, H1, H2, hw3]
  refine Bp <| .seq ?_
  refine B4 (by rfl) fun K1 hK1 => ?_
  simp [go_sem, H1, H2]
  refine .l (Vv e2) ?_
  simp [go_sem, H1, H2]
  refine RCG ?_
  simp [go_sem, H1, H2]
  first | refine .lo (Rm l y1 0) rfl (by simp [AV.cln, Ez]) ?_ | refine .skip ?_
  simp [go_sem, H1, H2]
  refine hK1 _ ?_; clear hK1
  refine Br ?_ ?_ <;> intro h55
  ·refine Bu (cj2 H1 H2) ?_
   exact .ret (fin (cj2 H1 H2) false (by first | (intro _; omega) | (simp; done)))
  have hpar := Aty (t := e2) (by first | exact h55.2 | exact h55) (by omega) H2
  refine Bp ?_
  obtain ⟨e4, H4⟩ := gx l e2.par.toNat
  refine Bu (cj3 H1 H2 H4) ?_
  refine B4 (by rfl) fun K1 hK1 => ?_
  simp [go_sem, H1, H2, H4]
  refine .l (S5 e2.ri e4.ri) ?_
  simp [go_sem, H1, H2, H4]
  refine RCG ?_
  simp [go_sem, H1, H2, H4]
  first | refine .lo (Q2 e2.unt e4.unt) rfl (by simp [AV.cln, Ez]) ?_ | refine .skip ?_
  simp [go_sem, H1, H2, H4]
  refine hK1 _ ?_; clear hK1
  refine Br ?_ ?_ <;> intro h80
  ·refine Bu (cj3 H1 H2 H4) ?_
   exact .ret (fin (cj3 H1 H2 H4) false (by first | (intro _; omega) | (simp; done)))
  refine Bp ?_
  have hw5 := Dt (y1 + 1 : Int)
  refine B0 (cj4 H1 H2 H4 hw5) ?_
  refine ⟨((y1 + 1)), ?_, ?_, [], Ds (by decide) ?_ ?_, by simp⟩
  ·omega
  ·omega
  all_goals simp [go_sem, H1, H2, H4, hw5]
 refine Bt <| .H H1 ?_
 exact .ret (fin H1 true (by first | (intro _; omega) | (simp; done)))
noncomputable def V4 (l : List Fi) (hl : l.length <= 1000000) (ht : ∀ t ∈ l, t.sec.length <= 1000000) : Bool := (got (Kw l hl ht)).choose
theorem Aee (l : List Fi) (hl : l.length <= 1000000) (ht : ∀ t ∈ l, t.sec.length <= 1000000) : PP 253 [] [.mTok l] [] (.lb (V4 l hl ht)) := (got (Kw l hl ht)).choose_spec.1
theorem Aes (l : List Fi) (hl : l.length <= 1000000) (ht : ∀ t ∈ l, t.sec.length <= 1000000) : (V4 l hl ht) = true -> l.length = 8 := (got (Kw l hl ht)).choose_spec.2
theorem Kb {l : List Fi} {i : Nat} {x : Fi} (h : ∀ t ∈ l, t.sec.length <= 1000000) (hx : x.sec.length <= 1000000) : ∀ t ∈ l.set i x, t.sec.length <= 1000000 := fun t ht => by
 rcases Bi ht with h1 | h1
 ·exact h t h1
 subst h1; exact hx
theorem Pb (l : List Fi) (p : Int) (ri : Int) (c : Int) (life : Int) (sec : List Int) (now : Int) (hl : l.length <= 1000000) (ht : ∀ t ∈ l, t.sec.length <= 1000000) (hs : sec.length <= 1000000) : Ct 256 [.mTok l, .li p, .li ri, .li c, .li life, .mY sec, .li now] (fun d : List Fi × Int × Int => .tup [.mTok d.1, .li d.2.1, .li d.2.2]) (fun d => d.1.length <= l.length /\ (∀ t ∈ d.1, t.sec.length <= 1000000)) := by
 refine Ek Tryz.func256 ?_
 have hi := Ade (fun t : Fi => !t.used) l
 refine Bq <| .seq ?_
 obtain ⟨Y1, cY1, qY1⟩ := got (Kw l (by first | assumption | omega) (by first | assumption | omega))
 refine B8 ok0 cY1 ?_
 refine Br ?_ ?_ <;> intro h36
 ·refine Bq ?_
  exact .ret (fin ok0 ([], 0, 1) (by first | exact ⟨by simp, Kb ht (by exact hs)⟩ | exact ⟨Ae _, fun t h => absurd h A8⟩))
 refine Bp <| .seq <| .L ok0 (O3 l p) ?_
 refine Br ?_ ?_ <;> intro h40
 ·refine Bq ?_
  exact .ret (fin ok0 ([], 0, 12) (by first | exact ⟨by simp, Kb ht (by exact hs)⟩ | exact ⟨Ae _, fun t h => absurd h A8⟩))
 obtain ⟨hp0, tp, hp1, _⟩ := Po (by simpa using h40)
 have hp2 := (Ab.1 hp1).1
 refine Bp ?_
 obtain ⟨e1, H1⟩ := gx l p.toNat
 refine Bu H1 <| .seq ?_
 refine B8 H1 (S5 ri e1.ri) ?_
 refine Br ?_ ?_ <;> intro h67
 ·refine Bu H1 ?_
  exact .ret (fin H1 ([], 0, 8) (by first | exact ⟨by simp, Kb ht (by exact hs)⟩ | exact ⟨Ae _, fun t h => absurd h A8⟩))
 refine Bp <| .H H1 <| .seq ?_
 refine Bu H1 ?_
 refine Br ?_ ?_ <;> intro h69
 ·refine B0 H1 <| .seq ?_
  refine B8 H1 (Q2 (IntKind.i64.wrap (now + life)) e1.unt) ?_
  refine Br ?_ ?_ <;> intro h76
  ·refine Bu H1 ?_
   exact .ret (fin H1 ([], 0, 8) (by first | exact ⟨by simp, Kb ht (by exact hs)⟩ | exact ⟨Ae _, fun t h => absurd h A8⟩))
  refine Bp <| .S (fun K kk => by simp [go_sem, H1]; refine .lo (Qb l _ [] (fun t => !t.used) hl Rx Rn) (by simp [go_sem]) (by simp [AV.cln, Ez]) ?_; simp [go_sem, H1]; exact kk) <| .seq ?_
  refine Bu H1 ?_
  refine Br ?_ ?_ <;> intro h80
  ·refine Bu H1 ?_
   exact .ret (fin H1 ([], 0, 10) (by first | exact ⟨by simp, Kb ht (by exact hs)⟩ | exact ⟨Ae _, fun t h => absurd h A8⟩))
  refine Bp <| .L H1 (La l (by first | assumption | omega) (by first | assumption | omega)) ?_
  obtain ⟨e2, H2⟩ := gx l ((Hi (fun t : Fi => !t.used) l).toNat)
  refine B3 (fun K kk => by simp [go_sem, H1, H2]; refine .lo (Ei.froz (Ee _ (by first | (simp; omega) | (simp; assumption)) (by simp [T.plain]))) rfl (by simp [AV.cln, Ez]) ?_; simp [go_sem, H1, H2]; (repeat first | exact kk | refine aK ?_)) ?_
  refine Bu (cj2 H1 H2) ?_
  refine B2 ok0 1 ?_
  exact .ret (fin (cj2 H1 H2) ((l).set ((Hi (fun t : Fi => !t.used) l).toNat) ⟨true, sec, p, ri, c, IntKind.i64.wrap (now + life)⟩, (Hi (fun t : Fi => !t.used) l), 0) (by first | exact ⟨by simp, Kb ht (by exact hs)⟩ | exact ⟨Ae _, fun t h => absurd h A8⟩))
 refine Bp <| .seq <| .L H1 (Q2 0 e1.unt) ?_
 refine Br ?_ ?_ <;> intro h76
 ·refine Bu H1 ?_
  exact .ret (fin H1 ([], 0, 8) (by first | exact ⟨by simp, Kb ht (by exact hs)⟩ | exact ⟨Ae _, fun t h => absurd h A8⟩))
 refine Bp <| .S (fun K kk => by simp [go_sem, H1]; refine .lo (Qb l _ [] (fun t => !t.used) hl Rx Rn) (by simp [go_sem]) (by simp [AV.cln, Ez]) ?_; simp [go_sem, H1]; exact kk) <| .seq ?_
 refine Bu H1 ?_
 refine Br ?_ ?_ <;> intro h80
 ·refine Bu H1 ?_
  exact .ret (fin H1 ([], 0, 10) (by first | exact ⟨by simp, Kb ht (by exact hs)⟩ | exact ⟨Ae _, fun t h => absurd h A8⟩))
 refine Bp <| .L H1 (La l (by first | assumption | omega) (by first | assumption | omega)) ?_
 obtain ⟨e3, H3⟩ := gx l ((Hi (fun t : Fi => !t.used) l).toNat)
 refine B3 (fun K kk => by simp [go_sem, H1, H3]; refine .lo (Ei.froz (Ee _ (by first | (simp; omega) | (simp; assumption)) (by simp [T.plain]))) rfl (by simp [AV.cln, Ez]) ?_; simp [go_sem, H1, H3]; (repeat first | exact kk | refine aK ?_)) ?_
 refine Bu (cj2 H1 H3) ?_
 refine B2 ok0 1 ?_
 exact .ret (fin (cj2 H1 H3) ((l).set ((Hi (fun t : Fi => !t.used) l).toNat) ⟨true, sec, p, ri, c, 0⟩, (Hi (fun t : Fi => !t.used) l), 0) (by first | exact ⟨by simp, Kb ht (by exact hs)⟩ | exact ⟨Ae _, fun t h => absurd h A8⟩))
noncomputable def F5 (l : List Fi) (p : Int) (ri : Int) (c : Int) (life : Int) (sec : List Int) (now : Int) (hl : l.length <= 1000000) (ht : ∀ t ∈ l, t.sec.length <= 1000000) (hs : sec.length <= 1000000) : List Fi × Int × Int := (got (Pb l p ri c life sec now hl ht hs)).choose
theorem T3 (l : List Fi) (p : Int) (ri : Int) (c : Int) (life : Int) (sec : List Int) (now : Int) (hl : l.length <= 1000000) (ht : ∀ t ∈ l, t.sec.length <= 1000000) (hs : sec.length <= 1000000) : PP 256 [] [.mTok l, .li p, .li ri, .li c, .li life, .mY sec, .li now] [] (.tup [.imm false 6 (M9 (F5 l p ri c life sec now hl ht hs).1), .lit (.int .i64 (F5 l p ri c life sec now hl ht hs).2.1), .lit (.int .i64 (F5 l p ri c life sec now hl ht hs).2.2)]) := (got (Pb l p ri c life sec now hl ht hs)).choose_spec.1
theorem Acy (l : List Fi) (p : Int) (ri : Int) (c : Int) (life : Int) (sec : List Int) (now : Int) (hl : l.length <= 1000000) (ht : ∀ t ∈ l, t.sec.length <= 1000000) (hs : sec.length <= 1000000) : (F5 l p ri c life sec now hl ht hs).1.length <= l.length /\ (∀ t ∈ (F5 l p ri c life sec now hl ht hs).1, t.sec.length <= 1000000) := (got (Pb l p ri c life sec now hl ht hs)).choose_spec.2
theorem Abw (l : List Fi) (slot : Int) (hl : l.length <= 1000000) (ht : ∀ t ∈ l, t.sec.length <= 1000000) : Ct 234 [.mTok l, .li slot] (fun d : List Fi × Int => .tup [.mTok d.1, .li d.2]) (fun d => d.1.length <= l.length /\ (∀ t ∈ d.1, t.sec.length <= 1000000)) := by
 refine Ek Tryz.func234 ?_
 refine Bq <| .seq ?_
 refine B8 ok0 (Aee l (by first | assumption | omega) (by first | assumption | omega)) ?_
 refine Br ?_ ?_ <;> intro h10
 ·refine Bq ?_
  refine Bz (Ex ?_); simp [go_sem]
  exact ⟨([], 1), by first | rfl | simp [go_sem], (by first | exact ⟨Nat.le_of_eq hy1.1, hy1.2⟩ | exact ⟨Ae _, fun t h => absurd h A8⟩)⟩
 have h8 := Aes l hl ht (by simpa using h10)
 refine Bp <| .seq <| .R ?_
 refine Br ?_ ?_ <;> intro h16
 ·refine Bq ?_
  refine Bz (Ex ?_); simp [go_sem]
  exact ⟨([], 8), by first | rfl | simp [go_sem], (by first | exact ⟨Nat.le_of_eq hy1.1, hy1.2⟩ | exact ⟨Ae _, fun t h => absurd h A8⟩)⟩
 refine Bp <| .seq ?_
 obtain ⟨e1, H1⟩ := gx l slot.toNat
 refine Bu H1 ?_
 refine Br ?_ ?_ <;> intro h22
 ·refine Bu H1 ?_
  refine Bz (Ex ?_); simp [go_sem, H1]
  exact ⟨([], 12), by first | rfl | simp [go_sem], (by first | exact ⟨Nat.le_of_eq hy1.1, hy1.2⟩ | exact ⟨Ae _, fun t h => absurd h A8⟩)⟩
 refine Bp <| .L H1 (La l (by first | assumption | omega) (by first | assumption | omega)) <| .seq ?_
 refine Bu H1 <| .block ?_
 refine Bs l.length (fun i1 (y1 : (List Fi)) => ⟨[(0, .mTok l), (1, .li slot), (6, .own 0 y1.length), (26, .li l.length), (27, .li i1)], [.row 73 6 false false (M9 y1)]⟩) (fun i1 y1 => y1.length = l.length /\ ∀ t ∈ y1, t.sec.length <= 1000000) (l) ⟨[0], Ds (by decide) ?_ ?_, by simp⟩ (⟨rfl, ht⟩) fun i1 y1 hi1 hy1 => ?_
 ·simp [go_sem, H1]
 ·simp [go_sem, H1]
 refine Bu H1 <| .seq ?_
 refine Br ?_ ?_ <;> intro h28
 ·refine Bp <| .seq <| .block <| .H H1 ?_
  refine B8 H1 (Rm l i1 slot) ?_
  refine Br ?_ ?_ <;> intro h33
  ·obtain ⟨e2, H2⟩ := gx y1 i1
   refine Do (cj2 H1 H2) (Sd) ?_
   refine B0 (cj2 H1 H2) ?_
   refine ⟨by omega, ((y1).set i1 Pp), ?_, [0], Ds (by decide) ?_ ?_, by simp⟩
   ·first | exact hy1 | exact ⟨(List.length_set ..).trans hy1.1, Kb hy1.2 (by simp [Pp])⟩
   all_goals simp [go_sem, Dt ((i1 : Int) + 1), H1, H2]
  refine Bp <| .H1 H1 ?_
  refine ⟨by omega, (y1), ?_, [0], Ds (by decide) ?_ ?_, by simp⟩
  ·first | exact hy1 | exact ⟨(List.length_set ..).trans hy1.1, Kb hy1.2 (by simp [Pp])⟩
  all_goals simp [go_sem, Dt ((i1 : Int) + 1), H1]
 refine Bt <| .H H1 ?_
 refine Dg 0 ?_
 simp [go_sem]
 refine Bz (Ex ?_); simp [go_sem, H1]
 exact ⟨(y1, 0), by first | rfl | simp [go_sem], (by first | exact ⟨Nat.le_of_eq hy1.1, hy1.2⟩ | exact ⟨Ae _, fun t h => absurd h A8⟩)⟩
theorem Ph (m : Dz) (h : 1 <= m.args.length) (h2 : m.args.length <= 1000000) : Ct 235 [m.g] (fun d : Dz => d.g) (fun d => d.kind = 14 /\ d.tok = [] /\ d.data = [] /\ d.args.length = 2) := by
 refine Ek Tryz.func235 ?_
 refine Bq ?_
 obtain ⟨e1, H1⟩ := gx m.args 0
 refine C8 H1 ?_
 refine B2 ok0 2 ?_
 exact .ret (fin H1 ⟨14, [], [m.kind, e1], []⟩ (by simp))
noncomputable def G0 (m : Dz) (h : 1 <= m.args.length) (h2 : m.args.length <= 1000000) : Dz := (got (Ph m h h2)).choose
theorem Pn (m : Dz) (h : 1 <= m.args.length) (h2 : m.args.length <= 1000000) : PP 235 [] [m.g] [] (.agg ((G0 m h h2).a false)) := (got (Ph m h h2)).choose_spec.1
theorem Ac0 (m : Dz) (h : 1 <= m.args.length) (h2 : m.args.length <= 1000000) : (G0 m h h2).kind = 14 /\ (G0 m h h2).tok = [] /\ (G0 m h h2).data = [] /\ (G0 m h h2).args.length = 2 := (got (Ph m h h2)).choose_spec.2
theorem Pi (n : Int) (a : TAg) (h1 : a.sec.length <= 1000000) (h2 : a.lims.length <= 1000000) : Ct 82 [.li n, a.g] (fun d : Jx => d.g) (fun d => d.num = n /\ d.ag = a /\ d.toks = Jc a h1 /\ d.vehs = [] /\ d.bk = Ajc a.ra a.bu) := by
 refine Ek Tryz.func82 ?_
 refine Bq ?_
 refine Cz (fun K kk => by simp [go_sem]; refine .l (Ma a (by first | assumption | omega) (by first | assumption | omega)) ?_; simp [go_sem]; refine .l (Ail a (by first | assumption | omega)) ?_; simp [go_sem]; refine .l (Ak7 a.ra a.bu) ?_; simp [go_sem]; exact kk) ?_
 exact .ret (fin ok0 ⟨n, a, (Jc a (by first | assumption | omega)), [], (Ajc a.ra a.bu)⟩ ⟨rfl, rfl, rfl, rfl, rfl⟩)
noncomputable def Gh (n : Int) (a : TAg) (h1 : a.sec.length <= 1000000) (h2 : a.lims.length <= 1000000) : Jx := (got (Pi n a h1 h2)).choose
theorem Ab7 (n : Int) (a : TAg) (h1 : a.sec.length <= 1000000) (h2 : a.lims.length <= 1000000) : PP 82 [] [.li n, a.g] [] (.agg ((Gh n a h1 h2).a false)) := (got (Pi n a h1 h2)).choose_spec.1
theorem Ac1 (n : Int) (a : TAg) (h1 : a.sec.length <= 1000000) (h2 : a.lims.length <= 1000000) : (Gh n a h1 h2).num = n /\ (Gh n a h1 h2).ag = a /\ (Gh n a h1 h2).toks = Jc a h1 /\ (Gh n a h1 h2).vehs = [] /\ (Gh n a h1 h2).bk = Ajc a.ra a.bu := (got (Pi n a h1 h2)).choose_spec.2
theorem Ad1 (l : List Fi) (ag : Int) (b : List Int) (kind : Int) (now : Int) (hl : l.length <= 1000000) (ht : ∀ t ∈ l, t.sec.length <= 1000000) (hb : b.length <= 1000000) : Ct 208 [.mTok l, .li ag, .mY b, .li kind, .li now] (fun d : Int × Int => .tup [.li d.1, .li d.2]) (fun d => d.2 = 0 -> Gg l d.1 = true) := by
 refine Ek Tryz.func208 ?_
 refine Bq <| .seq ?_
 by_cases hc1 : b.length = 10
 ·have hg1 : ((b.length : Int) != 10) = false := by simp [hc1]
  obtain ⟨e1, H1⟩ := gx b 0
  refine Bu (cj2 hg1 H1) ?_
  refine Br ?_ ?_ <;> intro h24
  ·refine Bu (cj2 hg1 H1) ?_
   exact .ret (fin (cj2 hg1 H1) (0, 9) (by first | exact fun _ => h32 | (intro h; simp at h; done)))
  refine Bp ?_
  obtain ⟨e2, H2⟩ := gx b 1
  refine Bu (cj3 hg1 H1 H2) <| .seq ?_
  refine B8 (cj3 hg1 H1 H2) (O3 l (IntKind.i64.wrap e2)) ?_
  refine Br ?_ ?_ <;> intro h32
  ·refine Bu (cj3 hg1 H1 H2) ?_
   exact .ret (fin (cj3 hg1 H1 H2) (0, 9) (by first | exact fun _ => h32 | (intro h; simp at h; done)))
  obtain ⟨hp0, tp, hp1, hp2⟩ := Po (by simpa using h32)
  have hp3 := (Ab.1 hp1).1
  refine Bp ?_
  obtain ⟨e3, H3⟩ := gx l ((IntKind.i64.wrap e2).toNat)
  refine Bu (cj4 hg1 H1 H2 H3) <| .seq ?_
  refine C9 (by kernel_rfl) (by rfl) (by kernel_rfl) fun K1 hK1 => ?_
  simp [go_sem, hg1, H1, H2, H3]
  repeat' with_reducible refine Ax ?_ ?_
  all_goals try (intros; (repeat' refine Ax ?_ ?_) <;> omega)
  obtain ⟨Y1, cY1, qY1⟩ := got (Aea (b.drop 2) e3.sec (by simp; omega) (ht e3 (Ac H3)))
  refine .lo cY1 (by simp [go_sem, Bf (show (tY b).length <= b.length by simp)]) (by simp [AV.cln, Ez]) ?_
  simp [go_sem, hg1, H1, H2, H3]
  refine Nl (by simp [go_sem]) (by simp [go_sem]) ?_
  simp [go_sem, hg1, H1, H2, H3]
  first | refine .lo (S4 e3 now) rfl (by simp [AV.cln, Ez]) ?_ | refine .skip ?_
  simp [go_sem, hg1, H1, H2, H3]
  refine Nl (by simp [go_sem]) (by simp [go_sem]) ?_
  simp [go_sem, hg1, H1, H2, H3]
  first | refine .lo (Yq e3.ri kind) rfl (by simp [AV.cln, Ez]) ?_ | refine .skip ?_
  simp [go_sem, hg1, H1, H2, H3]
  refine hK1 _ _ (by kernel_rfl) ?_; clear hK1
  refine Br ?_ ?_ <;> intro h54
  ·refine Bu (cj4 hg1 H1 H2 H3) ?_
   exact .ret (fin (cj4 hg1 H1 H2 H3) (0, 9) (by first | exact fun _ => h32 | (intro h; simp at h; done)))
  refine Bp <| .H (cj4 hg1 H1 H2 H3) ?_
  exact .ret (fin (cj4 hg1 H1 H2 H3) (IntKind.i64.wrap e2, 0) (by first | exact fun _ => h32 | (intro h; simp at h; done)))
 have hg1 : ((b.length : Int) != 10) = true := by simp [hc1]; omega
 refine Bu hg1 ?_
 refine C5 ?_ ?_ <;> intro h24 <;> simp [go_sem] at h24
 refine Bu hg1 ?_
 exact .ret (fin hg1 (0, 9) (by first | exact fun _ => h32 | (intro h; simp at h; done)))
theorem Yk (r : Jx) (hb : Re r) : Ct 231 [r.g] (fun d : Bool => .lb d) (fun d => True) := by
 refine Ek Tryz.func231 ?_
 refine Bq ?_
 refine B4 (by rfl) fun K1 hK1 => ?_
 simp +contextual [go_sem]
 refine RCG ?_
 simp +contextual [go_sem]
 first | refine .lo (Vw r.ag hb.sec hb.lims) rfl (by simp [AV.cln, Ez]) ?_ | refine .skip ?_
 simp +contextual [go_sem]
 refine RCG ?_
 simp +contextual [go_sem]
 obtain ⟨Y1, cY1, qY1⟩ := got (Kw r.toks hb.toks hb.tsec)
 first | refine .lo cY1 rfl (by simp [AV.cln, Ez]) ?_ | refine .skip ?_
 simp +contextual [go_sem]
 refine RCG ?_
 simp +contextual [go_sem]
 obtain ⟨Y2, cY2, qY2⟩ := got (K7 r.vehs hb.vehs)
 first | refine .lo cY2 rfl (by simp [AV.cln, Ez]) ?_ | refine .skip ?_
 simp +contextual [go_sem]
 refine RCG ?_
 simp +contextual [go_sem]
 obtain ⟨Y3, cY3, qY3⟩ := got (Aga r.bk)
 first | refine .lo cY3 rfl (by simp [AV.cln, Ez]) ?_ | refine .skip ?_
 simp +contextual [go_sem]
 refine hK1 _ ?_; clear hK1
 refine Bz (Ex ?_); simp [go_sem]
 exact ⟨_, by first | rfl | simp [go_sem], trivial⟩
theorem N9 (r : Jx) (m : Dz) (now : Int) (hb : Re r) (h : m.tok.length <= 1000000) : Ct 188 [r.g, m.g, .li now] (fun d : Jx × Int × Int => .tup [d.1.g, .li d.2.1, .li d.2.2]) (fun d => d.2.2 = 0 -> (∃ bk, d.1 = { r with bk := bk }) /\ Gg r.toks d.2.1 = true) := by
 refine Ek Tryz.func188 ?_
 refine Bq ?_
 obtain ⟨Y1, cY1, qY1⟩ := got (Ad1 r.toks r.num m.tok m.kind now hb.toks hb.tsec h)
 refine B8 ok0 cY1 <| .seq ?_
 refine Bq ?_
 refine Br ?_ ?_ <;> intro h28
 ·refine Bq ?_
  exact .ret (fin ok0 (⟨0, ⟨[], 0, 0, [], 0, 0, 0, 0⟩, [], [], ⟨0, 0, 0⟩⟩, 0, 9) (by first | exact fun _ => ⟨⟨_, rfl⟩, qY1 (by simpa using h28)⟩ | (intro h; simp at h; done)))
 refine Bp <| .L ok0 (M8 r hb) <| .seq ?_
 refine Bq ?_
 refine Br ?_ ?_ <;> intro h39
 ·refine B8 ok0 (Ain r.bk) <| .seq ?_
  refine Bq ?_
  refine Br ?_ ?_ <;> intro h47
  ·refine Bq ?_
   exact .ret (fin ok0 (⟨0, ⟨[], 0, 0, [], 0, 0, 0, 0⟩, [], [], ⟨0, 0, 0⟩⟩, 0, 13) (by first | exact fun _ => ⟨⟨_, rfl⟩, qY1 (by simpa using h28)⟩ | (intro h; simp at h; done)))
  refine Bp <| .R1 ?_
  refine Bq ?_
  exact .ret (fin ok0 (⟨r.num, r.ag, r.toks, r.vehs, (Sj r.bk).1⟩, Y1.1, 0) (by first | exact fun _ => ⟨⟨_, rfl⟩, qY1 (by simpa using h28)⟩ | (intro h; simp at h; done)))
 refine Bp <| .R ?_
 exact .ret (fin ok0 (r, Y1.1, 0) (by first | exact fun _ => ⟨⟨_, rfl⟩, qY1 (by simpa using h28)⟩ | (intro h; simp at h; done)))
noncomputable def G6 (r : Jx) (m : Dz) (now : Int) (hb : Re r) (h : m.tok.length <= 1000000) : Jx × Int × Int := (got (N9 r m now hb h)).choose
theorem Aap (r : Jx) (m : Dz) (now : Int) (hb : Re r) (h : m.tok.length <= 1000000) : PP 188 [] [r.g, m.g, .li now] [] (.tup [.agg ((G6 r m now hb h).1.a false), .lit (.int .i64 (G6 r m now hb h).2.1), .lit (.int .i64 (G6 r m now hb h).2.2)]) := (got (N9 r m now hb h)).choose_spec.1
theorem Aa6 (r : Jx) (m : Dz) (now : Int) (hb : Re r) (h : m.tok.length <= 1000000) : (G6 r m now hb h).2.2 = 0 -> (∃ bk, (G6 r m now hb h).1 = { r with bk := bk }) /\ Gg r.toks (G6 r m now hb h).2.1 = true := (got (N9 r m now hb h)).choose_spec.2
theorem Vg (r : Jx) (l : List Int) (slot : Int) (hb : Re r) (hl : 2 <= l.length) (hl2 : l.length <= 1000000) (h0 : 0 <= slot) (h1 : slot < r.toks.length) : Ct 236 [r.g, .mI l, .li slot] (fun d : List Gm × Int => .tup [.mVeh d.1, .li d.2]) (fun d => d.1.length <= 9) := by
 refine Ek Tryz.func236 ?_
 iterate 2 refine Bq ?_
 obtain ⟨e1, H1⟩ := gx r.toks slot.toNat
 refine C8 H1 ?_
 obtain ⟨e2, H2⟩ := gx l 0
 obtain ⟨e3, H3⟩ := gx l 1
 obtain ⟨Y1, cY1, qY1⟩ := got (Wc r.vehs ⟨r.ag.sec, r.ag.ri, (if e1.cls < r.ag.cls then e1.cls else r.ag.cls), r.ag.lims, r.ag.rq, r.ag.se, r.ag.ra, r.ag.bu⟩ ⟨e2, e3⟩ hb.vehs)
 refine Da (cj3 H1 H2 H3) cY1 ?_
 exact .ret (fin (cj3 H1 H2 H3) (Y1.1, Y1.2) qY1)
theorem Yj (l : List Em) (i : Int) (hl : l.length <= 1000000) (hg : ∀ r ∈ l, r.legs.length <= 1000000) : Ct 214 [.mReq l, .li i] (fun d : List Em × Int => .tup [.mReq d.1, .li d.2]) (fun d => d.1.length <= l.length /\ ∀ r ∈ d.1, r.legs.length <= 1000000) := by
 refine Ek Tryz.func214 ?_
 refine Bq <| .seq ?_
 obtain ⟨Y1, cY1, qY1⟩ := got (N7 l 4 (by first | assumption | omega) (by first | assumption | omega))
 refine B8 ok0 cY1 ?_
 refine Br ?_ ?_ <;> intro h8
 ·refine Bq ?_
  exact .ret (fin ok0 ([], 1) (by first | exact ⟨Az _ _, fun r h => hg r ((Bn.1 h).1)⟩ | exact ⟨Ae _, fun t h => absurd h A8⟩))
 refine Bp <| .seq <| .L ok0 (Oj l i (by first | assumption | omega)) ?_
 refine Br ?_ ?_ <;> intro h12
 ·refine Bq ?_
  exact .ret (fin ok0 ([], 12) (by first | exact ⟨Az _ _, fun r h => hg r ((Bn.1 h).1)⟩ | exact ⟨Ae _, fun t h => absurd h A8⟩))
 refine Bp ?_
 refine VX.sel1 0 rfl rfl (by simp) ?_
 simp [go_sem, -Prod.exists]
 refine B3 (fun K kk => by simp [go_sem]; refine .lo (L9 l _ [.iptr false [.li i] 0] (fun r => r.id != i) hl hg (Uf _) (Wk i)) (by simp [go_sem]) (by simp [AV.cln, Ez]) ?_; simp [go_sem]; exact kk) ?_
 exact .ret (fin ok0 ((List.filter (fun r : Em => r.id != i) l), 0) (by first | exact ⟨Az _ _, fun r h => hg r ((Bn.1 h).1)⟩ | exact ⟨Ae _, fun t h => absurd h A8⟩))
end Go.Proofs.YtkkimgjinbaemaaGreat
