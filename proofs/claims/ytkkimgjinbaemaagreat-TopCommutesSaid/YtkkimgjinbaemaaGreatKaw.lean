/- The walk. -/
import Derived.Test.YtkkimgjinbaemaaGreatKav
namespace Go.Proofs.YtkkimgjinbaemaaGreat
open Go.RowKit
set_option linter.unusedVariables false
set_option linter.unusedSimpArgs false
set_option maxRecDepth 100000
set_option maxHeartbeats 4000000
section
variable {P : Program} {n m : Nat} {st s' : St} {K : Exit -> St -> Prop} {id : Nat} {l : List Oper} {y : Code}
theorem VX.R (h : VX P n m y s' K) (hr : ∀ K1 : St -> Prop, K1 s' -> runs P (Dg l) st K1 := by intro K k; simp [go_sem]; exact k) (hd : Cw n l = true := by rfl) : VX P n m (.seq (.region id l.toArray false) y) st K := .region_seq hd fun K1 h1 => hr K1 (h1 _ h)
theorem VX.R1 (h : K .normal s') (hr : ∀ K1 : St -> Prop, K1 s' -> runs P (Dg l) st K1 := by intro K k; simp [go_sem]; exact k) (hd : Cw n l = true := by rfl) : VX P n m (.region id l.toArray false) st K := .region1 hd fun K1 h1 => hr K1 (h1 _ h)
theorem VX.S (hr : ∀ K1 : St -> Prop, K1 s' -> runs P (Dg l) st K1) (h : VX P n m y s' K) (hd : Cw n l = true := by rfl) : VX P n m (.seq (.region id l.toArray false) y) st K := .region_seq hd fun K1 h1 => hr K1 (h1 _ h)
theorem VX.S1 (hr : ∀ K1 : St -> Prop, K1 s' -> runs P (Dg l) st K1) (h : K .normal s') (hd : Cw n l = true := by rfl) : VX P n m (.region id l.toArray false) st K := .region1 hd fun K1 h1 => hr K1 (h1 _ h)
theorem VX.D {tr : Tr} (h : VX P n m y s' K) (hr : ∀ K1 : Tr -> St -> Prop, K1 tr s' -> Dj P (Dg l) st [] K1 := by intro K k; simp [go_sem]; exact k) (hm : P.follows .mixedOrders = true := by kernel_rfl) (hd : Cw n l = true := by rfl) (hs : Fy l = true := by kernel_rfl) (hi : Mx l tr = true := by kernel_rfl) : VX P n m (.seq (.region id l.toArray true) y) st K := .draw_seq hm hd hs fun K1 h1 => hr K1 (h1 _ _ hi h)
theorem VX.E {tr : Tr} (hr : ∀ K1 : Tr -> St -> Prop, K1 tr s' -> Dj P (Dg l) st [] K1) (h : VX P n m y s' K) (hm : P.follows .mixedOrders = true := by kernel_rfl) (hd : Cw n l = true := by rfl) (hs : Fy l = true := by kernel_rfl) (hi : Mx l tr = true := by kernel_rfl) : VX P n m (.seq (.region id l.toArray true) y) st K := .draw_seq hm hd hs fun K1 h1 => hr K1 (h1 _ _ hi h)
theorem VX.E1 {tr : Tr} (hr : ∀ K1 : Tr -> St -> Prop, K1 tr s' -> Dj P (Dg l) st [] K1) (h : K .normal s') (hm : P.follows .mixedOrders = true := by kernel_rfl) (hd : Cw n l = true := by rfl) (hs : Fy l = true := by kernel_rfl) (hi : Mx l tr = true := by kernel_rfl) : VX P n m (.region id l.toArray true) st K := .draw1 hm hd hs fun K1 h1 => hr K1 (h1 _ _ hi h)
theorem VX.C {c : Operand} {x : Code} (ht : C4 (st.raw c).sv = true -> VX P n m x st K) (hf : C4 (st.raw c).sv = false -> VX P n m y st K) (hb : F7 (st.raw c).sv = true := by simp [go_sem]) (hs : (st.raw c).sb = true := by simp [go_sem]) : VX P n m (.cond c x y) st K := .cond hb hs ht hf
theorem VX.F (id : Nat) (hv : VX P n m y (st.freeze id) K) (h : Db (st.o id) = true := by simp [go_sem, Db]) : VX P n m y st K := .freeze id h hv
end
theorem Cb {P : Program} {f : FuncId} {fn : Func} {c : Code} {args : List AV} {Φ : AV -> Prop} {rs : List ResultVar} (hf : P.funcs[f]? = some fn) (h : VX P fn.ntmps 0 c ⟨E8 0 args, []⟩ (Aov P rs Φ)) (hb : fn.body = some c := by rfl) (hn : (fn.name == "runtime.NumGoroutine") = false := by rfl) (hrs : fn.results = rs.toArray := by rfl) (hk : args.length <= fn.ntmps := by exact Nat.le_of_ble_eq_true rfl) : ∃ res, B8 P f [] args [] res /\ Φ res := Apw hf hb hn hrs hk h
theorem Co {P : Program} {st : St} {rs : List ResultVar} {Φ : AV -> Prop} (h : Φ ((Jk P st rs).ren fun _ => none).low) (hc : S9 P st rs := by simp [go_sem]) : Aov P rs Φ .ret st := Am7 hc h
section
variable {P : Program} {n m : Nat} {st s' : St} {K : Exit -> St -> Prop} {id : Nat} {l : List Oper} {y : Code}
theorem VX.H {p : Prop} (e : p) (h : VX P n m y s' K) (hr : ∀ K1 : St -> Prop, p -> K1 s' -> runs P (Dg l) st K1 := by intro K e k; simp [go_sem, e]; (repeat first | exact k | refine aK ?_)) (hd : Cw n l = true := by rfl) : VX P n m (.seq (.region id l.toArray false) y) st K := .region_seq hd fun K1 h1 => hr K1 e (h1 _ h)
theorem VX.L {p : Prop} {f : FuncId} {args : List AV} {σr : List Ob} {res : AV} (e : p) (c : B8 P f [] args σr res) (h : VX P n m y s' K) (hr : ∀ K1 : St -> Prop, p -> B8 P f [] args σr res -> K1 s' -> runs P (Dg l) st K1 := by intro K e c k; simp [go_sem, e]; (repeat refine aK ?_); refine .l c ?_; simp [go_sem, e]; (repeat first | exact k | refine aK ?_)) (hd : Cw n l = true := by rfl) : VX P n m (.seq (.region id l.toArray false) y) st K := .region_seq hd fun K1 h1 => hr K1 e c (h1 _ h)
theorem VX.G {tr : Tr} {p : Prop} (e : p) (h : VX P n m y s' K) (hr : ∀ K1 : Tr -> St -> Prop, p -> K1 tr s' -> Dj P (Dg l) st [] K1 := by intro K e k; simp [go_sem, e]; (repeat first | exact k | refine aK ?_)) (hm : P.follows .mixedOrders = true := by kernel_rfl) (hd : Cw n l = true := by rfl) (hs : Fy l = true := by kernel_rfl) (hi : Mx l tr = true := by kernel_rfl) : VX P n m (.seq (.region id l.toArray true) y) st K := .draw_seq hm hd hs fun K1 h1 => hr K1 e (h1 _ _ hi h)
theorem VX.M {tr : Tr} {p : Prop} {f : FuncId} {args : List AV} {σr : List Ob} {res : AV} (e : p) (c : B8 P f [] args σr res) (h : VX P n m y s' K) (hr : ∀ K1 : Tr -> St -> Prop, p -> B8 P f [] args σr res -> K1 tr s' -> Dj P (Dg l) st [] K1 := by intro K e c k; simp [go_sem, e]; (repeat refine aK ?_); refine .l c ?_; simp [go_sem, e]; (repeat first | exact k | refine aK ?_)) (hm : P.follows .mixedOrders = true := by kernel_rfl) (hd : Cw n l = true := by rfl) (hs : Fy l = true := by kernel_rfl) (hi : Mx l tr = true := by kernel_rfl) : VX P n m (.seq (.region id l.toArray true) y) st K := .draw_seq hm hd hs fun K1 h1 => hr K1 e c (h1 _ _ hi h)
theorem VX.H1 {p : Prop} (e : p) (h : K .normal s') (hr : ∀ K1 : St -> Prop, p -> K1 s' -> runs P (Dg l) st K1 := by intro K e k; simp [go_sem, e]; (repeat first | exact k | refine aK ?_)) (hd : Cw n l = true := by rfl) : VX P n m (.region id l.toArray false) st K := .region1 hd fun K1 h1 => hr K1 e (h1 _ h)
theorem VX.L1 {p : Prop} {f : FuncId} {args : List AV} {σr : List Ob} {res : AV} (e : p) (c : B8 P f [] args σr res) (h : K .normal s') (hr : ∀ K1 : St -> Prop, p -> B8 P f [] args σr res -> K1 s' -> runs P (Dg l) st K1 := by intro K e c k; simp [go_sem, e]; (repeat refine aK ?_); refine .l c ?_; simp [go_sem, e]; (repeat first | exact k | refine aK ?_)) (hd : Cw n l = true := by rfl) : VX P n m (.region id l.toArray false) st K := .region1 hd fun K1 h1 => hr K1 e c (h1 _ h)
theorem VX.G1 {tr : Tr} {p : Prop} (e : p) (h : K .normal s') (hr : ∀ K1 : Tr -> St -> Prop, p -> K1 tr s' -> Dj P (Dg l) st [] K1 := by intro K e k; simp [go_sem, e]; (repeat first | exact k | refine aK ?_)) (hm : P.follows .mixedOrders = true := by kernel_rfl) (hd : Cw n l = true := by rfl) (hs : Fy l = true := by kernel_rfl) (hi : Mx l tr = true := by kernel_rfl) : VX P n m (.region id l.toArray true) st K := .draw1 hm hd hs fun K1 h1 => hr K1 e (h1 _ _ hi h)
theorem VX.M1 {tr : Tr} {p : Prop} {f : FuncId} {args : List AV} {σr : List Ob} {res : AV} (e : p) (c : B8 P f [] args σr res) (h : K .normal s') (hr : ∀ K1 : Tr -> St -> Prop, p -> B8 P f [] args σr res -> K1 tr s' -> Dj P (Dg l) st [] K1 := by intro K e c k; simp [go_sem, e]; (repeat refine aK ?_); refine .l c ?_; simp [go_sem, e]; (repeat first | exact k | refine aK ?_)) (hm : P.follows .mixedOrders = true := by kernel_rfl) (hd : Cw n l = true := by rfl) (hs : Fy l = true := by kernel_rfl) (hi : Mx l tr = true := by kernel_rfl) : VX P n m (.region id l.toArray true) st K := .draw1 hm hd hs fun K1 h1 => hr K1 e c (h1 _ _ hi h)
theorem fin {rs : List ResultVar} {p : Prop} {D : Type} {F : D -> AV} {Q : D -> Prop} (e : p) (d : D) (hq : Q d) (hf : p -> ((Jk P st rs).ren fun _ => none).low = F d := by intro e; simp [go_sem, e]) (hc : S9 P st rs := by simp [go_sem]) : Aov P rs (IsD F Q) .ret st := Am7 hc ⟨d, hf e, hq⟩
end
section
variable {P : Program} {n m : Nat} {st s' : St} {K : Exit -> St -> Prop} {y : Code}
theorem VX.Z {p : Prop} (e : p) (id : Nat) (hv : VX P n m y s' K) (hs : p -> st.freeze id = s' := by intro e; simp [go_sem, e]; rfl) (h : Db (st.o id) = true := by simp [go_sem, Db]) : VX P n m y st K := .freeze id h (by rw [hs e]; exact hv)
end
def Kx (n : Nat) (f : Nat -> Bool) : Bool := (List.range n).all f
theorem Vo {n : Nat} {f : Nat -> Bool} {i : Nat} (hi : i < n) (h : f i = false) : Kx n f = false := by
 unfold Kx
 rw [List.all_eq_false]
 exact ⟨i, List.mem_range.2 hi, by simp [h]⟩
theorem J0 {n : Nat} {f : Nat -> Bool} (h : ∀ i, i < n -> f i = true) : Kx n f = true := by
 unfold Kx
 rw [Am]
 exact fun i hi => h i (List.mem_range.1 hi)
theorem Wv {n : Nat} {f : Nat -> Bool} : Kx n f = true <-> ∀ i, i < n -> f i = true := by
 unfold Kx
 rw [Am]
 exact ⟨fun h i hi => h i (List.mem_range.2 hi), fun h i hi => h i (List.mem_range.1 hi)⟩
theorem Ako {p : Nat -> Prop} {i : Nat} (h : ∀ k, k < i -> p k) (hi : p i) : ∀ k, k < i + 1 -> p k := fun k hk => by
 by_cases e : k = i
 ·subst e; exact hi
 exact h k (by omega)
def Sf (row : Int) (q : Nat) : Int := Cm .and .i64 (row.fdiv (2 ^ min q 64)) 1
def O5 (c : List Int) (i : Nat) : Int := (c[i]?).getD 0
def Ag3 (c : List Int) (p : Nat) : Bool := !(decide (O5 c p < 0) || ((O5 c p).fdiv (2 ^ min c.length 64) != 0) || (Sf (O5 c p) p != 0)) && Kx c.length fun q => Sf (O5 c p) q == Sf (O5 c q) p
def Qg (c : List Int) : Bool := decide (1 <= c.length) && decide (c.length <= 8) && Kx c.length (Ag3 c)
def Wj (c : List Int) (p q : Int) : Bool := decide (0 <= p) && decide (0 <= q) && decide (p < c.length) && decide (q < c.length) && (Sf (O5 c p.toNat) q.toNat == 1)
def Asu (s : Int) (p : Nat) : Bool := Cm .and .u64 ((IntKind.u64.wrap s).fdiv (2 ^ min p 64)) 1 == 1
theorem Zr (c : List Int) (hl : c.length <= 1000000) : PP 107 [] [.mI c] [] (.lb (Qg c)) := by
 refine B0 Tryz.func107 ?_
 refine VW.R <| .seq ?_
 refine VW.R ?_
 refine VW.C ?_ ?_ <;> intro h13 <;> simp [go_sem] at h13
 ·refine VW.R ?_
  refine VW.ret (B2 (by simp [go_sem]) ?_)
  simp [go_sem]
  rw [Bool.eq_false_iff]; intro h; simp only [Qg, Ah, decide_eq_true_eq] at h; omega
 refine VW.skip <| .seq <| .R <| .block ?_
 refine VW.rangeE c.length (fun i1 (y1 : Unit) => ⟨[(0, .mI c), (14, .mI c), (15, .li c.length), (16, .li i1)], []⟩) (fun i1 y1 => ∀ k, k < i1 -> Ag3 c k = true) (()) ⟨[], Bp (by decide) ?_ ?_, by simp⟩ (by intro k h; omega) fun i1 y1 hi1 hy1 => ?_
 ·simp [go_sem]
 ·simp [go_sem]
 refine VW.R <| .seq ?_
 refine VW.C ?_ ?_ <;> intro h17 <;> simp [go_sem] at h17
 ·have hx : c[i1]? = some c[i1] := Aa (by omega)
  generalize c[i1] = x at hx
  have hxa : O5 c i1 = x := by simp [O5, hx]
  refine VW.skip <| .seq <| .block <| .H hx <| .seq ?_
  refine VW.H ok0 ?_
  refine VW.C ?_ ?_ <;> intro h36 <;> simp [go_sem] at h36
  ·refine VW.R ?_
   refine VW.ret (B2 (by simp [go_sem]) ?_)
   simp [go_sem]
   rw [Bool.eq_false_iff]; intro h; simp only [Qg, Ah] at h; have h2 := Wv.1 h.2 i1 h17; simp only [Ag3, Ah, hxa, Bool.not_eq_true', Bool.or_eq_false_iff, decide_eq_false_iff_not, bne_eq_false_iff_eq] at h2; rcases h36 with (h36 | h36) | h36; exact h2.1.1.1 h36; exact h36 h2.1.1.2; exact h36 h2.1.2
  refine VW.skip <| .R <| .block ?_
  refine VW.rangeE c.length (fun i2 (y2 : Unit) => ⟨[(0, .mI c), (3, .li i1), (4, .li x), (14, .mI c), (15, .li c.length), (16, .li i1), (38, .li c.length), (39, .li i2)], []⟩) (fun i2 y2 => ∀ k, k < i2 -> (Sf (O5 c i1) k == Sf (O5 c k) i1) = true) (()) ⟨[], Bp (by decide) ?_ ?_, by simp⟩ (by intro k h; omega) fun i2 y2 hi2 hy2 => ?_
  ·simp [go_sem]
  ·simp [go_sem]
  refine VW.R <| .seq ?_
  refine VW.C ?_ ?_ <;> intro h40 <;> simp [go_sem] at h40
  ·have hz : c[i2]? = some c[i2] := Aa (by omega)
   generalize c[i2] = z at hz
   have hza : O5 c i2 = z := by simp [O5, hz]
   refine VW.skip <| .seq <| .block <| .R ?_
   refine VW.G (cj2 hx hz) ?_
   refine VW.C ?_ ?_ <;> intro h53 <;> simp [go_sem] at h53
   ·refine VW.R ?_
    refine VW.ret (B2 (by simp [go_sem]) ?_)
    simp [go_sem]
    rw [Bool.eq_false_iff]; intro h; simp only [Qg, Ah] at h; have h2 := Wv.1 h.2 i1 h17; simp only [Ag3, Ah] at h2; have h3 := Wv.1 h2.2 i2 h40; rw [hxa, hza] at h3; exact h53 (by simpa [Sf] using h3)
   refine VW.skip <| .R1 ?_
   refine ⟨by omega, (), ?_, [], Bp (by decide) ?_ ?_, by simp⟩
   ·refine Ako hy2 ?_; rw [hxa, hza]; simpa [Sf] using h53
   ·simp [go_sem, Bq ((i2 : Int) + 1)]
   simp [go_sem]
  refine VW.exit <| .R1 ?_
  refine ⟨by omega, (), ?_, [], Bp (by decide) ?_ ?_, by simp⟩
  ·refine Ako hy1 ?_; simp only [Ag3, hxa, Ah]; refine ⟨?_, J0 (by intro k hk; have := hy2 k (by omega); rwa [hxa] at this)⟩; have hn : ¬ x < 0 := (by omega); simp [Sf, hn, h36.1.2, h36.2]
  ·simp [go_sem, Bq ((i1 : Int) + 1)]
  simp [go_sem]
 refine VW.exit <| .R ?_
 refine VW.ret (B2 (by simp [go_sem]) ?_)
 simp [go_sem]
 have he : i1 = c.length := by omega
 subst he
 simp only [Qg, Ah, decide_eq_true_eq]; exact ⟨⟨by omega, by omega⟩, J0 hy1⟩
theorem Xa (s : Int) (p : Nat) : PP 247 [] [.li s, .li p] [] (.lb (Asu s p)) := by
 refine B0 Tryz.func247 ?_
 refine VW.R ?_
 refine VW.H ok0 ?_
 refine VW.ret (B2 (by simp [go_sem]) ?_)
 simp [go_sem, Asu]
theorem Fe (c : List Int) (p q : Int) (hl : c.length <= 1000000) : PP 142 [] [.mI c, .li p, .li q] [] (.lb (Wj c p q)) := by
 refine B0 Tryz.func142 ?_
 refine VW.R <| .seq ?_
 refine VW.R ?_
 refine VW.C ?_ ?_ <;> intro h24 <;> simp [go_sem] at h24
 ·refine VW.R ?_
  refine VW.ret (B2 (by simp [go_sem]) ?_)
  simp [go_sem]
  first
   | (rw [Bool.eq_false_iff]; intro h; simp only [Wj, Ah, decide_eq_true_eq] at h; omega)
   | (have h1 := h24.1.1.1; have h2 := h24.1.1.2; have h3 := h24.1.2; have h4 := h24.2; simp [Wj, Sf, hxa, h1, h2, h3, h4])
 have hx : c[p.toNat]? = some c[p.toNat] := Aa (by omega)
 generalize c[p.toNat] = x at hx
 have hxa : O5 c p.toNat = x := by simp only [O5, hx, Bh]
 refine VW.skip <| .H hx ?_
 refine VW.ret (B2 (by simp [go_sem]) ?_)
 simp [go_sem]
 first
  | (rw [Bool.eq_false_iff]; intro h; simp only [Wj, Ah, decide_eq_true_eq] at h; omega)
  | (have h1 := h24.1.1.1; have h2 := h24.1.1.2; have h3 := h24.1.2; have h4 := h24.2; simp [Wj, Sf, hxa, h1, h2, h3, h4])
def Auc (r : AV) : Prop := ∃ a b : Int, r = .tup [.li a, .li b]
theorem Zk (c : List Int) (s : Int) (hl : c.length <= 1000000) : ∃ res, PP 220 [] [.mI c, .li s] [] res /\ Auc res := by
 refine Cb Tryz.func220 ?_
 refine VX.R <| .seq ?_
 refine VX.R <| .block ?_
 refine VX.range c.length (fun i1 => ⟨[(0, .mI c), (1, .li s), (9, .li c.length), (10, .li i1)], []⟩) (wk ok0 []) fun i1 hi1 => ?_
 refine VX.R <| .seq ?_
 refine VX.C ?_ ?_ <;> intro h11 <;> simp [go_sem] at h11
 ·refine VX.skip <| .seq <| .block <| .R <| .seq ?_
  refine VX.L ok0 (Xa s i1) ?_
  refine VX.C ?_ ?_ <;> intro h16 <;> simp [go_sem] at h16
  ·refine VX.exit <| .R1 ?_
   refine ⟨by omega, [], Bp (by decide) ?_ ?_, by simp⟩
   ·simp [go_sem, Bq ((i1 : Int) + 1)]
   simp [go_sem]
  refine VX.skip <| .R <| .block ?_
  refine VX.range c.length (fun i2 => ⟨[(0, .mI c), (1, .li s), (6, .li i1), (9, .li c.length), (10, .li i1), (18, .li c.length), (19, .li i2)], []⟩) (wk ok0 []) fun i2 hi2 => ?_
  refine VX.R <| .seq ?_
  refine VX.C ?_ ?_ <;> intro h20 <;> simp [go_sem] at h20
  ·refine VX.skip <| .seq <| .block <| .R ?_
   refine VX.region_seq (by rfl) fun K1 hK1 => ?_
   simp [go_sem]
   refine Bz (by simp [go_sem]) (by simp [go_sem]) ?_
   simp [go_sem]
   first | refine .lo (Xa s i2) rfl (by simp) ?_ | refine .skip ?_
   simp [go_sem]
   refine Bz (by simp [go_sem]) (by simp [go_sem]) ?_
   simp [go_sem]
   first | refine .lo (Fe c i1 i2 hl) rfl (by simp) ?_ | refine .skip ?_
   simp [go_sem]
   refine hK1 _ ?_; clear hK1
   refine VX.C ?_ ?_ <;> intro h35 <;> simp [go_sem] at h35
   ·refine VX.R ?_
    refine VX.ret (Co ?_); simp [go_sem]
    exact ⟨_, _, rfl⟩
   refine VX.skip <| .R1 ?_
   refine ⟨by omega, [], Bp (by decide) ?_ ?_, by simp⟩
   ·simp [go_sem, Bq ((i2 : Int) + 1)]
   simp [go_sem]
  refine VX.exit <| .R1 ?_
  refine ⟨by omega, [], Bp (by decide) ?_ ?_, by simp⟩
  ·simp [go_sem, Bq ((i1 : Int) + 1)]
  simp [go_sem]
 refine VX.exit <| .R ?_
 refine VX.ret (Co ?_); simp [go_sem]
 exact ⟨_, _, rfl⟩
end Go.Proofs.YtkkimgjinbaemaaGreat
