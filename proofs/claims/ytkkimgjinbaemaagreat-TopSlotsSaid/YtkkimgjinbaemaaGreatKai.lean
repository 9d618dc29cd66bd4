/- The walk. -/
import Derived.Test.YtkkimgjinbaemaaGreatKah
namespace Go.Proofs.YtkkimgjinbaemaaGreat
open Go.RowKit
set_option linter.unusedVariables false
set_option linter.unusedSimpArgs false
set_option maxRecDepth 100000
set_option maxHeartbeats 4000000
def Pp : Fi := ⟨false, [], -1, 0, 0, 0⟩
def Ai3 (t : Fi) : Bool := !t.used && ((t.sec.length : Int) == 0) && (t.par == -1) && (t.ri == 0) && (t.cls == 0) && (t.unt == 0)
def Amz (a b : Int) : Bool := (b != 0) && ((a == 0) || decide (b < a))
def Afb (t : Fi) (now : Int) : Bool := (t.unt != 0) && decide (t.unt < now)
def Amy (t : Fi) : Bool := ((t.sec.length : Int) == 8) && Vb t.ri && decide (0 <= t.cls) && decide (t.cls <= 3) && decide (0 <= t.unt) && decide (t.unt <= 2147483648)
theorem Sd  : PP 143 [] [] [] (Pp.g) := by
 refine Eb Tryz.func143 ?_
 iterate 2 refine Bw ?_
 refine B6 ?_
 simp [go_sem, Pp]
theorem Ab4 (t : Fi) : PP 271 [] [t.g] [] (.lb (Ai3 t)) := by
 refine Eb Tryz.func271 ?_
 iterate 2 refine Bw ?_
 refine B6 ?_
 simp [go_sem, Ai3]
theorem Q2 (a b : Int) : PP 273 [] [.li a, .li b] [] (.lb (Amz a b)) := by
 refine Eb Tryz.func273 ?_
 refine Bw ?_
 refine Ce (fun K kk => by simp +contextual [go_sem]; exact kk) ?_
 refine B6 ?_
 simp [go_sem, Amz]
theorem S4 (t : Fi) (now : Int) : PP 185 [] [t.g, .li now] [] (.lb (Afb t now)) := by
 refine Eb Tryz.func185 ?_
 iterate 2 refine Bw ?_
 refine B6 ?_
 simp [go_sem, Afb]
theorem Vv (t : Fi) : PP 270 [] [t.g] [] (.lb (Amy t)) := by
 refine Eb Tryz.func270 ?_
 refine Bw ?_
 refine Bx (by rfl) fun K1 hK1 => ?_
 simp [go_sem]
 refine RCG ?_
 simp [go_sem]
 first | refine .lo (L8 t.ri) rfl (by simp) ?_ | refine .skip ?_
 simp [go_sem]
 refine hK1 _ ?_; clear hK1
 refine B6 ?_
 simp [go_sem, Amy]
def Gg (l : List Fi) (s : Int) : Bool := decide (0 <= s) && match l[s.toNat]? with
 | some t => t.used
 | none => false
theorem O3 (l : List Fi) (s : Int) : PP 207 [] [.mTok l, .li s] [] (.lb (Gg l s)) := by
 refine Eb Tryz.func207 ?_
 refine Bw ?_
 rcases (by omega : s < 0 \/ (0 <= s /\ (l.length : Int) <= s) \/ (0 <= s /\ s < l.length)) with hs | hs | hs
 ·replace hs : ¬ 0 <= s := by omega
  refine Ce (fun K kk => by simp [go_sem, hs]; repeat first | exact kk | refine aK ?_) ?_
  refine B6 ?_
  first | (simp [go_sem, Gg, hs, hx]; done) | (simp [go_sem, Gg, hs]; done) | (simp [go_sem, Gg, hs, Ar (show l.length <= s.toNat by omega)]; done)
 ·refine Ce (fun K kk => by simp [go_sem, hs]; repeat first | exact kk | refine aK ?_) ?_
  refine B6 ?_
  first | (simp [go_sem, Gg, hs, hx]; done) | (simp [go_sem, Gg, hs]; done) | (simp [go_sem, Gg, hs, Ar (show l.length <= s.toNat by omega)]; done)
 have hx : l[s.toNat]? = some l[s.toNat] := Aa (by omega)
 generalize l[s.toNat] = t at hx
 refine Ce (fun K kk => by simp [go_sem, hs]; repeat first | exact kk | refine aK ?_) ?_
 refine B6 ?_
 first | (simp [go_sem, Gg, hs, hx]; done) | (simp [go_sem, Gg, hs]; done) | (simp [go_sem, Gg, hs, Ar (show l.length <= s.toNat by omega)]; done)
section
variable {P : Program} {n m : Nat} {st : St} {K : Exit -> St -> Prop} {c : Code}
theorem VW.rangeI (N : Nat) (f : Nat -> St) (Inv : Nat -> Prop) (h0 : WkE m st (f 0)) (hi0 : Inv 0) (round : ∀ i, i <= N -> Inv i -> VW P n m c (f i) (Exit.vthen (fun s' => i < N /\ Inv (i + 1) /\ WkE m s' (f (i + 1))) K)) : VW P n m (.loop c) st K := by
 obtain ⟨sel, h1, h2⟩ := h0
 refine .loop_w (fun z s => ∃ i, i + z = N /\ Inv i /\ s = f i) ⟨N, sel, f 0, h1, h2, 0, by omega, hi0, rfl⟩ ?_
 rintro z s ⟨i, hi, hI, rfl⟩
 refine (round i (by omega) hI).mono fun e s => ?_
 cases e with
 | normal =>
  rintro ⟨h3, h6, sel, h4, h5⟩
  exact ⟨z - 1, by omega, sel, _, h4, h5, i + 1, by omega, h6, rfl⟩
 | _ => exact fun h => h
abbrev Dc := @VW.rangeI
end
structure Ya (caps : List AV) : Prop where
  ren : ∀ ρ, Mq ρ caps = caps
  pass : ∀ o, Jd o caps = caps
  passC : ∀ o, I6 o caps
  bor : R5 caps = false
  low : Jn caps = caps
def Gb {α : Type} (p : α -> Bool) : List α -> Nat -> Int
 | [], _ => -1
 | t :: ts, i => if p t then i else Gb p ts (i + 1)
def Hi {α : Type} (p : α -> Bool) (l : List α) : Int := Gb p l 0
theorem Ko {α : Type} (p : α -> Bool) {l : List α} {i : Nat} {x : α} (h : l[i]? = some x) : Gb p (l.drop i) i = if p x then (i : Int) else Gb p (l.drop (i + 1)) (i + 1) := by
 obtain ⟨hi, rfl⟩ := Ab.1 h
 rw [List.drop_eq_getElem_cons hi, Gb]
theorem Lx {α : Type} (p : α -> Bool) (l : List α) : Gb p (l.drop l.length) l.length = -1 := by simp [Gb]
theorem Qb (l : List Fi) (fid : FuncId) (caps : List AV) (p : Fi -> Bool) (hl : l.length <= 1000000) (hc : Ya caps) (hp : ∀ t, PP fid [] (t.g :: caps) [] (.lb (p t))) : PP 274 [] [.mTok l, .fn fid caps] [] (.li (Hi p l)) := by
 refine Eb Tryz.func274 ?_
 refine Bw <| .seq ?_
 refine Bw <| .block ?_
 refine Dc l.length (fun i1 => ⟨[(0, .mTok l), (1, .fn fid caps), (7, .li l.length), (8, .li i1)], []⟩) (fun i1 => Hi p l = Gb p (l.drop i1) i1) ⟨[], Ds (by decide) ?_ ?_, by simp⟩ rfl fun i1 hi1 hI => ?_
 ·simp [go_sem, hc.ren]
 ·simp [go_sem, hc.ren]
 refine Bw <| .seq ?_
 refine B7 ?_ ?_ <;> intro h9
 ·have hx : l[i1]? = some l[i1] := Aa h9
  generalize l[i1] = t at hx
  rw [Ko p hx] at hI
  refine Bv <| .seq <| .block <| .R ?_
  refine Ce (fun K kk => by simp [go_sem, hx, hc.pass, hc.passC, hc.bor, hc.low]; (repeat refine aK ?_); refine .lo (hp t) (by simp [go_sem, hc.low]) (by simp) ?_; simp [go_sem, hx, hc.pass, hc.passC, hc.bor, hc.low]; exact kk) ?_
  refine B7 ?_ ?_ <;> intro h16
  ·rw [if_pos h16] at hI
   refine Bw ?_
   exact .ret (rL hI)
  rw [h16] at hI
  simp only [Bl, if_false] at hI
  refine Bv <| .R1 ?_
  refine ⟨by omega, hI, [], Ds (by decide) ?_ ?_, by simp⟩
  ·simp [go_sem, Dt ((i1 : Int) + 1), hc.ren, h9, h16]
  simp [go_sem]
 have he : i1 = l.length := by omega
 subst he
 rw [Lx] at hI
 refine B5 <| .R ?_
 exact .ret (rL hI)
theorem Aaw (l : List Gf) (fid : FuncId) (caps : List AV) (p : Gf -> Bool) (hl : l.length <= 1000000) (hc : Ya caps) (hp : ∀ t, PP fid [] (t.g :: caps) [] (.lb (p t))) : PP 178 [] [.mLeg l, .fn fid caps] [] (.li (Hi p l)) := by
 refine Eb Tryz.func178 ?_
 refine Bw <| .seq ?_
 refine Bw <| .block ?_
 refine Dc l.length (fun i1 => ⟨[(0, .mLeg l), (1, .fn fid caps), (7, .li l.length), (8, .li i1)], []⟩) (fun i1 => Hi p l = Gb p (l.drop i1) i1) ⟨[], Ds (by decide) ?_ ?_, by simp⟩ rfl fun i1 hi1 hI => ?_
 ·simp [go_sem, hc.ren]
 ·simp [go_sem, hc.ren]
 refine Bw <| .seq ?_
 refine B7 ?_ ?_ <;> intro h9
 ·have hx : l[i1]? = some l[i1] := Aa h9
  generalize l[i1] = t at hx
  rw [Ko p hx] at hI
  refine Bv <| .seq <| .block <| .R ?_
  refine Ce (fun K kk => by simp [go_sem, hx, hc.pass, hc.passC, hc.bor, hc.low]; (repeat refine aK ?_); refine .lo (hp t) (by simp [go_sem, hc.low]) (by simp) ?_; simp [go_sem, hx, hc.pass, hc.passC, hc.bor, hc.low]; exact kk) ?_
  refine B7 ?_ ?_ <;> intro h16
  ·rw [if_pos h16] at hI
   refine Bw ?_
   exact .ret (rL hI)
  rw [h16] at hI
  simp only [Bl, if_false] at hI
  refine Bv <| .R1 ?_
  refine ⟨by omega, hI, [], Ds (by decide) ?_ ?_, by simp⟩
  ·simp [go_sem, Dt ((i1 : Int) + 1), hc.ren, h9, h16]
  simp [go_sem]
 have he : i1 = l.length := by omega
 subst he
 rw [Lx] at hI
 refine B5 <| .R ?_
 exact .ret (rL hI)
theorem Xg (l : List Es) (fid : FuncId) (caps : List AV) (p : Es -> Bool) (hl : l.length <= 1000000) (hc : Ya caps) (hp : ∀ t, PP fid [] (t.g :: caps) [] (.lb (p t))) : PP 215 [] [.mClaim l, .fn fid caps] [] (.li (Hi p l)) := by
 refine Eb Tryz.func215 ?_
 refine Bw <| .seq ?_
 refine Bw <| .block ?_
 refine Dc l.length (fun i1 => ⟨[(0, .mClaim l), (1, .fn fid caps), (7, .li l.length), (8, .li i1)], []⟩) (fun i1 => Hi p l = Gb p (l.drop i1) i1) ⟨[], Ds (by decide) ?_ ?_, by simp⟩ rfl fun i1 hi1 hI => ?_
 ·simp [go_sem, hc.ren]
 ·simp [go_sem, hc.ren]
 refine Bw <| .seq ?_
 refine B7 ?_ ?_ <;> intro h9
 ·have hx : l[i1]? = some l[i1] := Aa h9
  generalize l[i1] = t at hx
  rw [Ko p hx] at hI
  refine Bv <| .seq <| .block <| .R ?_
  refine Ce (fun K kk => by simp [go_sem, hx, hc.pass, hc.passC, hc.bor, hc.low]; (repeat refine aK ?_); refine .lo (hp t) (by simp [go_sem, hc.low]) (by simp) ?_; simp [go_sem, hx, hc.pass, hc.passC, hc.bor, hc.low]; exact kk) ?_
  refine B7 ?_ ?_ <;> intro h16
  ·rw [if_pos h16] at hI
   refine Bw ?_
   exact .ret (rL hI)
  rw [h16] at hI
  simp only [Bl, if_false] at hI
  refine Bv <| .R1 ?_
  refine ⟨by omega, hI, [], Ds (by decide) ?_ ?_, by simp⟩
  ·simp [go_sem, Dt ((i1 : Int) + 1), hc.ren, h9, h16]
  simp [go_sem]
 have he : i1 = l.length := by omega
 subst he
 rw [Lx] at hI
 refine B5 <| .R ?_
 exact .ret (rL hI)
theorem Vo (l : List Em) (fid : FuncId) (caps : List AV) (p : Em -> Bool) (hl : l.length <= 1000000) (hc : Ya caps) (hp : ∀ t, PP fid [] (t.g :: caps) [] (.lb (p t))) : PP 267 [] [.mReq l, .fn fid caps] [] (.li (Hi p l)) := by
 refine Eb Tryz.func267 ?_
 refine Bw <| .seq ?_
 refine Bw <| .block ?_
 refine Dc l.length (fun i1 => ⟨[(0, .mReq l), (1, .fn fid caps), (7, .li l.length), (8, .li i1)], []⟩) (fun i1 => Hi p l = Gb p (l.drop i1) i1) ⟨[], Ds (by decide) ?_ ?_, by simp⟩ rfl fun i1 hi1 hI => ?_
 ·simp [go_sem, hc.ren]
 ·simp [go_sem, hc.ren]
 refine Bw <| .seq ?_
 refine B7 ?_ ?_ <;> intro h9
 ·have hx : l[i1]? = some l[i1] := Aa h9
  generalize l[i1] = t at hx
  rw [Ko p hx] at hI
  refine Bv <| .seq <| .block <| .R ?_
  refine Ce (fun K kk => by simp [go_sem, hx, hc.pass, hc.passC, hc.bor, hc.low]; (repeat refine aK ?_); refine .lo (hp t) (by simp [go_sem, hc.low]) (by simp) ?_; simp [go_sem, hx, hc.pass, hc.passC, hc.bor, hc.low]; exact kk) ?_
  refine B7 ?_ ?_ <;> intro h16
  ·rw [if_pos h16] at hI
   refine Bw ?_
   exact .ret (rL hI)
  rw [h16] at hI
  simp only [Bl, if_false] at hI
  refine Bv <| .R1 ?_
  refine ⟨by omega, hI, [], Ds (by decide) ?_ ?_, by simp⟩
  ·simp [go_sem, Dt ((i1 : Int) + 1), hc.ren, h9, h16]
  simp [go_sem]
 have he : i1 = l.length := by omega
 subst he
 rw [Lx] at hI
 refine B5 <| .R ?_
 exact .ret (rL hI)
theorem Xf (l : List Fd) (fid : FuncId) (caps : List AV) (p : Fd -> Bool) (hl : l.length <= 1000000) (hc : Ya caps) (hp : ∀ t, PP fid [] (t.g :: caps) [] (.lb (p t))) : PP 269 [] [.mLight l, .fn fid caps] [] (.li (Hi p l)) := by
 refine Eb Tryz.func269 ?_
 refine Bw <| .seq ?_
 refine Bw <| .block ?_
 refine Dc l.length (fun i1 => ⟨[(0, .mLight l), (1, .fn fid caps), (7, .li l.length), (8, .li i1)], []⟩) (fun i1 => Hi p l = Gb p (l.drop i1) i1) ⟨[], Ds (by decide) ?_ ?_, by simp⟩ rfl fun i1 hi1 hI => ?_
 ·simp [go_sem, hc.ren]
 ·simp [go_sem, hc.ren]
 refine Bw <| .seq ?_
 refine B7 ?_ ?_ <;> intro h9
 ·have hx : l[i1]? = some l[i1] := Aa h9
  generalize l[i1] = t at hx
  rw [Ko p hx] at hI
  refine Bv <| .seq <| .block <| .R ?_
  refine Ce (fun K kk => by simp [go_sem, hx, hc.pass, hc.passC, hc.bor, hc.low]; (repeat refine aK ?_); refine .lo (hp t) (by simp [go_sem, hc.low]) (by simp) ?_; simp [go_sem, hx, hc.pass, hc.passC, hc.bor, hc.low]; exact kk) ?_
  refine B7 ?_ ?_ <;> intro h16
  ·rw [if_pos h16] at hI
   refine Bw ?_
   exact .ret (rL hI)
  rw [h16] at hI
  simp only [Bl, if_false] at hI
  refine Bv <| .R1 ?_
  refine ⟨by omega, hI, [], Ds (by decide) ?_ ?_, by simp⟩
  ·simp [go_sem, Dt ((i1 : Int) + 1), hc.ren, h9, h16]
  simp [go_sem]
 have he : i1 = l.length := by omega
 subst he
 rw [Lx] at hI
 refine B5 <| .R ?_
 exact .ret (rL hI)
theorem Aav (l : List Dz) (fid : FuncId) (caps : List AV) (p : Dz -> Bool) (hl : l.length <= 1000000) (hc : Ya caps) (hp : ∀ t, t ∈ l -> PP fid [] (t.g :: caps) [] (.lb (p t))) : PP 158 [] [.mMsg l, .fn fid caps] [] (.li (Hi p l)) := by
 refine Eb Tryz.func158 ?_
 refine Bw <| .seq ?_
 refine Bw <| .block ?_
 refine Dc l.length (fun i1 => ⟨[(0, .mMsg l), (1, .fn fid caps), (7, .li l.length), (8, .li i1)], []⟩) (fun i1 => Hi p l = Gb p (l.drop i1) i1) ⟨[], Ds (by decide) ?_ ?_, by simp⟩ rfl fun i1 hi1 hI => ?_
 ·simp [go_sem, hc.ren]
 ·simp [go_sem, hc.ren]
 refine Bw <| .seq ?_
 refine B7 ?_ ?_ <;> intro h9
 ·have hx : l[i1]? = some l[i1] := Aa h9
  generalize l[i1] = t at hx
  rw [Ko p hx] at hI
  refine Bv <| .seq <| .block <| .R ?_
  refine Ce (fun K kk => by simp [go_sem, hx, hc.pass, hc.passC, hc.bor, hc.low]; (repeat refine aK ?_); refine .lo (hp t (Ac hx)) (by simp [go_sem, hc.low]) (by simp) ?_; simp [go_sem, hx, hc.pass, hc.passC, hc.bor, hc.low]; exact kk) ?_
  refine B7 ?_ ?_ <;> intro h16
  ·rw [if_pos h16] at hI
   refine Bw ?_
   exact .ret (rL hI)
  rw [h16] at hI
  simp only [Bl, if_false] at hI
  refine Bv <| .R1 ?_
  refine ⟨by omega, hI, [], Ds (by decide) ?_ ?_, by simp⟩
  ·simp [go_sem, Dt ((i1 : Int) + 1), hc.ren, h9, h16]
  simp [go_sem]
 have he : i1 = l.length := by omega
 subst he
 rw [Lx] at hI
 refine B5 <| .R ?_
 exact .ret (rL hI)
theorem V7 {α : Type} (p : α -> Bool) : ∀ (l : List α) (i : Nat), (Gb p l i = -1 /\ ∀ t ∈ l, p t = false) \/ ∃ (k : Nat) (t : α), Gb p l i = (i + k : Nat) /\ l[k]? = some t /\ p t = true /\ ∀ u ∈ l.take k, p u = false
 | [], i => .inl ⟨rfl, fun t h => by cases h⟩
 | a :: l, i => by
  by_cases ha : p a = true
  ·exact .inr ⟨0, a, by simp [Gb, ha], rfl, ha, fun u h => by cases h⟩
  have ha : p a = false := by simpa using ha
  rcases V7 p l (i + 1) with ⟨h1, h2⟩ | ⟨k, t, h1, h2, h3, h4⟩
  ·refine .inl ⟨by simp [Gb, ha, h1], fun t h => ?_⟩
   rcases List.mem_cons.1 h with rfl | h
   ·exact ha
   exact h2 t h
  refine .inr ⟨k + 1, t, by simp [Gb, ha, h1]; omega, h2, h3, fun u h => ?_⟩
  rw [List.take_succ_cons] at h
  rcases List.mem_cons.1 h with rfl | h
  ·exact ha
  exact h4 u h
theorem Z7 {α : Type} {p : α -> Bool} {l : List α} (h : ∀ t ∈ l, p t = false) : l.filter (fun t => !p t) = l := List.filter_eq_self.2 fun t ht => by simp [h t ht]
theorem Zd {α : Type} {p : α -> Bool} {l : List α} {j : Nat} {t : α} (h : l[j]? = some t) : (l.take (j + 1)).filter (fun t => !p t) = (l.take j).filter (fun t => !p t) ++ if p t then [] else [t] := by
 rw [List.take_add_one, h, List.filter_append]
 cases hp : p t <;> simp [hp]
section
variable {P : Program}
mutual
def AV.out : AV -> AV
 | .imm _ k es => .imm false k es
 | .nil k => .imm false k []
 | .iptr _ cs off => .iptr false cs off
 | .agg cs => .agg (X3 cs)
 | .tup cs => .tup (X3 cs)
 | .fn f cs => .fn f (X3 cs)
 | .lit v => .lit v
 | .gd t v => .gd t v.out
 | _ => .any
def X3 : List AV -> List AV
 | [] => []
 | c :: cs => c.out :: X3 cs
end
theorem X2 : ∀ (cs : List AV) (i : Nat), (X3 cs)[i]? = (cs[i]?).map AV.out
 | [], i => by simp [X3]
 | c :: cs, 0 => by simp [X3]
 | c :: cs, i + 1 => by simp [X3, X2 cs i]
theorem Nz : ∀ (cs : List AV), (X3 cs).length = cs.length
 | [] => rfl
 | c :: cs => by simp [X3, Nz cs]
theorem Dv.out {C C' : VC} (hk : ∀ b cur ty fz, C.S false b -> C.h[b]? = some (.cells cur ty fz) -> C'.h[b]? = some (.cells cur ty fz)) (hS : ∀ b, C.S false b -> C'.S false b) {c : AV} {u : Value} (h : Dv C c u) : Dv C' c.out u := by
 have hT : ∀ fr t u, F3 C.h (C.S fr) t u -> F3 C'.h (C'.S false) t u := fun fr t u h => (VC.T_weak (g := false) h fun e => by cases e).keepC (fun b cur ty fz h1 h2 => hk b cur ty fz h1 h2) hS
 have hL : ∀ (cs : List AV) (us : Array Value), (∀ (i : Nat) (c : AV) (u : Value), cs[i]? = some c -> us[i]? = some u -> Dv C' c.out u) -> ∀ (i : Nat) (c : AV) (u : Value), (X3 cs)[i]? = some c -> us[i]? = some u -> Dv C' c u := fun cs us ih i c u hc hu => by
  rw [X2] at hc
  cases hx : cs[i]? with
  | none => rw [hx] at hc; cases hc
  | some x =>
   rw [hx] at hc
   simp only [Ai, Option.some.injEq] at hc
   subst hc
   exact ih i x u hx hu
 induction h with
 | any u => exact .any u
 | lit v => exact .lit v
 | nil k A => exact .imm _ _ _ _ (.nil _ _ _)
 | imm fr k es u h => exact .imm _ _ _ _ (hT fr _ _ h)
 | own id n u h => exact .any u
 | sub id n lo m u h => exact .any u
 | ptr id off u h => exact .any u
 | rptr id n i off u h => exact .any u
 | bsl id n u h => exact .any u
 | iptr fr cs off b o cur ty fz us h1 h2 h3 => exact .iptr false cs off b o cur ty fz us (hk b cur ty fz (VC.S_weak h2) h1) (hS b (VC.S_weak h2)) fun j x hx => ⟨(h3 j x hx).1, hT fr _ _ (h3 j x hx).2⟩
 | agg cs us h1 h2 ih => exact .agg _ _ (by rw [Nz]; exact h1) (hL cs us ih)
 | tup cs us h1 h2 ih => exact .tup _ _ (by rw [Nz]; exact h1) (hL cs us ih)
 | fn f cs us h1 h2 ih => exact .fn f _ _ (by rw [Nz]; exact h1) (hL cs us ih)
 | gd t v u h1 h2 ih => exact .gd t _ u (fun e => ih e) h2
def Alv : List (Nat × AV) -> List (Nat × AV)
 | [] => []
 | p :: l => (p.1, p.2.out) :: Alv l
theorem Afv : ∀ (l : List (Nat × AV)) (t : Nat), El (Alv l) t = (El l t).out
 | [], t => rfl
 | p :: l, t => by
  simp only [Alv, El]
  cases p.1 == t
  ·exact Afv l t
  rfl
structure YC (P : Program) (items : List (List AV)) (l : Nat) where
  W0 : Nat
  Z : Nat -> Prop
  J : Nat -> Bool -> (Nat -> Prop) -> World -> Prop
  ab : ∀ i s L W1 W2, J i s L W1 -> Kp (fun _ => False) W1 W2 -> J i s L W2
  rd : ∀ i L W1 vs us, J i false L W1 -> (∀ b, L b -> b < W1.heap.size) -> items[i]? = some vs -> us.size = vs.length -> (∀ (j : Nat) (v : AV) (u : Value), vs[j]? = some v -> us[j]? = some u -> Dv (VCZ W0 Z L W1) v u) ->
    YieldAt Fence.wide 0 P l us W1 (Ah5 J i L W1)
def RI {items : List (List AV)} {l : Nat} (c : YC P items l) (n i : Nat) (s : Bool) (st : St) (a : Act) (w : World) : Prop :=
 ∃ E β L, E.n = n /\ (∀ id, E.o0 id = .gone) /\ E.ds = [] /\ Rel E β st a w /\ c.J i s L E.w0 /\ (∀ b, L b -> b < E.w0.heap.size) /\ (∀ b, E.im b -> ¬ L b /\ (c.Z b \/ c.W0 <= b)) /\ c.W0 <= E.w0.heap.size
def Atu {items : List (List AV)} {l : Nat} (c : YC P items l) (n : Nat) (K : Exit -> Nat -> Bool -> St -> Prop) : Exit -> Act -> World -> Prop := fun e a w => ∃ i s st, K e i s st /\ RI c n i s st a w
def VI (P : Program) (n : Nat) (items : List (List AV)) (l : Nat) (code : Code) (i : Nat) (s : Bool) (st : St) (K : Exit -> Nat -> Bool -> St -> Prop) : Prop :=
 ∀ (c : YC P items l) (a : Act) (w : World), RI c n i s st a w -> code.wpIn Fence.wide 0 P (Atu c n K) a w
def VIL (P : Program) (n : Nat) (items : List (List AV)) (l : Nat) (ops : Array Oper) (os : List Oper) (i : Nat) (s : Bool) (st : St) (K : Exit -> Nat -> Bool -> St -> Prop) : Prop :=
 ∀ (c : YC P items l) (a : Act) (w : World), RI c n i s st a w -> wpListIn Fence.wide 0 P ops (Atu c n K) os a w
section
variable {n : Nat} {items : List (List AV)} {l i : Nat} {s : Bool} {st : St} {K K' : Exit -> Nat -> Bool -> St -> Prop}
@[reducible] def Exit.ithen (next : Nat -> Bool -> St -> Prop) (K : Exit -> Nat -> Bool -> St -> Prop) : Exit -> Nat -> Bool -> St -> Prop
 | .normal, i, s, st => next i s st
 | e, i, s, st => K e i s st
theorem VI.seq {x y : Code} (h : VI P n items l x i s st (Exit.ithen (fun i s st => VI P n items l y i s st K) K)) : VI P n items l (.seq x y) i s st K := fun c a w r => by
 refine wpIn_seq (wpIn_mono (h c a w r) fun e a w ⟨i, s, st, h1, h2⟩ => ?_)
 cases e with
 | normal => exact h1 c a w h2
 | exit id => exact ⟨i, s, st, h1, h2⟩
 | goto l => exact ⟨i, s, st, h1, h2⟩
 | ret => exact ⟨i, s, st, h1, h2⟩
 | panic ch => exact ⟨i, s, st, h1, h2⟩
 | outgrown => exact ⟨i, s, st, h1, h2⟩
abbrev Cw := @VI.seq
theorem VI.skip (h : K .normal i s st) : VI P n items l .skip i s st K := fun c a w r => wpIn_skip ⟨i, s, st, h, r⟩
abbrev Db := @VI.skip
theorem VI.exit {id : Nat} (h : K (.exit id) i s st) : VI P n items l (.exit id) i s st K := fun c a w r => wpIn_exit ⟨i, s, st, h, r⟩
theorem VI.ret (h : K .ret i s st) : VI P n items l .ret i s st K := fun c a w r => wpIn_ret ⟨i, s, st, h, r⟩
theorem VI.cond {x : Operand} {y z : Code} (hb : Hh (st.raw x).sv = true) (hs : (st.raw x).sb = true) (ht : Ew (st.raw x).sv = true -> VI P n items l y i s st K) (hf : Ew (st.raw x).sv = false -> VI P n items l z i s st K) : VI P n items l (.cond x y z) i s st K := fun c a w r => by
 have r' := r
 obtain ⟨E, β, L, _, _, _, r1, _⟩ := r'
 obtain ⟨_, e2⟩ := Ln hb ((Lm r1 x).sv.1 hs)
 exact wpIn_cond_split e2 (fun e => ht e c a w r) fun e => hf e c a w r
abbrev C4 := @VI.cond
theorem VI.Q {x : Operand} {y z : Code} {p q : Prop} (ht : p -> VI P n items l y i s st K) (hf : q -> VI P n items l z i s st K) (hp : (Ew (st.raw x).sv = true) = p := by simp [go_sem]; exact Iff.rfl) (hq : (Ew (st.raw x).sv = false) = q := by simp [go_sem]; exact Iff.rfl) (hb : Hh (st.raw x).sv = true := by simp [go_sem]) (hs : (st.raw x).sb = true := by simp [go_sem]) : VI P n items l (.cond x y z) i s st K := .cond hb hs (fun h => ht (hp ▸ h)) fun h => hf (hq ▸ h)
@[reducible] def Exit.iblock (id : Nat) (K : Exit -> Nat -> Bool -> St -> Prop) : Exit -> Nat -> Bool -> St -> Prop
 | .exit id', i, s, st => if id' = id then K .normal i s st else K (.exit id') i s st
 | e, i, s, st => K e i s st
theorem VI.block {id : Nat} {x : Code} (h : VI P n items l x i s st (Exit.iblock id K)) : VI P n items l (.block id x) i s st K := fun c a w r => by
 refine wpIn_block (wpIn_mono (h c a w r) fun e a w ⟨i, s, st, h1, h2⟩ => ?_)
 cases e with
 | exit id' =>
  unfold Exit.inBlock
  unfold Exit.iblock at h1
  simp only at h1 ⊢
  split
  ·rename_i e; rw [if_pos e] at h1; exact ⟨i, s, st, h1, h2⟩
  rename_i e; rw [if_neg e] at h1; exact ⟨i, s, st, h1, h2⟩
 | normal => exact ⟨i, s, st, h1, h2⟩
 | goto l => exact ⟨i, s, st, h1, h2⟩
 | ret => exact ⟨i, s, st, h1, h2⟩
 | panic ch => exact ⟨i, s, st, h1, h2⟩
 | outgrown => exact ⟨i, s, st, h1, h2⟩
abbrev Cv := @VI.block
theorem RI.weak {c : YC P items l} {a : Act} {w : World} (r : RI c n i s st a w) {sel : List Nat} {st' : St} (h : Ae6 st sel st') : RI c n i s st' a w := by
 obtain ⟨E, β, L, h1, h2, h3, r, h4⟩ := r
 obtain ⟨β', r'⟩ := r.weak h fun id hid => absurd (h2 id) hid
 exact ⟨E, β', L, h1, h2, h3, r', h4⟩
theorem VI.wkE {x : Code} {st' : St} (h : WkE 0 st st') (hv : VI P n items l x i s st' K) : VI P n items l x i s st K := fun c a w r => by
 obtain ⟨sel, h1, _⟩ := h
 exact hv c a w (r.weak h1)
theorem VI.loop {x : Code} (I : Nat -> Nat -> Bool -> St -> Prop) (z : Nat) (h0 : I z i s st) (round : ∀ z i s st, I z i s st -> VI P n items l x i s st (Exit.ithen (fun i' s' st' => ∃ z' st2, z' < z /\ WkE 0 st' st2 /\ I z' i' s' st2) K)) : VI P n items l (.loop x) i s st K := fun c a w r => by
 refine wpIn_loop (fun a w => ∃ z i s st, I z i s st /\ RI c n i s st a w) (fun a w => Classical.epsilon fun z => (∃ i s st, I z i s st /\ RI c n i s st a w) /\ ∀ z' i s st, I z' i s st -> RI c n i s st a w -> z <= z') ⟨z, i, s, st, h0, r⟩ ?_
 rintro a w ⟨z1, i1, s1, st1, hI, r1⟩
 have hleast : ∀ a w, (∃ z i s st, I z i s st /\ RI c n i s st a w) -> ∃ z, (∃ i s st, I z i s st /\ RI c n i s st a w) /\ ∀ z' i s st, I z' i s st -> RI c n i s st a w -> z <= z' := by
  rintro a w ⟨z, h⟩
  induction z using Nat.strongRecOn with
  | _ z ih =>
   by_cases hm : ∃ z', z' < z /\ ∃ i s st, I z' i s st /\ RI c n i s st a w
   ·obtain ⟨z', hlt, h'⟩ := hm
    exact ih z' hlt h'
   exact ⟨z, h, fun z' i s st h1 h2 => Nat.le_of_not_lt fun hlt => hm ⟨z', hlt, i, s, st, h1, h2⟩⟩
 obtain ⟨⟨i0, s0, st0, hI0, r0⟩, hmin⟩ := Classical.epsilon_spec (hleast a w ⟨z1, i1, s1, st1, hI, r1⟩)
 refine wpIn_mono (round _ i0 s0 st0 hI0 c a w r0) fun e a' w' ⟨i2, s2, st2, h1, h2⟩ => ?_
 cases e with
 | normal =>
  obtain ⟨z', st3, hlt, ⟨sel, hw, _⟩, hI'⟩ := h1
  have h3 := h2.weak hw
  refine ⟨⟨z', i2, s2, st3, hI', h3⟩, ?_⟩
  have := Classical.epsilon_spec (hleast a' w' ⟨z', i2, s2, st3, hI', h3⟩)
  exact Nat.lt_of_le_of_lt (this.2 z' i2 s2 st3 hI' h3) hlt
 | exit id => exact ⟨i2, s2, st2, h1, h2⟩
 | goto l => exact ⟨i2, s2, st2, h1, h2⟩
 | ret => exact ⟨i2, s2, st2, h1, h2⟩
 | panic ch => exact ⟨i2, s2, st2, h1, h2⟩
 | outgrown => exact ⟨i2, s2, st2, h1, h2⟩
theorem Acp {E : Ent} {F : Fence} (hF : FOk E F) {ops : Array Oper} {K : St -> Prop} {Q : Exit -> Act -> World -> Prop} {l2 : List Oper} (hQ : ∀ st β a w, K st -> Rel E β st a w -> wpListIn F 0 P ops Q l2 a w) : ∀ (l : List Oper) (hd : ∀ o ∈ l, ∀ x, o.dst = some x -> x < E.n) (st : St) (β : Nat -> Option Nat) (a : Act) (w : World),
 runs P (l.map fun o => ⟨o.dst, o.op, o.type, Mj ops o⟩) st K -> Rel E β st a w -> wpListIn F 0 P ops Q (l ++ l2) a w
 | [], _, st, β, a, w, h, r => hQ st β a w h r
 | o :: l, hd, st, β, a, w, h, r => by
  obtain ⟨hg, h⟩ := h
  rw [List.cons_append]
  unfold wpListIn
  simp only at h hg
  cases hc : Et o.op with
  | true =>
   rw [hc, if_pos rfl] at h
   obtain ⟨e, h1, h2⟩ := h
   exact Sh r (hd o (by simp)) hg (fun _ p _ hp => Gr st p.1 hp) h1 hF fun β' a' w' r' => Acp hF hQ l (fun x hx => hd x (by simp [hx])) _ β' a' w' h2 r'
  | false =>
   rw [hc, if_neg (by simp)] at h
   obtain ⟨h1, h2⟩ := h
   exact Sh r (hd o (by simp)) hg (fun _ p _ hp => Gr st p.1 hp) (fun hb => Abu hc (h1 hb)) hF fun β' a' w' r' => Acp hF hQ l (fun x hx => hd x (by simp [hx])) _ β' a' w' h2 r'
theorem VIL.nil {ops : Array Oper} (h : K .normal i s st) : VIL P n items l ops [] i s st K := fun c a w r => ⟨i, s, st, h, r⟩
theorem VIL.runs {ops : Array Oper} {l1 l2 : List Oper} (hd : Ff n l1 = true) (h : ∀ K1 : St -> Prop, (∀ st, VIL P n items l ops l2 i s st K -> K1 st) -> runs P (l1.map fun o => ⟨o.dst, o.op, o.type, Mj ops o⟩) st K1) : VIL P n items l ops (l1 ++ l2) i s st K := fun c a w ⟨E, β, L, h1, h2, h3, r, h4⟩ =>
 Acp (E := E) (.inl rfl) (fun st β a w hK r => hK c a w ⟨E, β, L, h1, h2, h3, r, h4⟩) l1 (fun o ho x hx => by rw [h1]; exact Nk hd o ho x hx) st β a w (h _ fun _ h => h) r
theorem VI.region {id : Nat} {os : List Oper} (h : VIL P n items l os.toArray os i s st K) : VI P n items l (.region id os.toArray false) i s st K := fun c a w r => wpIn_region_lit (h c a w r)
abbrev Dq := @VI.region
theorem VI.region_seq {id : Nat} {os : List Oper} {y : Code} (hd : Ff n os = true) (h : ∀ K1 : St -> Prop, (∀ st, VI P n items l y i s st K -> K1 st) -> Go.Proofs.YtkkimgjinbaemaaGreat.runs P (Fy os) st K1) : VI P n items l (.seq (.region id os.toArray false) y) i s st K := by
 refine .seq (.region ?_)
 have := VIL.runs (P := P) (n := n) (items := items) (l := l) (i := i) (s := s) (st := st) (K := Exit.ithen (fun i s st => VI P n items l y i s st K) K) (ops := os.toArray) (l1 := os) (l2 := []) hd fun K1 hK1 => h K1 fun st h => hK1 st (.nil h)
 rwa [List.append_nil] at this
abbrev B9 := @VI.region_seq
theorem VI.region1 {id : Nat} {os : List Oper} (hd : Ff n os = true) (h : ∀ K1 : St -> Prop, (∀ st, K .normal i s st -> K1 st) -> Go.Proofs.YtkkimgjinbaemaaGreat.runs P (Fy os) st K1) : VI P n items l (.region id os.toArray false) i s st K := by
 refine .region ?_
 have := VIL.runs (P := P) (n := n) (items := items) (l := l) (i := i) (s := s) (st := st) (K := K) (ops := os.toArray) (l1 := os) (l2 := []) hd fun K1 hK1 => h K1 fun st h => hK1 st (.nil h)
 rwa [List.append_nil] at this
abbrev Cr := @VI.region1
theorem VIL.yield {ops : Array Oper} {d : Tmp} {t : Tmp} {xs : List Operand} {ts : Array TypeId} {ty : TypeId} {p : String} {af : Array Edge} {gd : Option (Nat × Bool)} {l2 : List Oper} {vs : List AV}
 (hg : st.gc (Mj ops ⟨some d, .call ⟨.value (.tmp t), xs.toArray, ts⟩, ty, p, af, gd⟩)) (hb : st.gb (Mj ops ⟨some d, .call ⟨.value (.tmp t), xs.toArray, ts⟩, ty, p, af, gd⟩) = true) (hd : d < n)
  (hf : (El st.sl t).sv = .lit (.func (.yield l) #[] #[])) (hfb : (El st.sl t).sb = true) (hxb : (xs.all fun x => (st.raw x).sb) = true) (hvs : items[i]? = some vs) (hx : X3 (xs.map fun x => (st.raw x).sv) = vs) (hs : s = false)
  (h : ∀ b, VIL P n items l ops l2 (i + 1) b ⟨(d, .lit (.bool (!b))) :: Alv st.sl, []⟩ K) : VIL P n items l ops (⟨some d, .call ⟨.value (.tmp t), xs.toArray, ts⟩, ty, p, af, gd⟩ :: l2) i s st K := fun c a w ⟨E, β, L, h1, h2, h3, r, h4, h5, h6, h7⟩ => by
 subst hs
 unfold wpListIn
 rw [if_pos (by rw [U6 r ops _ hg]; exact hb)]
 have hEM : ∀ b, ¬ E.M b := fun b ⟨id, q1, _⟩ => q1 (h2 id)
 have hkp : Kp (fun _ => False) E.w0 w := ⟨r.kp.os, r.kp.tape, r.kp.output, r.kp.size, fun b hb _ => r.kp.block b hb (hEM b)⟩
 have hsz := r.kp.size
 have hJ := c.ab i false L E.w0 w h4 hkp
 have hSL : ∀ b, (E.C β st w).S false b -> ¬ L b /\ (c.Z b \/ c.W0 <= b) := fun b ⟨q1, q2, q3⟩ => by
  have q3 : E.w0.heap.size <= b \/ E.M b \/ (E.im b /\ (false = true -> E.fr b)) := q3
  rcases q3 with q3 | q3 | ⟨q3, _⟩
  ·exact ⟨fun hl => by have := h5 b hl; omega, .inr (by omega)⟩
  ·exact absurd q3 (hEM b)
  exact h6 b q3
 have hxv : ∀ x ∈ xs, Dv (E.C β st w) (st.raw x).sv (a.eval x) := fun x hx => (Lm r x).sv.1 (Am.1 hxb x hx)
 have hufo : a.eval (.tmp t) = .func (.yield l) #[] #[] := by
  have := (r.sl t).sv.1 hfb
  rw [hf] at this
  generalize hu : a.tmps.getD t undef = u at this
  cases this with
  | lit v => exact hu
 obtain ⟨fn, tmps, asg, body, hy, hR⟩ := c.rd i L w vs (xs.map a.eval).toArray hJ (fun b hb => by have := h5 b hb; omega) hvs (by rw [<- hx, Nz]; simp) fun j v u hv hu => by
  rw [<- hx, X2, Ap] at hv
  have hu : (xs.map a.eval)[j]? = some u := by simpa using hu
  rw [Ap] at hu
  cases hq : xs[j]? with
  | none => rw [hq] at hv; cases hv
  | some x =>
   rw [hq] at hv hu
   simp only [Ai, Option.some.injEq] at hv hu
   subst hv hu
   refine Dv.out (C := E.C β st w) (C' := VCZ c.W0 c.Z L w) (fun b cur ty fz _ h => h) (fun b hb => ?_) (hxv x (Ac hq))
   obtain ⟨q1, q2⟩ := hSL b hb
   exact ⟨hb.1, fun h => q1 (Af6.1 h), q2.elim (fun q2 => .inr (.inr ⟨q2, fun e => (by cases e)⟩)) fun q2 => .inl q2⟩
 refine ⟨fun f _ => trivial, ?_⟩
 have hrun : ((Oper.semAt Fence.wide.round a.eval ⟨some d, .call ⟨.value (.tmp t), xs.toArray, ts⟩, ty, p, af, gd⟩)).run P w = .ok (.round l fn tmps asg body) w := by
  rw [Oper.semAt_eq _ _ _ (fun c h => by cases h)]
  have e1 : xs.toArray.map a.eval = (xs.map a.eval).toArray := by simp
  simp only [execOp, resolve, hufo, Deferred.ofValue, Sem.run_bind, Sem.run_pure, Result.andThen_ok, invoke, Array.empty_append, Array.append_empty, e1]
  exact hy
 rw [hrun]
 refine ⟨fun h => (by cases h), hR.mono ?_⟩
 rintro e W' ⟨b, L', rfl, q1, q2, q3, q4, q5⟩
 refine h b c _ W' ⟨⟨W', fun _ => .gone, fun _ => none, fun b => (E.C β st w).S false b, fun _ => False, n, [], fun _ => none⟩, fun _ => none, L', rfl, fun _ => rfl, rfl, ?_, q1, q2, fun b hb => ⟨q5 b hb.1 (hSL b hb).1, (hSL b hb).2⟩, by show c.W0 <= W'.heap.size; omega⟩
 have r0 : Rel ⟨W', fun _ => .gone, fun _ => none, fun b => (E.C β st w).S false b, fun _ => False, n, [], fun _ => none⟩ (fun _ => none) ⟨Alv st.sl, []⟩ a W' := by
  refine ⟨r.sz.trans h1, fun t => ?_, by rw [r.df, h3], fun id => trivial, fun i j b hi => absurd rfl hi, fun i b hi => absurd rfl hi, Kp.refl _ _, ⟨fun id ty cs h => (by cases h), fun id ty k fr fz es h => (by cases h)⟩, fun b o h => (by cases h), List.nodup_nil, fun D h => by cases h⟩
  show Dv _ (El (Alv st.sl) t) _
  rw [Afv]
  refine (r.sl t).out (fun b cur ty fz hb hc => q4 b cur ty fz (hSL b hb).1 hc) fun b hb => ⟨?_, fun ⟨id, q6, _⟩ => (by cases q6), .inr (.inr ⟨hb, fun e => (by cases e)⟩)⟩
  have := hb.1
  show b < W'.heap.size
  have : b < w.heap.size := this
  omega
 exact r0.put (.lit (.bool (!b))) (some d) fun x hx => by injection hx with hx; subst hx; exact hd
theorem VIL.noyield {ops : Array Oper} {d : Tmp} {o : Oper} {l2 : List Oper} (hod : o.dst = some d) (hg : st.gc (Mj ops o)) (hb : st.gb (Mj ops o) = false) (hd : d < n) (h : VIL P n items l ops l2 i s ⟨(d, .gd false .any) :: st.sl, st.ob⟩ K) : VIL P n items l ops (o :: l2) i s st K := fun c a w ⟨E, β, L, h1, h2, h3, r, h4⟩ => by
 unfold wpListIn
 rw [if_neg (by rw [U6 r ops _ hg, hb]; simp)]
 refine ⟨fun f _ => trivial, h c _ w ⟨E, β, L, h1, h2, h3, ?_, h4⟩⟩
 rw [hod]
 exact r.put (.gd false _ _ (fun e => by cases e) fun _ => rfl) (some d) fun x hx => by injection hx with hx; subst hx; rw [h1]; exact hd
end
section
variable {n : Nat} {items : List (List AV)} {l i : Nat} {s : Bool} {st : St} {K : Exit -> Nat -> Bool -> St -> Prop}
theorem VI.range {c : Code} (N : Nat) (f : Nat -> St) (ix : Nat -> Nat) (Inv : Nat -> Prop) (h0 : WkE 0 st (f 0)) (hi0 : i = ix 0 /\ s = false /\ Inv 0) (round : ∀ k, k <= N -> Inv k -> VI P n items l c (ix k) false (f k) (Exit.ithen (fun i' s' st' => k < N /\ i' = ix (k + 1) /\ s' = false /\ Inv (k + 1) /\ WkE 0 st' (f (k + 1))) K)) : VI P n items l (.loop c) i s st K := by
 refine .wkE h0 ?_
 obtain ⟨rfl, rfl, hI⟩ := hi0
 refine .loop (fun z i s st => ∃ k, k + z = N /\ Inv k /\ i = ix k /\ s = false /\ st = f k) N ⟨0, by omega, hI, rfl, rfl, rfl⟩ ?_
 rintro z i s st ⟨k, hk, hI, rfl, rfl, rfl⟩
 intro c a w r
 refine wpIn_mono (round k (by omega) hI c a w r) fun e a w ⟨i, s, st, h1, h2⟩ => ⟨i, s, st, ?_, h2⟩
 cases e with
 | normal =>
  obtain ⟨h3, h4, h5, h6, h7⟩ := h1
  exact ⟨z - 1, _, by omega, h7, k + 1, by omega, h6, h4, h5, rfl⟩
 | _ => exact h1
abbrev Dm := @VI.range
theorem VIL.first {ops : Array Oper} {os : List Oper} (k : Nat) (hd : Ff n (os.take k) = true) (h : ∀ K1 : St -> Prop, (∀ st, VIL P n items l ops (os.drop k) i s st K -> K1 st) -> Go.Proofs.YtkkimgjinbaemaaGreat.runs P ((os.take k).map fun o => ⟨o.dst, o.op, o.type, Mj ops o⟩) st K1) : VIL P n items l ops os i s st K := by
 have := VIL.runs (P := P) (n := n) (items := items) (l := l) (i := i) (s := s) (st := st) (K := K) (ops := ops) (l1 := os.take k) (l2 := os.drop k) hd h
 rwa [List.take_append_drop] at this
theorem VIL.rest {ops : Array Oper} {os : List Oper} (hd : Ff n os = true) (h : ∀ K1 : St -> Prop, (∀ st, K .normal i s st -> K1 st) -> Go.Proofs.YtkkimgjinbaemaaGreat.runs P (os.map fun o => ⟨o.dst, o.op, o.type, Mj ops o⟩) st K1) : VIL P n items l ops os i s st K := by
 have := VIL.runs (P := P) (n := n) (items := items) (l := l) (i := i) (s := s) (st := st) (K := K) (ops := ops) (l1 := os) (l2 := []) hd fun K1 hK1 => h K1 fun st h => hK1 st (.nil h)
 rwa [List.append_nil] at this
end
theorem Abp {gf : FuncId} {fn : Func} {code : Code} {caps : List AV} {items : List (List AV)} (hf : P.funcs[gf]? = some fn) (hb : fn.body = some code) (hn : (fn.name == "runtime.NumGoroutine") = false) (hrs : fn.results = #[]) (hk : caps.length + 1 <= fn.ntmps) (hc : X3 caps = caps)
 (h : ∀ l, VI P fn.ntmps items l code 0 false ⟨Hc 0 (.lit (.func (.yield l) #[] #[]) :: caps), []⟩ fun e i s st => (e = .normal \/ e = .ret) /\ (s = false -> i = items.length)) : Wa P gf caps items := by
 have hcal : Adz P gf := ⟨fn, hf, by rw [hb]; rfl, hn⟩
 refine ⟨hcal, fun C lb W hsz hS hv l L0 J hL0 hL1 hab hrd h0 => ?_⟩
 have hlb : lb.size = caps.length := by cases hv with | fn f cs us h1 h2 => exact h1.symm
 have hcr : ∀ (j : Nat) (c : AV) (u : Value), caps[j]? = some c -> lb[j]? = some u -> Dv C c u := by cases hv with | fn f cs us h1 h2 => exact h2
 refine (callsIn_wide (n := 0)).1 (callsIn_of_wp_marks hf hb trivial ?_)
 let c : YC P items l := ⟨W.heap.size, C.S false, J, hab, hrd⟩
 have hr : Rel ⟨W, fun _ => .gone, fun _ => none, fun b => C.S false b, fun _ => False, fn.ntmps, [], fun _ => none⟩ (fun _ => none) ⟨Hc 0 (.lit (.func (.yield l) #[] #[]) :: caps), []⟩ ⟨(#[.func (.yield l) #[] #[]] ++ lb) ++ Array.replicate (fn.ntmps - (#[Value.func (.yield l) #[] #[]] ++ lb).size) undef, []⟩ W := by
  refine ⟨by simp [hlb]; omega, fun t => ?_, rfl, fun id => trivial, fun i j b hi => absurd rfl hi, fun i b hi => absurd rfl hi, Kp.refl _ _, ⟨fun id ty cs h => (by cases h), fun id ty k fr fz es h => (by cases h)⟩, fun b o h => (by cases h), List.nodup_nil, fun D h => by cases h⟩
  show Dv _ (El (Hc 0 _) t) _
  rw [Kn, if_pos (Ae _), Nat.sub_zero, Ad]
  cases t with
  | zero =>
   have : ((#[Value.func (.yield l) #[] #[]] ++ lb) ++ Array.replicate (fn.ntmps - (#[Value.func (.yield l) #[] #[]] ++ lb).size) undef).getD 0 undef = .func (.yield l) #[] #[] := by
    rw [Av, Bk (by simp; omega), Bk (by simp)]; rfl
   show Dv _ _ (((#[Value.func (.yield l) #[] #[]] ++ lb) ++ Array.replicate (fn.ntmps - (#[Value.func (.yield l) #[] #[]] ++ lb).size) undef).getD 0 undef)
   rw [this]
   exact .lit _
  | succ t =>
   rw [Bb]
   cases hq : caps[t]? with
   | none => exact .any _
   | some x =>
    have ht : t < lb.size := by rw [hlb]; exact (Ab.1 hq).1
    have h3 := hcr t x _ hq (Al ht)
    have h4 := h3.out (C' := (⟨W, fun _ => .gone, fun _ => none, fun b => C.S false b, fun _ => False, fn.ntmps, [], fun _ => none⟩ : Ent).C (fun _ => none) ⟨Hc 0 (.lit (.func (.yield l) #[] #[]) :: caps), []⟩ W) (fun b cur ty fz hb hc => (hS b hb).trans hc) fun b hb => ⟨by have := hb.1; show b < W.heap.size; omega, fun ⟨id, q, _⟩ => (by cases q), .inr (.inr ⟨hb, fun e => (by cases e)⟩)⟩
    have h5 : x.out = x := by
     have := X2 caps t
     rw [hc, hq] at this
     simpa using this.symm
    rw [h5] at h4
    rw [Av, Bk (by simp; omega), Array.getElem?_append_right (by simp)]
    simp only [List.size_toArray, A6, List.length_nil, Bm, Nat.add_sub_cancel]
    rw [Al ht]
    exact h4
 refine wpIn_mono (h l c _ W ⟨_, _, L0, rfl, fun _ => rfl, rfl, hr, h0, hL0, fun b hb => ⟨hL1 b hb, .inl hb⟩, Aj _⟩) fun e a w ⟨i, s, st, ⟨he, hi⟩, E, β, L, h1, h2, h3, r, h4, h5, h6, h7⟩ => ?_
 have hEM : ∀ b, ¬ E.M b := fun b ⟨id, q1, _⟩ => q1 (h2 id)
 have hJ := hab i s L E.w0 w h4 ⟨r.kp.os, r.kp.tape, r.kp.output, r.kp.size, fun b hb _ => r.kp.block b hb (hEM b)⟩
 have key : LeavesInM Fence.wide 0 P fn a.tmps (fun e W' => (∃ v, e = .returned v) /\ ∃ i s L', J i s L' W' /\ (s = false -> i = items.length)) a.defers .returning w := by
  rw [r.df, h3]
  obtain ⟨v, g1, _⟩ := Afp (P := P) r (fn := fn) (rs := []) hrs trivial
  exact ⟨v, g1, ⟨v, rfl⟩, i, s, L, hJ, hi⟩
 rcases he with rfl | rfl <;> exact key
def Wo : AV -> Option T
 | .lit v => some (.lit v)
 | .imm _ k es => some (.sl k es)
 | .nil k => some (.sl k [])
 | .fn f [.iptr _ cs off] => some (.fn f cs off)
 | _ => none
theorem Ag0 {f : FuncId} {cs : List AV} {x : T} (h : Wo (.fn f cs) = some x) : ∃ fr ts off, cs = [.iptr fr ts off] /\ x = .fn f ts off := by
 unfold Wo at h
 split at h <;> rename_i hx
 all_goals first | cases hx | skip
 all_goals first | (injection h with h; exact ⟨_, _, _, rfl, h.symm⟩) | cases h
def ttL : List AV -> Option (List T)
 | [] => some []
 | c :: cs => match Wo c with
  | none => none
  | some t => match ttL cs with
   | none => none
   | some ts => some (t :: ts)
theorem Abh : ∀ {cs : List AV} {ts : List T}, ttL cs = some ts -> ∀ (j : Nat) (x : T), ts[j]? = some x -> ∃ c, cs[j]? = some c /\ Wo c = some x
 | [], ts, h, j, x, hx => by
  simp only [ttL, Option.some.injEq] at h
  subst h
  simp at hx
 | c :: cs, ts, h, j, x, hx => by
  unfold ttL at h
  split at h
  ·cases h
  rename_i t ht
  split at h
  ·cases h
  rename_i ts' hts
  simp only [Option.some.injEq] at h
  subst h
  cases j with
  | zero => simp at hx; subst hx; exact ⟨c, rfl, ht⟩
  | succ j => simp at hx; exact Abh hts j x hx
mutual
def AV.bx (o : Nat -> Ob) : AV -> AV
 | .ptr id off => match o id with
  | .box _ cs => (match ttL cs with | some ts => .iptr false ts off | none => .any)
  | _ => .any
 | .imm _ k es => .imm false k es
 | .nil k => .imm false k []
 | .iptr _ cs off => .iptr false cs off
 | .agg cs => .agg (bxL o cs)
 | .tup cs => .tup (bxL o cs)
 | .fn f cs => .fn f (bxL o cs)
 | .lit v => .lit v
 | .gd t v => .gd t (v.bx o)
 | _ => .any
def bxL (o : Nat -> Ob) : List AV -> List AV
 | [] => []
 | c :: cs => c.bx o :: bxL o cs
end
theorem Anj (o : Nat -> Ob) : ∀ (cs : List AV) (i : Nat), (bxL o cs)[i]? = (cs[i]?).map (AV.bx o)
 | [], i => by simp [bxL]
 | c :: cs, 0 => by simp [bxL]
 | c :: cs, i + 1 => by simp [bxL, Anj o cs i]
theorem Su (o : Nat -> Ob) : ∀ (cs : List AV), (bxL o cs).length = cs.length
 | [] => rfl
 | c :: cs => by simp [bxL, Su o cs]
theorem Dv.bx {E : Ent} {β : Nat -> Option Nat} {st : St} {a : Act} {w : World} (r : Rel E β st a w) {C' : VC} (hh : C'.h = w.heap) (hS : ∀ b, (E.C β st w).S false b -> C'.S false b) (hB : ∀ id ty cs b, st.o id = .box ty cs -> β id = some b -> C'.S false b) {c : AV} {u : Value} (h : Dv (E.C β st w) c u) : Dv C' (c.bx st.o) u := by
 have hT : ∀ fr t u, F3 w.heap ((E.C β st w).S fr) t u -> F3 C'.h (C'.S false) t u := fun fr t u h => by
  rw [hh]
  exact (VC.T_weak (C := E.C β st w) (g := false) h fun e => by cases e).keep (fun _ _ => rfl) hS
 have hL : ∀ (cs : List AV) (us : Array Value), (∀ (i : Nat) (c : AV) (u : Value), cs[i]? = some c -> us[i]? = some u -> Dv C' (c.bx st.o) u) -> ∀ (i : Nat) (c : AV) (u : Value), (bxL st.o cs)[i]? = some c -> us[i]? = some u -> Dv C' c u := fun cs us ih i c u hc hu => by
  rw [Anj] at hc
  cases hx : cs[i]? with
  | none => rw [hx] at hc; cases hc
  | some x =>
   rw [hx] at hc
   simp only [Ai, Option.some.injEq] at hc
   subst hc
   exact ih i x u hx hu
 induction h with
 | any u => exact .any u
 | lit v => exact .lit v
 | nil k A => exact .imm _ _ _ _ (.nil _ _ _)
 | imm fr k es u h => exact .imm _ _ _ _ (hT fr _ _ h)
 | own id n u h => exact .any u
 | sub id n lo m u h => exact .any u
 | rptr id n i off u h => exact .any u
 | bsl id n u h => exact .any u
 | ptr id off u h =>
  obtain ⟨ty, cs, b, ho, hb, rfl⟩ := h
  have ho : st.o id = _ := ho
  have hb : β id = some b := hb
  simp only [AV.bx, ho]
  cases hq : ttL cs with
  | none => exact .any _
  | some ts =>
   have hr := r.ob id
   rw [ho] at hr
   obtain ⟨b', cur, q1, q2, q3, q4⟩ := hr
   have q1 : β id = some b' := q1
   rw [hb] at q1
   injection q1 with q1
   subst q1
   have hcell : ∀ (j : Nat) (x : T), ts[j]? = some x -> cur[0 + j]? = some ((cur[j]?).getD undef) /\ F3 C'.h (C'.S false) x ((cur[j]?).getD undef) := fun j x hx => by
    obtain ⟨c, h1, h2⟩ := Abh hq j x hx
    have hj : j < cur.size := Nat.lt_of_lt_of_le (Ab.1 h1).1 q3
    have h3 : cur[j]? = some cur[j] := Al hj
    obtain ⟨h4, h5⟩ := q4 j c _ h1 h3
    rw [Bm, h3]
    refine ⟨rfl, ?_⟩
    simp only [Bh]
    generalize cur[j] = u at h4 h5
    cases h4 with
    | lit v => simp only [Wo, Option.some.injEq] at h2; subst h2; exact .lit _ h5
    | nil k A => simp only [Wo, Option.some.injEq] at h2; subst h2; exact .nil _ _ _
    | imm fr k es u h => simp only [Wo, Option.some.injEq] at h2; subst h2; exact hT fr _ _ h
    | fn f cs us g1 g2 =>
     obtain ⟨fr, ts', off', rfl, rfl⟩ := Ag0 h2
     exact hT fr _ _ (Dv.fn1 (.fn f _ us g1 g2))
    | _ => cases h2
   have := Dv.iptr (C := C') false ts off b 0 cur ty (0, 0) (fun j => (cur[j]?).getD undef) (by rw [hh]; exact q2) (hB id ty cs b ho hb) hcell
   rwa [Bm] at this
 | iptr fr cs off b o cur ty fz us h1 h2 h3 => exact .iptr false cs off b o cur ty fz us (by rw [hh]; exact h1) (hS b (VC.S_weak h2)) fun j x hx => ⟨(h3 j x hx).1, hT fr _ _ (h3 j x hx).2⟩
 | agg cs us h1 h2 ih => exact .agg _ _ (by rw [Su]; exact h1) (hL cs us ih)
 | tup cs us h1 h2 ih => exact .tup _ _ (by rw [Su]; exact h1) (hL cs us ih)
 | fn f cs us h1 h2 ih => exact .fn f _ _ (by rw [Su]; exact h1) (hL cs us ih)
 | gd t v u h1 h2 ih => exact .gd t _ u (fun e => ih e) h2
theorem Ei.boxes {f : FuncId} {args : List AV} {σr : List Ob} {res res' : AV} (h : Ei P f [] args σr res) (hr : res.bx (St.mk [] σr).o = res') : Ei P f [] args [] res' := by
 refine ⟨h.1, fun E β us hn ho hβ r => (h.2 E β us hn ho hβ r).mono ?_⟩
 rintro e w' ⟨v, β', rfl, r1⟩
 refine ⟨v, fun _ => none, rfl, r1.sz, fun t => ?_, r1.df, fun id => trivial, fun i j b hi => absurd rfl hi, fun i b hi => absurd rfl hi, r1.kp, ⟨fun id ty cs hc => ?_, fun id ty k fr fz es hc => ?_⟩, r1.kb, r1.dk⟩
 ·cases t with
  | zero =>
   have h1 := r1.sl 0
   have h2 := Dv.bx (C' := ({ E with n := 1 } : Ent).C (fun _ => none) ⟨[(0, res')], []⟩ w') r1 rfl (fun b hb => ⟨hb.1, fun ⟨id, q, _⟩ => (by cases q), hb.2.2⟩) (fun id ty cs b h3 h4 => by
    have := r1.rng id b (by rw [h3]; simp) h4
    exact ⟨this.1, fun ⟨id, q, _⟩ => (by cases q), this.2.elim .inl fun h => .inr (.inl h)⟩) h1
   show Dv _ res' _
   rw [<- hr]
   exact h2
  | succ t => exact .any _
 ·have hc : E.o0 id = _ := hc
  rw [ho] at hc
  simp [St.o] at hc
 have hc : E.o0 id = _ := hc
 rw [ho] at hc
 simp [St.o] at hc
theorem At8 {st : St} : st.raw (.const .nilFunc) = .lit .nilFunc := rfl
attribute [go_sem] At8 AV.out X3 Alv Wo ttL AV.bx bxL
end
theorem Jz (l : List Es) (fid : FuncId) (caps : List AV) (p : Es -> Bool) (hl : l.length <= 1000000) (hc : Ya caps) (hp : ∀ t, PP fid [] (t.g :: caps) [] (.lb (p t))) : PP 198 [] [.mClaim l, .fn fid caps] [] (.lb (decide (0 <= Hi p l))) := by
 refine Eb Tryz.func198 ?_
 refine Ce (fun K kk => by simp [go_sem, hc.pass, hc.passC, hc.bor, hc.low]; exact kk) ?_
 refine Ce (fun K kk => by simp [go_sem, hc.pass, hc.passC, hc.bor, hc.low]; refine .lo (Xg l fid caps p hl hc hp) (by simp [go_sem, hc.low]) (by simp) ?_; simp [go_sem, hc.pass, hc.passC, hc.bor, hc.low]; exact kk) ?_
 exact .ret (rL ok0)
theorem Ua (l : List Fd) (fid : FuncId) (caps : List AV) (p : Fd -> Bool) (hl : l.length <= 1000000) (hc : Ya caps) (hp : ∀ t, PP fid [] (t.g :: caps) [] (.lb (p t))) : PP 249 [] [.mLight l, .fn fid caps] [] (.lb (decide (0 <= Hi p l))) := by
 refine Eb Tryz.func249 ?_
 refine Ce (fun K kk => by simp [go_sem, hc.pass, hc.passC, hc.bor, hc.low]; exact kk) ?_
 refine Ce (fun K kk => by simp [go_sem, hc.pass, hc.passC, hc.bor, hc.low]; refine .lo (Xf l fid caps p hl hc hp) (by simp [go_sem, hc.low]) (by simp) ?_; simp [go_sem, hc.pass, hc.passC, hc.bor, hc.low]; exact kk) ?_
 exact .ret (rL ok0)
def Ai2 (l : List Fi) (at' : Int) : Int := match l[at'.toNat]? with
 | some t => t.par
 | none => 0
def Pq (l : List Fi) : Nat -> Int -> List Int
 | 0, _ => []
 | n + 1, x => if Gg l x then x :: Pq l n (Ai2 l x) else []
def Tc (l : List Fi) (s : Int) : List Int := Pq l 8 s
def Aa1 (l : List Fi) (s : Int) : Nat -> Int
 | 0 => s
 | k + 1 => Ai2 l (Aa1 l s k)
theorem Po {l : List Fi} {s : Int} (h : Gg l s = true) : 0 <= s /\ ∃ t, l[s.toNat]? = some t /\ t.used = true := by
 unfold Gg at h
 simp only [Ah, decide_eq_true_eq] at h
 refine ⟨h.1, ?_⟩
 have h2 := h.2
 split at h2
 ·exact ⟨_, by assumption, h2⟩
 cases h2
theorem T7 (l : List Fi) (slot : Int) : Wa Tryz.prog 206 [.iptr false [.li slot] 0, .iptr false [.sl 6 (M9 l)] 0] ((Tc l slot).map fun a => [.li a]) := by
 refine Abp Tryz.func206 rfl rfl rfl (by simp [Tryz.ntmps206]) rfl fun yl => ?_
 refine B9 (by rfl) fun K1 hK1 => ?_
 simp [go_sem]
 refine hK1 _ ?_; clear hK1
 refine B9 (by rfl) fun K1 hK1 => ?_
 simp [go_sem]
 refine hK1 _ ?_; clear hK1
 refine Cv ?_
 refine Dm 8 (fun k => ⟨[(0, .lit (.func (.yield yl) #[] #[])), (1, .iptr false [.li slot] 0), (2, .iptr false [.sl 6 (M9 l)] 0), (4, .li (Aa1 l slot k)), (6, .li k)], []⟩) (fun k => k)
  (fun k => k <= (Tc l slot).length /\ (Tc l slot).drop k = Pq l (8 - k) (Aa1 l slot k)) ⟨[], Ds (by decide) ?_ ?_, by simp⟩ ⟨rfl, rfl, by simp, rfl⟩ fun k hk ⟨hI1, hI2⟩ => ?_
 ·simp [go_sem, Aa1]
 ·simp [go_sem]
 refine B9 (by rfl) fun K1 hK1 => ?_
 simp [go_sem]
 refine hK1 _ ?_; clear hK1
 refine Cw ?_
 refine VI.Q ?_ ?_ <;> intro h7
 ·have hk8 : k < 8 := by omega
  have hsub : 8 - k = (8 - (k + 1)) + 1 := by omega
  rw [hsub, Pq] at hI2
  refine Db ?_
  refine Cw ?_
  refine Cv ?_
  refine Cw ?_
  refine Cw (Dq ?_)
  refine VIL.first 7 (by rfl) fun K1 hK1 => ?_
  cases hu : Gg l (Aa1 l slot k) with
  | true =>
   rw [hu, if_pos rfl] at hI2
   obtain ⟨h0, t, hx, _⟩ := Po hu
   have hlt := (Ab.1 hx).1
   have hlen : k < (Tc l slot).length := by
    have := congrArg List.length hI2
    simp at this
    omega
   have hit : (Tc l slot)[k]? = some (Aa1 l slot k) := by
    have := congrArg (fun l => l[0]?) hI2
    simpa using this
   have hdr : (Tc l slot).drop (k + 1) = Pq l (8 - (k + 1)) (Aa1 l slot (k + 1)) := by
    have := congrArg (List.drop 1) hI2
    rw [List.drop_drop] at this
    simpa [Aa1] using this
   simp [go_sem]
   refine .l (O3 l (Aa1 l slot k)) ?_
   simp [go_sem, hu]
   refine hK1 _ ?_; clear hK1
   refine VIL.yield (vs := [.li (Aa1 l slot k)]) (by simp [go_sem]) (by simp [go_sem]) (by decide) (by simp [go_sem]) (by simp [go_sem]) (by simp [go_sem]) (by simp [hit]) (by simp [go_sem]) rfl fun b => ?_
   refine VIL.rest (by rfl) fun K1 hK1 => ?_
   cases b with
   | true =>
    simp [go_sem]
    refine hK1 _ ?_; clear hK1
    refine C4 (by simp [go_sem]) (by simp [go_sem]) (fun h17 => ?_) (fun h17 => ?_) <;> simp [go_sem] at h17
    exact VI.ret ⟨.inr rfl, fun h => by cases h⟩
   | false =>
    simp [go_sem]
    refine hK1 _ ?_; clear hK1
    refine C4 (by simp [go_sem]) (by simp [go_sem]) (fun h17 => ?_) (fun h17 => ?_) <;> simp [go_sem] at h17
    refine Db ?_
    refine Cr (by rfl) fun K1 hK1 => ?_
    simp [go_sem, hx]
    repeat' with_reducible refine Ax ?_ ?_
    all_goals try (intros; (repeat' refine Ax ?_ ?_) <;> omega)
    refine hK1 _ ?_; clear hK1
    refine Cr (by rfl) fun K1 hK1 => ?_
    simp [go_sem]
    refine hK1 _ ?_; clear hK1
    refine ⟨by omega, rfl, rfl, ⟨by omega, hdr⟩, [], Ds (by decide) ?_ ?_, by simp⟩
    ·simp [go_sem, Dt ((k : Int) + 1), Aa1, Ai2, hx]
    simp [go_sem]
  | false =>
   rw [hu, if_neg (by simp)] at hI2
   have hlen : k = (Tc l slot).length := by
    have := congrArg List.length hI2
    simp at this
    omega
   simp [go_sem]
   refine .l (O3 l (Aa1 l slot k)) ?_
   simp [go_sem, hu]
   refine hK1 _ ?_; clear hK1
   refine VIL.noyield (d := 15) rfl (by simp [go_sem]) (by simp [go_sem]) (by decide) ?_
   refine VIL.rest (by rfl) fun K1 hK1 => ?_
   simp [go_sem]
   refine hK1 _ ?_; clear hK1
   refine C4 (by simp [go_sem]) (by simp [go_sem]) (fun h17 => ?_) (fun h17 => ?_) <;> simp [go_sem] at h17
   exact VI.ret ⟨.inr rfl, fun _ => by simp [hlen]⟩
 have hk8 : k = 8 := by omega
 subst hk8
 refine VI.exit ?_
 have : (Tc l slot).length = 8 := by
  have := congrArg List.length hI2
  simp [Pq] at this
  omega
 exact ⟨.inl rfl, fun _ => by simp [this]⟩
theorem Qa (l : List Fi) (slot : Int) : PP 184 [] [.mTok l, .li slot] [] (.fn 206 [.iptr false [.li slot] 0, .iptr false [.sl 6 (M9 l)] 0]) := by
 refine Ei.boxes (σr := [.box 61 [.mTok l], .box 3 [.li slot]]) (res := .fn 206 [.ptr 1 0, .ptr 0 0]) ?_ (by simp [go_sem, St.o])
 refine Eb Tryz.func184 ?_
 iterate 2 refine Bw ?_
 exact .ret (rW ok0 [0, 1])
end Go.Proofs.YtkkimgjinbaemaaGreat
