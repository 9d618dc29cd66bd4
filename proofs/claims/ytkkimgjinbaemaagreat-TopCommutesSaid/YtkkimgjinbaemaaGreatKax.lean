/- The walk. -/
import Derived.Test.YtkkimgjinbaemaaGreatKaw
namespace Go.Proofs.YtkkimgjinbaemaaGreat
open Go.RowKit
set_option linter.unusedVariables false
set_option linter.unusedSimpArgs false
set_option maxRecDepth 100000
set_option maxHeartbeats 4000000
def Cc (n lo hi : Int) : Bool := decide (lo <= n) && decide (n <= hi)
def Gb (p : C9) : Bool := (Cc p.ring 0 1 && Cc p.grp 0 3) && (Cc p.mi 1 60 && Cc p.ma 1 60 && Cc p.ye 1 60) && (Cc p.re 0 60 && Cc p.wa 0 60 && Cc p.cl 0 60) &&
 (decide (p.mi <= p.ma) && decide (IntKind.i64.wrap (p.wa + p.cl) <= p.ma) && ((p.wa == 0) == (p.cl == 0)))
theorem Amc {α : Type} {l : List α} {p : α -> Prop} {i : Nat} {y : α} (h : ∀ k x, k < i -> l[k]? = some x -> p x) (hy : l[i]? = some y) (hi : p y) : ∀ k x, k < i + 1 -> l[k]? = some x -> p x := fun k x hk hx => by
 by_cases e : k = i
 ·subst e; rw [hy] at hx; injection hx with hx; subst hx; exact hi
 exact h k x (by omega) hx
def Kv (j : Df) (p : Nat) : C9 := (j.phs[p]?).getD ⟨0, 0, 0, 0, 0, 0, 0, 0⟩
def Vd (j : Df) (p q : Nat) : Bool := (p != q) && ((Kv j p).ring == (Kv j q).ring || (Kv j p).grp != (Kv j q).grp) && !Wj j.con p q
def Sw (j : Df) : Bool := Kx j.phs.length fun p => Kx j.phs.length fun q => !Vd j p q
theorem B9 (n lo hi : Int) : PP 79 [] [.li n, .li lo, .li hi] [] (.lb (Cc n lo hi)) := by
 refine B0 Tryz.func79 ?_
 iterate 2 refine VW.R ?_
 refine VW.ret (B2 (by simp [go_sem]) ?_)
 simp [go_sem, Cc]
theorem Ady (p : C9) : PP 108 [] [p.g] [] (.lb (Gb p)) := by
 refine B0 Tryz.func108 ?_
 refine VW.R <| .seq ?_
 refine VW.region_seq (by rfl) fun K1 hK1 => ?_
 simp [go_sem]
 refine .lo (B9 _ _ _) rfl (by simp) ?_
 simp [go_sem]
 refine Bz (by simp [go_sem]) (by simp [go_sem]) ?_
 simp [go_sem]
 first | refine .lo (B9 _ _ _) rfl (by simp) ?_ | refine .skip ?_
 simp [go_sem]
 refine hK1 _ ?_; clear hK1
 refine VW.C ?_ ?_ <;> intro h12 <;> simp [go_sem] at h12
 ·refine VW.R ?_
  refine VW.ret (B2 (by simp [go_sem]) ?_)
  simp [go_sem]
  unfold Gb
  revert h12
  cases Cc p.ring 0 1 <;> cases Cc p.grp 0 3 <;> simp [Gb]
 refine VW.skip <| .seq ?_
 refine VW.region_seq (by rfl) fun K1 hK1 => ?_
 simp [go_sem]
 refine .lo (B9 _ _ _) rfl (by simp) ?_
 simp [go_sem]
 refine Bz (by simp [go_sem]) (by simp [go_sem]) ?_
 simp [go_sem]
 first | refine .lo (B9 _ _ _) rfl (by simp) ?_ | refine .skip ?_
 simp [go_sem]
 refine Bz (by simp [go_sem]) (by simp [go_sem]) ?_
 simp [go_sem]
 first | refine .lo (B9 _ _ _) rfl (by simp) ?_ | refine .skip ?_
 simp [go_sem]
 refine hK1 _ ?_; clear hK1
 refine VW.C ?_ ?_ <;> intro h28 <;> simp [go_sem] at h28
 ·refine VW.R ?_
  refine VW.ret (B2 (by simp [go_sem]) ?_)
  simp [go_sem]
  unfold Gb
  revert h28
  cases Cc p.mi 1 60 <;> cases Cc p.ma 1 60 <;> cases Cc p.ye 1 60 <;> simp [Gb]
 refine VW.skip <| .seq ?_
 refine VW.region_seq (by rfl) fun K1 hK1 => ?_
 simp [go_sem]
 refine .lo (B9 _ _ _) rfl (by simp) ?_
 simp [go_sem]
 refine Bz (by simp [go_sem]) (by simp [go_sem]) ?_
 simp [go_sem]
 first | refine .lo (B9 _ _ _) rfl (by simp) ?_ | refine .skip ?_
 simp [go_sem]
 refine Bz (by simp [go_sem]) (by simp [go_sem]) ?_
 simp [go_sem]
 first | refine .lo (B9 _ _ _) rfl (by simp) ?_ | refine .skip ?_
 simp [go_sem]
 refine hK1 _ ?_; clear hK1
 refine VW.C ?_ ?_ <;> intro h44 <;> simp [go_sem] at h44
 ·refine VW.R ?_
  refine VW.ret (B2 (by simp [go_sem]) ?_)
  simp [go_sem]
  unfold Gb
  revert h44
  cases Cc p.re 0 60 <;> cases Cc p.wa 0 60 <;> cases Cc p.cl 0 60 <;> simp [Gb]
 refine VW.skip <| .R ?_
 refine VW.ret (B2 (by simp [go_sem]) ?_)
 simp [go_sem]
 simp_all [Gb]
theorem Adz (j : Df) (h1 : j.phs.length <= 1000000) (h2 : j.con.length <= 1000000) : PP 109 [] [j.g] [] (.lb (Sw j)) := by
 refine B0 Tryz.func109 ?_
 refine VW.R ?_
 refine VW.scope ?_
 refine VW.R <| .seq ?_
 refine VW.label ?_
 refine VW.seq <| .R <| .block ?_
 refine VW.rangeE j.phs.length (fun i1 (y1 : Unit) => ⟨[(1, .ptr 0 0), (3, .lb true), (9, .mPhase j.phs), (10, .li j.phs.length), (11, .li i1)], [.box 88 [.mPhase j.phs, .mI j.con, .li j.start]]⟩) (fun i1 y1 => ∀ k, k < i1 -> (Kx j.phs.length fun q => !Vd j k q) = true) (()) ⟨[0], Bp (by decide) ?_ ?_, by simp⟩ (by intro k h; omega) fun i1 y1 hi1 hy1 => ?_
 ·simp [go_sem]
 ·simp [go_sem]
 refine VW.R <| .seq ?_
 refine VW.C ?_ ?_ <;> intro h12 <;> simp [go_sem] at h12
 ·have hxa : j.phs[i1]? = some j.phs[i1] := Aa (by omega)
  generalize j.phs[i1] = a at hxa
  have haa : Kv j i1 = a := by simp only [Kv, hxa, Bh]
  refine VW.skip <| .seq <| .block <| .H hxa ?_
  refine VW.R <| .block ?_
  refine VW.rangeE j.phs.length (fun i2 (y2 : Unit) => ⟨[(1, .ptr 0 0), (3, .lb true), (4, .li i1), (5, .ptr 1 0), (9, .mPhase j.phs), (10, .li j.phs.length), (11, .li i1), (17, .mPhase j.phs), (18, .li j.phs.length), (19, .li i2)], [.box 88 [.mPhase j.phs, .mI j.con, .li j.start], .box 124 [.li a.ring, .li a.grp, .li a.mi, .li a.ma, .li a.ye, .li a.re, .li a.wa, .li a.cl]]⟩) (fun i2 y2 => ∀ k, k < i2 -> (!Vd j i1 k) = true) (()) ⟨[0, 1], Bp (by decide) ?_ ?_, by simp⟩ (by intro k h; omega) fun i2 y2 hi2 hy2 => ?_
  ·simp [go_sem]
  ·simp [go_sem]
  refine VW.R <| .seq ?_
  refine VW.C ?_ ?_ <;> intro h20 <;> simp [go_sem] at h20
  ·have hxb : j.phs[i2]? = some j.phs[i2] := Aa (by omega)
   generalize j.phs[i2] = b at hxb
   have hab : Kv j i2 = b := by simp only [Kv, hxb, Bh]
   refine VW.skip <| .seq <| .block <| .H hxb ?_
   refine VW.region_seq (by rfl) fun K1 hK1 => ?_
   simp +contextual [go_sem]
   refine Bz (by simp [go_sem]) (by simp [go_sem]) ?_
   simp +contextual [go_sem]
   first | refine .lo (Fe j.con i1 i2 h2) rfl (by simp) ?_ | refine .skip ?_
   simp +contextual [go_sem]
   refine hK1 _ ?_; clear hK1
   refine VW.C ?_ ?_ <;> intro h48 <;> simp [go_sem] at h48
   ·refine VW.R <| .exit ?_
    refine VW.R ?_
    refine VW.ret (B2 (by simp [go_sem]) ?_)
    simp [go_sem]
    have e : i1 ≠ i2 := by omega
    have hb : Vd j i1 i2 = true := by simp [Vd, haa, hab, e, h48.2]; exact h48.1.2
    exact Vo h12 (Vo h20 (by simp [hb]))
   refine VW.skip <| .R1 ?_
   refine ⟨by omega, (), ?_, [0, 1], Bp (by decide) ?_ ?_, by simp⟩
   ·refine Ako hy2 ?_; by_cases e : i1 = i2; simp [Vd, e]; have h := h48 (by omega); by_cases c1 : a.ring = b.ring \/ ¬ a.grp = b.grp; simp [Vd, h c1]; rw [not_or, Classical.not_not] at c1; simp [Vd, haa, hab, c1.1, c1.2]
   ·simp [go_sem, Bq ((i2 : Int) + 1)]
   simp [go_sem]
  refine VW.exit <| .R1 ?_
  refine ⟨by omega, (), ?_, [0], Bp (by decide) ?_ ?_, by simp⟩
  ·refine Ako hy1 (J0 (by intro k hk; exact hy2 k (by omega)))
  ·simp [go_sem, Bq ((i1 : Int) + 1)]
  simp [go_sem]
 refine VW.exit <| .R ?_
 refine VW.ret (B2 (by simp [go_sem]) ?_)
 simp [go_sem]
 exact J0 fun k hk => hy1 k (by omega)
def Vc (j : Df) : Nat -> Int
 | 0 => 0
 | i + 1 => Cm .or .i64 (Vc j i) (IntKind.i64.wrap (1 * 2 ^ min (Kv j i).grp.toNat 64))
def Nm (j : Df) : Bool := decide (1 <= j.phs.length) && decide (j.phs.length <= 8) && decide (j.con.length = j.phs.length) && Qg j.con && Cc j.start 0 60 && Kx j.phs.length (fun p => Gb (Kv j p)) &&
 (Cm .and .i64 (Vc j j.phs.length) (IntKind.i64.wrap (Vc j j.phs.length + 1)) == 0) && Sw j
theorem Oe {p : C9} (h : Gb p = true) : 0 <= p.ring /\ p.ring <= 1 /\ 0 <= p.grp /\ p.grp <= 3 := by
 simp only [Gb, Cc, Ah, decide_eq_true_eq] at h
 omega
theorem Mk (j : Df) (h1 : j.phs.length <= 1000000) (h2 : j.con.length <= 1000000) : PP 80 [] [j.g] [] (.lb (Nm j)) := by
 refine B0 Tryz.func80 ?_
 refine VW.R ?_
 refine VW.R <| .seq ?_
 refine VW.region_seq (by rfl) fun K1 hK1 => ?_
 simp [go_sem]
 refine Bz (by simp [go_sem]) (by simp [go_sem]) ?_
 simp [go_sem]
 first | refine .lo (Zr j.con h2) rfl (by simp) ?_ | refine .skip ?_
 simp [go_sem]
 refine hK1 _ ?_; clear hK1
 refine VW.C ?_ ?_ <;> intro h28 <;> simp [go_sem] at h28
 ·refine VW.R ?_
  refine VW.ret (B2 (by simp [go_sem]) ?_)
  simp [go_sem]
  rw [Bool.eq_false_iff]; intro h; simp only [Nm, Ah, decide_eq_true_eq] at h; rcases h28 with ((h28 | h28) | h28) | h28 <;> first | omega | simp_all
 refine VW.skip <| .seq <| .S (fun K kk => by simp [go_sem]; refine .lo (B9 _ _ _) rfl (by simp) ?_; simp [go_sem]; exact kk) ?_
 refine VW.C ?_ ?_ <;> intro h32 <;> simp [go_sem] at h32
 ·refine VW.R ?_
  refine VW.ret (B2 (by simp [go_sem]) ?_)
  simp [go_sem]
  simp [Nm, h32]
 refine VW.skip <| .R <| .seq ?_
 refine VW.R <| .block ?_
 refine VW.rangeE j.phs.length (fun i1 (y1 : Unit) => ⟨[(1, .ptr 0 0), (4, .li (Vc j i1)), (34, .mPhase j.phs), (35, .li j.phs.length), (36, .li i1)], [.box 88 [.mPhase j.phs, .mI j.con, .li j.start]]⟩) (fun i1 y1 => ∀ k, k < i1 -> Gb (Kv j k) = true) (()) ⟨[0], Bp (by decide) ?_ ?_, by simp⟩ (by intro k h; omega) fun i1 y1 hi1 hy1 => ?_
 ·simp [go_sem, Vc]
 ·simp [go_sem, Vc]
 refine VW.R <| .seq ?_
 refine VW.C ?_ ?_ <;> intro h37 <;> simp [go_sem] at h37
 ·have hxa : j.phs[i1]? = some j.phs[i1] := Aa (by omega)
  generalize j.phs[i1] = a at hxa
  have haa : Kv j i1 = a := by simp only [Kv, hxa, Bh]
  refine VW.skip <| .seq <| .block <| .H hxa <| .seq ?_
  refine VW.L ok0 (Ady a) ?_
  refine VW.C ?_ ?_ <;> intro h42 <;> simp [go_sem] at h42
  ·refine VW.R ?_
   refine VW.ret (B2 (by simp [go_sem]) ?_)
   simp [go_sem]
   have ha : Kx j.phs.length (fun p => Gb (Kv j p)) = false := Vo h37 (by simp [haa, h42])
   simp [Nm, ha]
  have hg := Oe h42
  refine VW.skip <| .H1 ok0 ?_
  refine VW.R1 ?_
  refine ⟨by omega, (), ?_, [0], Bp (by decide) ?_ ?_, by simp⟩
  ·refine Ako hy1 ?_; rw [haa]; exact h42
  ·simp [go_sem, Bq ((i1 : Int) + 1), Vc, haa]
  simp [go_sem, Vc, haa]
 refine VW.exit ?_
 refine VW.region_seq (by rfl) fun K1 hK1 => ?_
 simp [go_sem]
 refine Bz (by simp [go_sem]) (by simp [go_sem]) ?_
 simp [go_sem]
 first | refine .lo (Adz j h1 h2) rfl (by simp) ?_ | refine .skip ?_
 simp [go_sem]
 refine hK1 _ ?_; clear hK1
 refine VW.ret (B2 (by simp [go_sem]) ?_)
 simp [go_sem]
 have he : i1 = j.phs.length := by omega
 subst he
 have ha : Kx j.phs.length (fun p => Gb (Kv j p)) = true := J0 hy1
 have h3 := h28.1.1.1; have h4 := h28.1.1.2; have h5 := h28.1.2; have h6 : 1 <= j.phs.length := (by omega); have h7 : j.phs.length <= 8 := (by omega); have h8 : j.con.length = j.phs.length := (by omega)
 simp [Nm, ha, h32, h28.2, h6, h7, h8]
def Ab5 (a : TAg) : Bool := decide (a.sec.length = 8) && decide (a.lims.length = 4) && Kx a.lims.length (fun i => Cc (O5 a.lims i) 0 8) && (Cc a.ri 0 63 && Cc a.cls 0 3 && Cc a.rq 0 4 && Cc a.se 1 2 && Cc a.bu 0 1000 && Cc a.ra 0 a.bu)
theorem Th (a : TAg) (h1 : a.sec.length <= 1000000) (h2 : a.lims.length <= 1000000) : PP 81 [] [a.g] [] (.lb (Ab5 a)) := by
 refine B0 Tryz.func81 ?_
 refine VW.R <| .seq ?_
 refine VW.R ?_
 refine VW.C ?_ ?_ <;> intro h14 <;> simp [go_sem] at h14
 ·refine VW.R ?_
  refine VW.ret (B2 (by simp [go_sem]) ?_)
  simp [go_sem]
  have hh : ¬ (a.sec.length = 8 /\ a.lims.length = 4) := by omega
  rw [Bool.eq_false_iff]; intro h; simp only [Ab5, Ah, decide_eq_true_eq] at h; exact hh h.1.1
 refine VW.skip <| .seq <| .R <| .block ?_
 refine VW.rangeE a.lims.length (fun i1 (y1 : Unit) => ⟨[(1, .ptr 0 0), (16, .mI a.lims), (17, .li a.lims.length), (18, .li i1)], [.box 60 [.mY a.sec, .li a.ri, .li a.cls, .mI a.lims, .li a.rq, .li a.se, .li a.ra, .li a.bu]]⟩) (fun i1 y1 => ∀ k, k < i1 -> Cc (O5 a.lims k) 0 8 = true) (()) ⟨[0], Bp (by decide) ?_ ?_, by simp⟩ (by intro k h; omega) fun i1 y1 hi1 hy1 => ?_
 ·simp [go_sem]
 ·simp [go_sem]
 refine VW.R <| .seq ?_
 refine VW.C ?_ ?_ <;> intro h19 <;> simp [go_sem] at h19
 ·have hxx : a.lims[i1]? = some a.lims[i1] := Aa (by omega)
  generalize a.lims[i1] = x at hxx
  have hax : O5 a.lims i1 = x := by simp only [O5, hxx, Bh]
  refine VW.skip <| .seq <| .block <| .H hxx ?_
  refine VW.S (fun K kk => by simp [go_sem]; refine .lo (B9 _ _ _) rfl (by simp) ?_; simp [go_sem]; exact kk) ?_
  refine VW.C ?_ ?_ <;> intro h24 <;> simp [go_sem] at h24
  ·refine VW.R ?_
   refine VW.ret (B2 (by simp [go_sem]) ?_)
   simp [go_sem]
   have ha : Kx a.lims.length (fun i => Cc (O5 a.lims i) 0 8) = false := Vo h19 (by simp [hax, h24])
   simp [Ab5, ha]
  refine VW.skip <| .R1 ?_
  refine ⟨by omega, (), ?_, [0], Bp (by decide) ?_ ?_, by simp⟩
  ·refine Ako hy1 ?_; rw [hax]; first | exact h24 | exact h25 | exact h26
  ·simp [go_sem, Bq ((i1 : Int) + 1)]
  simp [go_sem]
 refine VW.exit ?_
 refine VW.region_seq (by rfl) fun K1 hK1 => ?_
 simp [go_sem]
 refine .lo (B9 _ _ _) rfl (by simp) ?_
 simp [go_sem]
 refine Bz (by simp [go_sem]) (by simp [go_sem]) ?_
 simp [go_sem]
 first | refine .lo (B9 _ _ _) rfl (by simp) ?_ | refine .skip ?_
 simp [go_sem]
 refine Bz (by simp [go_sem]) (by simp [go_sem]) ?_
 simp [go_sem]
 first | refine .lo (B9 _ _ _) rfl (by simp) ?_ | refine .skip ?_
 simp [go_sem]
 refine Bz (by simp [go_sem]) (by simp [go_sem]) ?_
 simp [go_sem]
 first | refine .lo (B9 _ _ _) rfl (by simp) ?_ | refine .skip ?_
 simp [go_sem]
 refine Bz (by simp [go_sem]) (by simp [go_sem]) ?_
 simp [go_sem]
 first | refine .lo (B9 _ _ _) rfl (by simp) ?_ | refine .skip ?_
 simp [go_sem]
 refine Bz (by simp [go_sem]) (by simp [go_sem]) ?_
 simp [go_sem]
 first | refine .lo (B9 _ _ _) rfl (by simp) ?_ | refine .skip ?_
 simp [go_sem]
 refine hK1 _ ?_; clear hK1
 refine VW.ret (B2 (by simp [go_sem]) ?_)
 simp [go_sem]
 have he : i1 = a.lims.length := by omega
 subst he
 have ha : Kx a.lims.length (fun i => Cc (O5 a.lims i) 0 8) = true := J0 hy1
 have h6 : a.sec.length = 8 := (by omega); have h7 : a.lims.length = 4 := (by omega)
 simp only [Ab5, ha, h6, decide_true, Bool.true_and]
 rw [decide_eq_true h7, Bool.true_and, Bool.true_and]
structure Yw (c : Dy) : Prop where
  juns : c.juns.length <= 1000000
  ags : c.ags.length <= 1000000
  jun : ∀ j ∈ c.juns, j.phs.length <= 1000000 /\ j.con.length <= 1000000
  ag : ∀ a ∈ c.ags, a.sec.length <= 1000000 /\ a.lims.length <= 1000000
def L4 (c : Dy) : Bool := Cc c.juns.length 1 4 && Cc c.ags.length 1 4 && c.juns.all Nm && c.ags.all Ab5 && (Cc c.per 1 600 && Cc c.cap 0 100 && Cc c.hold 1 60 && Cc c.lock 0 600)
theorem Aoj {α : Type} {l : List α} {f : α -> Bool} {i : Nat} {x : α} (hx : l[i]? = some x) (h : f x = false) : l.all f = false := by
 rw [List.all_eq_false]
 exact ⟨x, Ac hx, by simp [h]⟩
theorem Akh {α : Type} {l : List α} {f : α -> Bool} (h : ∀ i x, i < l.length -> l[i]? = some x -> f x = true) : l.all f = true := by
 rw [Am]
 intro x hx
 obtain ⟨i, hi⟩ := A3.1 hx
 exact h i x (Ab.1 hi).1 hi
theorem Abu (c : Dy) (hb : Yw c) : PP 53 [] [c.g] [] (.lb (L4 c)) := by
 refine B0 Tryz.func53 ?_
 have hb1 := hb.juns
 have hb2 := hb.ags
 refine VW.R <| .seq ?_
 refine VW.region_seq (by rfl) fun K1 hK1 => ?_
 simp [go_sem]
 refine .lo (B9 _ _ _) rfl (by simp) ?_
 simp [go_sem]
 refine Bz (by simp [go_sem]) (by simp [go_sem]) ?_
 simp [go_sem]
 first | refine .lo (B9 _ _ _) rfl (by simp) ?_ | refine .skip ?_
 simp [go_sem]
 refine hK1 _ ?_; clear hK1
 refine VW.C ?_ ?_ <;> intro h18 <;> simp [go_sem] at h18
 ·refine VW.R ?_
  refine VW.ret (B2 (by simp [go_sem]) ?_)
  simp [go_sem]
  rcases h18 with h | h <;> simp [L4, h]
 refine VW.skip <| .seq <| .R <| .block ?_
 refine VW.rangeE c.juns.length (fun i1 (y1 : Unit) => ⟨[(1, .ptr 0 0), (20, .mJun c.juns), (21, .li c.juns.length), (22, .li i1)], [.box 30 [.mJun c.juns, .mAg c.ags, .li c.per, .li c.cap, .li c.hold, .li c.lock]]⟩) (fun i1 y1 => ∀ k x, k < i1 -> c.juns[k]? = some x -> Nm x = true) (()) ⟨[0], Bp (by decide) ?_ ?_, by simp⟩ (by intro k x h; omega) fun i1 y1 hi1 hy1 => ?_
 ·simp [go_sem]
 ·simp [go_sem]
 refine VW.R <| .seq ?_
 refine VW.C ?_ ?_ <;> intro h23 <;> simp [go_sem] at h23
 ·have hxa : c.juns[i1]? = some c.juns[i1] := Aa (by omega)
  generalize c.juns[i1] = a at hxa
  refine VW.skip <| .seq <| .block <| .H hxa ?_
  refine VW.L ok0 (Mk a (hb.jun a (Ac hxa)).1 (hb.jun a (Ac hxa)).2) ?_
  refine VW.C ?_ ?_ <;> intro h28 <;> simp [go_sem] at h28
  ·refine VW.R ?_
   refine VW.ret (B2 (by simp [go_sem]) ?_)
   simp [go_sem]
   have ha : c.juns.all Nm = false := Aoj hxa h28
   simp [L4, ha]
  refine VW.skip <| .R1 ?_
  refine ⟨by omega, (), ?_, [0], Bp (by decide) ?_ ?_, by simp⟩
  ·exact Amc hy1 hxa (by first | exact h27 | exact h26 | exact h28)
  ·simp [go_sem, Bq ((i1 : Int) + 1)]
  simp [go_sem]
 refine VW.exit <| .seq <| .R <| .block ?_
 refine VW.rangeE c.ags.length (fun i2 (y2 : Unit) => ⟨[(1, .ptr 0 0), (31, .mAg c.ags), (32, .li c.ags.length), (33, .li i2)], [.box 30 [.mJun c.juns, .mAg c.ags, .li c.per, .li c.cap, .li c.hold, .li c.lock]]⟩) (fun i2 y2 => ∀ k x, k < i2 -> c.ags[k]? = some x -> Ab5 x = true) (()) ⟨[0], Bp (by decide) ?_ ?_, by simp⟩ (by intro k x h; omega) fun i2 y2 hi2 hy2 => ?_
 ·simp [go_sem]
 ·simp [go_sem]
 refine VW.R <| .seq ?_
 refine VW.C ?_ ?_ <;> intro h34 <;> simp [go_sem] at h34
 ·have hxa : c.ags[i2]? = some c.ags[i2] := Aa (by omega)
  generalize c.ags[i2] = a at hxa
  refine VW.skip <| .seq <| .block <| .H hxa ?_
  refine VW.L ok0 (Th a (hb.ag a (Ac hxa)).1 (hb.ag a (Ac hxa)).2) ?_
  refine VW.C ?_ ?_ <;> intro h39 <;> simp [go_sem] at h39
  ·refine VW.R ?_
   refine VW.ret (B2 (by simp [go_sem]) ?_)
   simp [go_sem]
   have ha : c.ags.all Ab5 = false := Aoj hxa h39
   simp [L4, ha]
  refine VW.skip <| .R1 ?_
  refine ⟨by omega, (), ?_, [0], Bp (by decide) ?_ ?_, by simp⟩
  ·exact Amc hy2 hxa (by first | exact h37 | exact h38 | exact h39)
  ·simp [go_sem, Bq ((i2 : Int) + 1)]
  simp [go_sem]
 refine VW.exit ?_
 refine VW.region_seq (by rfl) fun K1 hK1 => ?_
 simp [go_sem]
 refine .lo (B9 _ _ _) rfl (by simp) ?_
 simp [go_sem]
 refine Bz (by simp [go_sem]) (by simp [go_sem]) ?_
 simp [go_sem]
 first | refine .lo (B9 _ _ _) rfl (by simp) ?_ | refine .skip ?_
 simp [go_sem]
 refine Bz (by simp [go_sem]) (by simp [go_sem]) ?_
 simp [go_sem]
 first | refine .lo (B9 _ _ _) rfl (by simp) ?_ | refine .skip ?_
 simp [go_sem]
 refine Bz (by simp [go_sem]) (by simp [go_sem]) ?_
 simp [go_sem]
 first | refine .lo (B9 _ _ _) rfl (by simp) ?_ | refine .skip ?_
 simp [go_sem]
 refine hK1 _ ?_; clear hK1
 refine VW.ret (B2 (by simp [go_sem]) ?_)
 simp [go_sem]
 have e1 : i1 = c.juns.length := by omega
 have e2 : i2 = c.ags.length := by omega
 subst e1 e2
 have h5 : c.juns.all Nm = true := Akh hy1
 have h6 : c.ags.all Ab5 = true := Akh hy2
 simp only [L4, h18.1, h18.2, h5, h6, Bool.true_and]
def G9 (j : Df) (r g : Int) : Nat -> List Int
 | 0 => []
 | i + 1 => if (Kv j i).ring = r /\ (Kv j i).grp = g then G9 j r g i ++ [(i : Int)] else G9 j r g i
theorem Ug (j : Df) (r g : Int) : ∀ i, (G9 j r g i).length <= i
 | 0 => by simp [G9]
 | i + 1 => by
  have := Ug j r g i
  simp only [G9]
  split
  ·simp; omega
  omega
def Agy (j : Df) (r g : Int) : List Int := G9 j r g j.phs.length
theorem Afw (j : Df) (r g : Int) (h1 : j.phs.length <= 1000000) : PP 224 [] [j.g, .li r, .li g] [.row 3 1 true false (tI (Agy j r g))] (.own 0 (Agy j r g).length) := by
 refine B0 Tryz.func224 ?_
 refine VW.R ?_
 refine VW.R <| .seq ?_
 refine VW.R <| .block ?_
 refine VW.own0 7 3 1 (by decide) (k' := 1) (by simp [go_sem]) ?_
 simp [go_sem]
 refine VW.range j.phs.length (fun i1 => ⟨[(1, .li r), (2, .li g), (7, .own 0 (G9 j r g i1).length), (11, .mPhase j.phs), (12, .li j.phs.length), (13, .li i1)], [.row 3 1 true false (tI (G9 j r g i1))]⟩) ⟨[1], Bp (by decide) ?_ ?_, by simp⟩ fun i1 hi1 => ?_
 ·simp [go_sem, G9]
 ·simp [go_sem, G9]
 refine VW.R <| .seq ?_
 refine VW.C ?_ ?_ <;> intro h14 <;> simp [go_sem] at h14
 ·have hxa : j.phs[i1]? = some j.phs[i1] := Aa (by omega)
  generalize j.phs[i1] = a at hxa
  have haa : Kv j i1 = a := by simp only [Kv, hxa, Bh]
  have hln := Ug j r g i1
  refine VW.skip <| .seq <| .block <| .H hxa ?_
  refine VW.R ?_
  refine VW.C ?_ ?_ <;> intro h27 <;> simp [go_sem] at h27
  ·have hOf : G9 j r g (i1 + 1) = G9 j r g i1 ++ [(i1 : Int)] := by simp only [G9]; rw [haa, if_pos h27]
   refine VW.H1 ok0 ?_
   refine VW.R1 ?_
   refine ⟨by omega, [0], Bp (by decide) ?_ ?_, by simp⟩
   ·simp [go_sem, Bq ((i1 : Int) + 1), hOf, h14, h27]
   simp [go_sem, hOf, h14, h27]
  have hOf : G9 j r g (i1 + 1) = G9 j r g i1 := by simp only [G9]; rw [haa, if_neg (fun h => h27 h.1 h.2)]
  refine VW.skip <| .R1 ?_
  refine ⟨by omega, [0], Bp (by decide) ?_ ?_, by simp⟩
  ·simp [go_sem, Bq ((i1 : Int) + 1), hOf, h14, h27]
  simp [go_sem, hOf, h14, h27]
 refine VW.exit <| .R ?_
 have he : i1 = j.phs.length := by omega
 subst he
 refine VW.ret (Nx [0] (by simp [go_sem]) (by decide) (by simp) (by simp [go_sem, Agy]) ?_)
 repeat' (first | exact .nil | refine .cons (by simp [go_sem, Agy]) ?_)
theorem Akn (j : Df) (r g : Int) (h1 : j.phs.length <= 1000000) : PP 224 [] [j.g, .li r, .li g] [] (.mI (Agy j r g)) := (Afw j r g h1).frozA (by simp [go_sem])
def Ai6 (r : Int) : Int := if Cm .and .u32 r 1 = 1 then Cm .xor .u32 (r.fdiv (2 ^ min 1 32)) 3988292384 else r.fdiv (2 ^ min 1 32)
def Aau (r : Int) : Nat -> Int
 | 0 => r
 | i + 1 => Ai6 (Aau r i)
def Ahj (l : List Int) (i : Nat) : Int := (l[i]?).getD 0
def Yr (s : Int) (l : List Int) : Nat -> Int
 | 0 => Cm .xor .u32 IntKind.u32.max s
 | i + 1 => Aau (Cm .xor .u32 (Yr s l i) (IntKind.u32.wrap (Ahj l i))) 8
def An8 (s : Int) (l : List Int) : Int := Cm .xor .u32 IntKind.u32.max (Yr s l l.length)
theorem Ff : (if IntKind.u32.signed = true then (-1 : Int) else IntKind.u32.max) = IntKind.u32.max := rfl
def Aat (l : List Int) : Int := An8 0 l
theorem Ad6 (s : Int) (l : List Int) (hl : l.length <= 1000000) : PP 181 [] [.lit (.int .u32 s), .mY l] [] (.lit (.int .u32 (An8 s l))) := by
 refine B0 Tryz.func181 ?_
 refine VW.R ?_
 refine VW.R <| .seq ?_
 refine VW.R <| .block ?_
 refine VW.range l.length (fun i1 => ⟨[(5, .lit (.int .u32 (Yr s l i1))), (11, .mY l), (12, .li l.length), (13, .li i1)], []⟩) ⟨[], Bp (by decide) ?_ ?_, by simp⟩ fun i1 hi1 => ?_
 ·simp [go_sem, Yr, Ff]
 ·simp [go_sem, Yr, Ff]
 refine VW.R <| .seq ?_
 refine VW.C ?_ ?_ <;> intro h14 <;> simp [go_sem] at h14
 ·have hxx : l[i1]? = some l[i1] := Aa (by omega)
  generalize l[i1] = x at hxx
  have hax : Ahj l i1 = x := by simp only [Ahj, hxx, Bh]
  refine VW.skip <| .seq <| .block <| .H hxx ?_
  refine VW.R ?_
  refine VW.R <| .block ?_
  refine VW.range 8 (fun i2 => ⟨[(5, .lit (.int .u32 (Aau (Cm .xor .u32 (Yr s l i1) (IntKind.u32.wrap x)) i2))), (11, .mY l), (12, .li l.length), (13, .li i1), (21, .li i2)], []⟩) ⟨[], Bp (by decide) ?_ ?_, by simp⟩ fun i2 hi2 => ?_
  ·simp [go_sem, Aau]
  ·simp [go_sem, Aau]
  refine VW.R <| .seq ?_
  refine VW.C ?_ ?_ <;> intro h22 <;> simp [go_sem] at h22
  ·refine VW.skip <| .seq <| .block <| .R ?_
   refine VW.H ok0 ?_
   refine VW.R ?_
   refine VW.C ?_ ?_ <;> intro h28 <;> simp [go_sem] at h28
   ·have hs : Aau (Cm .xor .u32 (Yr s l i1) (IntKind.u32.wrap x)) (i2 + 1) = Cm .xor .u32 ((Aau (Cm .xor .u32 (Yr s l i1) (IntKind.u32.wrap x)) i2).fdiv (2 ^ min 1 32)) 3988292384 := by simp only [Aau, Ai6]; rw [if_pos h28]
    refine VW.R1 ?_
    refine VW.R1 ?_
    refine ⟨by omega, [], Bp (by decide) ?_ ?_, by simp⟩
    ·simp [go_sem, Bq ((i2 : Int) + 1), hs, h14, h22, h28]
    simp [go_sem, hs, h14, h22, h28]
   have hs : Aau (Cm .xor .u32 (Yr s l i1) (IntKind.u32.wrap x)) (i2 + 1) = (Aau (Cm .xor .u32 (Yr s l i1) (IntKind.u32.wrap x)) i2).fdiv (2 ^ min 1 32) := by simp only [Aau, Ai6]; rw [if_neg h28]
   refine VW.skip <| .R1 ?_
   refine ⟨by omega, [], Bp (by decide) ?_ ?_, by simp⟩
   ·simp [go_sem, Bq ((i2 : Int) + 1), hs, h14, h22, h28]
   simp [go_sem, hs, h14, h22, h28]
  have he : i2 = 8 := by omega
  subst he
  refine VW.exit <| .R1 ?_
  refine ⟨by omega, [], Bp (by decide) ?_ ?_, by simp⟩
  ·simp [go_sem, Bq ((i1 : Int) + 1), Yr, hax, h14, h22]
  simp [go_sem, Yr, hax, h14, h22]
 refine VW.exit <| .R ?_
 have he : i1 = l.length := by omega
 subst he
 refine VW.ret (B2 (by simp [go_sem]) ?_)
 simp [go_sem]
 simp [An8, Ff]
theorem Aci (l : List Int) (hl : l.length <= 1000000) : PP 162 [] [.mY l] [] (.lit (.int .u32 (Aat l))) := by
 refine B0 Tryz.func162 ?_
 refine VW.R ?_
 refine VW.L ok0 (Ad6 0 l hl) ?_
 refine VW.ret (B2 (by simp [go_sem]) ?_)
 simp [go_sem, Aat]
def Aiy (l : List Int) : Nat -> Int
 | 0 => 0
 | i + 1 => Cm .or .u32 (IntKind.u32.wrap (Aiy l i * 2 ^ min 8 32)) (IntKind.u32.wrap (Ahj l i))
def Aqx (l : List Int) : Int := Aiy l l.length
theorem Zu (l : List Int) (hl : l.length <= 1000000) : PP 163 [] [.mY l] [] (.lit (.int .u32 (Aqx l))) := by
 refine B0 Tryz.func163 ?_
 refine VW.R ?_
 refine VW.R <| .seq ?_
 refine VW.R <| .block ?_
 refine VW.range l.length (fun i1 => ⟨[(3, .lit (.int .u32 (Aiy l i1))), (6, .mY l), (7, .li l.length), (8, .li i1)], []⟩) ⟨[], Bp (by decide) ?_ ?_, by simp⟩ fun i1 hi1 => ?_
 ·simp [go_sem, Aiy]
 ·simp [go_sem, Aiy]
 refine VW.R <| .seq ?_
 refine VW.C ?_ ?_ <;> intro h9 <;> simp [go_sem] at h9
 ·have hxx : l[i1]? = some l[i1] := Aa (by omega)
  generalize l[i1] = x at hxx
  have hax : Ahj l i1 = x := by simp only [Ahj, hxx, Bh]
  refine VW.skip <| .seq <| .block <| .H hxx ?_
  refine VW.H1 ok0 ?_
  refine VW.R1 ?_
  refine ⟨by omega, [], Bp (by decide) ?_ ?_, by simp⟩
  ·simp [go_sem, Bq ((i1 : Int) + 1), Aiy, hax, h9]
  simp [go_sem, Aiy, hax, h9]
 refine VW.exit <| .R ?_
 have he : i1 = l.length := by omega
 subst he
 refine VW.ret (B2 (by simp [go_sem]) ?_)
 simp [go_sem]
 simp [Aqx]
def Wr (n : Int) : Int := if n < 0 \/ 200 < n then 0 else IntKind.i64.wrap (IntKind.i64.wrap (6 + n) + 4)
theorem Uw (n : Int) : PP 161 [] [.li n] [] (.li (Wr n)) := by
 refine B0 Tryz.func161 ?_
 refine VW.R <| .seq ?_
 refine VW.R ?_
 refine VW.C ?_ ?_ <;> intro h8 <;> simp [go_sem] at h8
 ·refine VW.R ?_
  refine VW.ret (B2 (by simp [go_sem]) ?_)
  simp [go_sem]
  simp [Wr, h8]
 refine VW.skip <| .R ?_
 refine VW.ret (B2 (by simp [go_sem]) ?_)
 simp [go_sem]
 have hh : ¬ (n < 0 \/ 200 < n) := by omega
 simp [Wr, hh]
def viN : Nat -> Int -> List Int
 | 0, n => [IntKind.u8.wrap n]
 | f + 1, n => if 128 <= n then Cm .or .u8 (IntKind.u8.wrap (Cm .and .i64 n 127)) 128 :: viN f (n.fdiv (2 ^ min 7 64)) else [IntKind.u8.wrap n]
def He (n : Int) : List Int × Int := if n < 0 \/ 4294967295 < n then ([], 8) else (viN 5 n, 0)
def Afq (n : Int) (y : List Int × Int) : Prop := ∃ k : Nat, y.1.length + k = 5 /\ y.1 ++ viN k y.2 = viN 5 n /\ 0 <= y.2 /\ y.2 < 128 ^ k
theorem Ach {n : Int} {y : List Int × Int} (h : Afq n y) : y.1.length <= 5 := by
 obtain ⟨k, e1, _⟩ := h
 omega
theorem Al8 {n : Int} {y : List Int × Int} (h : Afq n y) (h1 : 128 <= y.2) (h2 : 1 <= y.2.fdiv (2 ^ min 7 64)) (h3 : y.2.fdiv (2 ^ min 7 64) * 128 <= y.2) : Afq n (y.1 ++ [Cm .or .u8 (IntKind.u8.wrap (Cm .and .i64 y.2 127)) 128], y.2.fdiv (2 ^ min 7 64)) := by
 obtain ⟨k, e1, e2, e3, e4⟩ := h
 cases k with
 | zero => simp at e4; omega
 | succ k =>
  have hp : (128 : Int) ^ (k + 1) = 128 ^ k * 128 := Int.pow_succ _ _
  refine ⟨k, by simp; omega, ?_, by simp only []; omega, by simp only []; omega⟩
  rw [<- e2, viN, if_pos h1]
  simp
theorem Ao4 {n : Int} {y : List Int × Int} (h : Afq n y) (h1 : y.2 < 128) : y.1 ++ [IntKind.u8.wrap y.2] = viN 5 n := by
 obtain ⟨k, e1, e2, e3, e4⟩ := h
 rw [<- e2]
 cases k with
 | zero => rfl
 | succ k => rw [viN, if_neg (by omega)]
theorem Asx {n : Int} (h : 128 <= n) : 1 <= n.fdiv (2 ^ min 7 64) /\ n.fdiv (2 ^ min 7 64) * 128 <= n := by
 have e : (2 : Int) ^ min 7 64 = 128 := by decide
 rw [e, Int.fdiv_eq_ediv_of_nonneg _ (by omega)]
 omega
theorem I8 (n : Int) : PP 160 [] [.li n] [] (.tup [.imm false 1 (tY (He n).1), .lit (.int .i64 (He n).2)]) := by
 refine B0 Tryz.func160 ?_
 refine VW.R <| .seq ?_
 refine VW.R ?_
 refine VW.C ?_ ?_ <;> intro h10 <;> simp [go_sem] at h10
 ·refine VW.R ?_
  refine VW.ret (B2 (by simp [go_sem]) ?_)
  simp [go_sem]
  simp [He, h10]
 have h0 : 0 <= n /\ n < 128 ^ 5 := by omega
 refine VW.skip <| .H ok0 <| .seq <| .block ?_
 refine VW.whileE (fun y1 : List Int × Int => ⟨[(0, .li y1.2), (4, .own 0 y1.1.length)], [.row 5 1 true false (tY y1.1)]⟩) (fun y1 => Afq n y1) (fun y1 => y1.2.toNat) (([], n)) ⟨[0], Bp (by decide) ?_ ?_, by simp⟩ (by exact ⟨5, rfl, rfl, h0⟩) fun y1 hy1 => ?_
 ·simp [go_sem]
 ·simp [go_sem]
 refine VW.seq <| .R ?_
 refine VW.C ?_ ?_ <;> intro h13 <;> simp [go_sem] at h13
 ·obtain ⟨q1, q2⟩ := Asx h13
  have hln := Ach hy1
  refine VW.skip <| .block <| .H ok0 ?_
  refine VW.H1 ok0 ?_
  refine ⟨(y1.1 ++ [Cm .or .u8 (IntKind.u8.wrap (Cm .and .i64 y1.2 127)) 128], y1.2.fdiv (2 ^ min 7 64)), ?_, ?_, [0], Bp (by decide) ?_ ?_, by simp⟩
  ·simp only []; omega
  ·exact Al8 hy1 h13 q1 q2
  all_goals simp [go_sem]
 have hln := Ach hy1
 refine VW.exit <| .H ok0 ?_
 refine VW.freeze 0 (by simp [go_sem, Db]) ?_
 simp [go_sem]
 refine VW.ret (B2 (by simp [go_sem]) ?_)
 simp [go_sem]
 have hh : ¬ (n < 0 \/ 4294967295 < n) := by omega
 have hd := Ao4 hy1 h13
 simp [He, hh, <- hd]
def S4 (l : List Int) : Nat -> Int -> Nat -> Int × Int × Int
 | 0, _, _ => (0, 0, 6)
 | f + 1, n, i => match l[i]? with
  | none => (0, 0, 6)
  | some x => if i = 5 then (0, 0, 6)
   else
    let n' := Cm .or .i64 n (IntKind.i64.wrap (IntKind.i64.wrap (Cm .and .u8 x 127) * 2 ^ min (7 * (i : Int)).toNat 64))
    if 128 <= x then S4 l f n' (i + 1)
    else if 4294967295 < n' \/ (0 < i /\ x = 0) then (0, 0, 6) else (n', (i : Int) + 1, 0)
def Td (l : List Int) : Int × Int × Int := S4 l 6 0 0
theorem Adt {l : List Int} {i f : Nat} {n x : Int} (h : l[i]? = some x) : S4 l (f + 1) n i = if i = 5 then (0, 0, 6)
 else if 128 <= x then S4 l f (Cm .or .i64 n (IntKind.i64.wrap (IntKind.i64.wrap (Cm .and .u8 x 127) * 2 ^ min (7 * (i : Int)).toNat 64))) (i + 1)
  else if 4294967295 < Cm .or .i64 n (IntKind.i64.wrap (IntKind.i64.wrap (Cm .and .u8 x 127) * 2 ^ min (7 * (i : Int)).toNat 64)) \/ (0 < i /\ x = 0) then (0, 0, 6) else (Cm .or .i64 n (IntKind.i64.wrap (IntKind.i64.wrap (Cm .and .u8 x 127) * 2 ^ min (7 * (i : Int)).toNat 64)), (i : Int) + 1, 0) := by
 rw [S4, h]
theorem Al9 {l : List Int} : ∀ (f : Nat) (n : Int), S4 l f n l.length = (0, 0, 6)
 | 0, n => rfl
 | f + 1, n => by simp [S4]
theorem X1 (l : List Int) (hl : l.length <= 1000000) : PP 105 [] [.mY l] [] (.tup [.lit (.int .i64 (Td l).1), .lit (.int .i64 (Td l).2.1), .lit (.int .i64 (Td l).2.2)]) := by
 refine B0 Tryz.func105 ?_
 refine VW.R ?_
 refine VW.R <| .seq ?_
 refine VW.R <| .block ?_
 refine VW.rangeE l.length (fun i1 (y1 : Int) => ⟨[(5, .li y1), (8, .mY l), (9, .li l.length), (10, .li i1)], []⟩) (fun i1 y1 => i1 <= 5 /\ S4 l (6 - i1) y1 i1 = Td l) (0) ⟨[], Bp (by decide) ?_ ?_, by simp⟩ ⟨by omega, rfl⟩ fun i1 y1 hi1 hy1 => ?_
 ·simp [go_sem]
 ·simp [go_sem]
 refine VW.R <| .seq ?_
 refine VW.C ?_ ?_ <;> intro h11 <;> simp [go_sem] at h11
 ·have hxx : l[i1]? = some l[i1] := Aa (by omega)
  generalize l[i1] = x at hxx
  have hax : Ahj l i1 = x := by simp only [Ahj, hxx, Bh]
  have hst := Adt (l := l) (f := 5 - i1) (n := y1) hxx
  rw [show 5 - i1 + 1 = 6 - i1 by omega, hy1.2] at hst
  refine VW.skip <| .seq <| .block <| .H hxx <| .seq ?_
  refine VW.R ?_
  refine VW.C ?_ ?_ <;> intro h16 <;> simp [go_sem] at h16
  ·refine VW.exit <| .R ?_
   refine VW.ret (B2 (by simp [go_sem]) ?_)
   simp [go_sem]
   rw [if_pos (by omega)] at hst
   simp [hst]
  have h7 := Bq (7 * (i1 : Int))
  have h1 := Bq ((i1 : Int) + 1)
  have hi5 : ¬ i1 = 5 := by omega
  rw [if_neg hi5] at hst
  refine VW.skip <| .H h7 <| .seq ?_
  refine VW.R ?_
  refine VW.C ?_ ?_ <;> intro h26 <;> simp [go_sem] at h26
  ·refine VW.exit <| .R1 ?_
   refine ⟨by omega, (Cm .or .i64 y1 (IntKind.i64.wrap (IntKind.i64.wrap (Cm .and .u8 x 127) * 2 ^ min (7 * (i1 : Int)).toNat 64))), ?_, [], Bp (by decide) ?_ ?_, by simp⟩
   ·refine ⟨by omega, ?_⟩; rw [show 6 - (i1 + 1) = 5 - i1 by omega, hst, if_pos h26]
   ·simp [go_sem, Bq ((i1 : Int) + 1)]
   simp [go_sem]
  refine VW.skip <| .seq <| .S (fun K kk => by simp +contextual [go_sem]; exact kk) ?_
  refine VW.C ?_ ?_ <;> intro h36 <;> simp [go_sem] at h36
  ·refine VW.exit <| .R ?_
   refine VW.ret (B2 (by simp [go_sem]) ?_)
   simp [go_sem]
   rw [if_neg (by omega), if_pos h36] at hst
   simp [hst]
  refine VW.skip <| .H h1 ?_
  refine VW.ret (B2 (by simp [go_sem]) ?_)
  simp [go_sem]
  rw [if_neg (by omega), if_neg (by omega)] at hst
  simp [hst, h1]
 refine VW.exit <| .R ?_
 have he : i1 = l.length := by omega
 subst he
 refine VW.ret (B2 (by simp [go_sem]) ?_)
 simp [go_sem]
 rw [Al9] at hy1
 simp [<- hy1.2]
end Go.Proofs.YtkkimgjinbaemaaGreat
