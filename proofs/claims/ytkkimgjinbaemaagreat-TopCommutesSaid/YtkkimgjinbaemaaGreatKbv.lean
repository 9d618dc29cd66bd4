/- The walk. -/
import Derived.Test.YtkkimgjinbaemaaGreatKbu
namespace Go.Proofs.YtkkimgjinbaemaaGreat
open Go.RowKit
set_option linter.unusedVariables false
set_option linter.unusedSimpArgs false
set_option maxRecDepth 100000
set_option maxHeartbeats 4000000
def Cd (l : List Bv) : List AV := L7 false (Ga l)
theorem Zc (d : Bv) (l : List Bv) : Cd (d :: l) = d.a false ++ Cd l := rfl
theorem Bv.al (d : Bv) : (d.a false).length = 17 := rfl
theorem Nr : ∀ (l : List Bv), (Cd l).length = l.length * 17
 | [] => rfl
 | d :: l => by rw [Zc, Bo, Nr l, Bv.al, A6]; omega
theorem Qo : ∀ {l : List Bv} {i : Nat} {d : Bv}, l[i]? = some d -> ∀ j, j < 17 -> (Cd l)[i * 17 + j]? = (d.a false)[j]?
 | [], i, d, h, _, _ => by simp at h
 | e :: l, 0, d, h, j, hj => by
  simp at h; subst h
  rw [Zc, Nat.zero_mul, Bm, Au (by rw [Bv.al]; exact hj)]
 | e :: l, i + 1, d, h, j, hj => by
  have h : l[i]? = some d := by simpa using h
  rw [Zc, Ao (by rw [Bv.al]; omega), Bv.al, show (i + 1) * 17 + j - 17 = i * 17 + j by omega]
  exact Qo h j hj
theorem Aff {l : List Bv} {i : Nat} {d : Bv} (h : l[i]? = some d) : ((Cd l).drop (i * 17)).take 17 = d.a false := by
 apply List.ext_getElem?
 intro j
 rw [List.getElem?_take, Bd]
 by_cases hj : j < 17
 ·rw [if_pos hj, Qo h j hj]
 rw [if_neg hj, Ar (by rw [Bv.al]; omega)]
theorem Ahy {l : List Bv} {i a : Nat} {d : Bv} (h : l[i]? = some d) (hia : i ≠ a) (v : AV) : (((Cd l).set (a * 17 + 15) v).drop (i * 17)).take 17 = d.a false := by
 rw [<- Aff h]
 apply List.ext_getElem?
 intro j
 rw [List.getElem?_take, Bd, List.getElem?_take, Bd]
 by_cases hj : j < 17
 ·rw [if_pos hj, if_pos hj, A9 (by omega)]
 rw [if_neg hj, if_neg hj]
theorem Acp {α : Type} {cs : List α} {off : Nat} {vs : List α} (h : ∀ j, j < vs.length -> cs[off + j]? = vs[j]?) : Hm cs off vs = cs := by
 apply List.ext_getElem?
 intro p
 rw [Gq]
 split
 ·next hp => rw [show p = off + (p - off) by omega, h (p - off) (by omega)]; congr 1; omega
 rfl
theorem Aqe {l : List Bv} {i : Nat} {d : Bv} (h : l[i]? = some d) : Hm (Cd l) (i * 17) (d.a false) = Cd l := Acp fun j hj => Qo h j (by rw [Bv.al] at hj; exact hj)
theorem Ahz {l : List Bv} {i a : Nat} {d : Bv} (h : l[i]? = some d) (hia : i ≠ a) (v : AV) : Hm ((Cd l).set (a * 17 + 15) v) (i * 17) (d.a false) = (Cd l).set (a * 17 + 15) v := Acp fun j hj => by
 rw [Bv.al] at hj
 rw [A9 (by omega), Qo h j hj]
theorem Aa8 {l : List Bv} {a : Nat} {d : Bv} (h : l[a]? = some d) (v : AV) : Hm (Cd l) (a * 17) ((d.a false).set 15 v) = (Cd l).set (a * 17 + 15) v := by
 have ha : a < l.length := (Ab.1 h).1
 apply List.ext_getElem?
 intro p
 rw [Gq, List.length_set, Bv.al, Nr]
 by_cases hp : a * 17 <= p /\ p < a * 17 + 17 /\ p < l.length * 17
 ·rw [if_pos hp]
  obtain ⟨j, rfl⟩ : ∃ j, p = a * 17 + j := ⟨p - a * 17, by omega⟩
  rw [show a * 17 + j - a * 17 = j by omega]
  by_cases hj : j = 15
  ·subst hj
   rw [Bg (by rw [Bv.al]; omega), Bg (by rw [Nr]; omega)]
  rw [A9 (by omega), A9 (by omega), Qo h j (by omega)]
 rw [if_neg hp, A9 (by omega)]
theorem Ari {l : List Bv} {a : Nat} {d : Bv} (h : l[a]? = some d) (X : List (List Int)) : Cd (l.set a { d with draws := X }) = (Cd l).set (a * 17 + 15) (.imm false 1 (tYs X)) := by
 have ha : a < l.length := (Ab.1 h).1
 rw [<- Aa8 h]
 have h1 : (l.set a { d with draws := X })[a]? = some { d with draws := X } := Bg ha
 apply List.ext_getElem?
 intro p
 rw [Gq, List.length_set, Bv.al, Nr]
 by_cases hp : a * 17 <= p /\ p < a * 17 + 17 /\ p < l.length * 17
 ·rw [if_pos hp]
  obtain ⟨j, rfl⟩ : ∃ j, p = a * 17 + j := ⟨p - a * 17, by omega⟩
  rw [Qo h1 j (by omega), show a * 17 + j - a * 17 = j by omega]
  rfl
 rw [if_neg hp]
 by_cases hq : p < l.length * 17
 ·have hi : p / 17 < l.length := by omega
  have hpe : p = p / 17 * 17 + p % 17 := by omega
  have hne : p / 17 ≠ a := fun e => hp ⟨by omega, by omega, hq⟩
  have h2 : l[p / 17]? = some l[p / 17] := Aa hi
  have h3 : (l.set a { d with draws := X })[p / 17]? = some l[p / 17] := by rw [A9 (fun e => hne e.symm)]; exact h2
  rw [hpe, Qo h3 _ (Nat.mod_lt _ (by decide)), Qo h2 _ (Nat.mod_lt _ (by decide))]
 rw [Ar (by rw [Nr, List.length_set]; omega), Ar (by rw [Nr]; omega)]
theorem Aqf (l : List Bv) : L7 false (Ga l) = Cd l := rfl
theorem Ann {F : List AV -> List AV} {f : AV -> AV} (hF : ∀ (cs : List AV) (i : Nat), (F cs)[i]? = (cs[i]?).map f) (h1 : ∀ v, f (.lit v) = .lit v) (h2 : ∀ k es, f (.imm false k es) = .imm false k es) (l : List Bv) : F (Cd l) = Cd l := by
 apply List.ext_getElem?
 intro p
 rw [hF]
 by_cases hq : p < l.length * 17
 ·have hi : p / 17 < l.length := by omega
  have hpe : p = p / 17 * 17 + p % 17 := by omega
  have h2' : l[p / 17]? = some l[p / 17] := Aa hi
  have hj : p % 17 < 17 := Nat.mod_lt _ (by decide)
  rw [hpe, Qo h2' _ hj]
  generalize p % 17 = j at hj
  generalize l[p / 17] = d
  have : ∀ j, j < 17 -> Option.map f ((d.a false)[j]?) = (d.a false)[j]? := fun j hj => by
   have hc : j = 0 \/ j = 1 \/ j = 2 \/ j = 3 \/ j = 4 \/ j = 5 \/ j = 6 \/ j = 7 \/ j = 8 \/ j = 9 \/ j = 10 \/ j = 11 \/ j = 12 \/ j = 13 \/ j = 14 \/ j = 15 \/ j = 16 := by omega
   rcases hc with rfl | rfl | rfl | rfl | rfl | rfl | rfl | rfl | rfl | rfl | rfl | rfl | rfl | rfl | rfl | rfl | rfl <;> simp [Bv.a, h1, h2]
  exact this j hj
 rw [Ar (by rw [Nr]; omega)]; rfl
theorem Qh {F : List AV -> List AV} {f : AV -> AV} (hF : ∀ (cs : List AV) (i : Nat), (F cs)[i]? = (cs[i]?).map f) (h1 : ∀ v, f (.lit v) = .lit v) (h2 : ∀ k es, f (.imm false k es) = .imm false k es) (l : List Bv) (p : Nat) (v : AV) : F ((Cd l).set p v) = (Cd l).set p (f v) := by
 have h := Ann hF h1 h2 l
 apply List.ext_getElem?
 intro q
 rw [hF]
 by_cases hq : p = q
 ·subst hq
  by_cases hp : p < (Cd l).length
  ·rw [Bg hp, Bg hp]; rfl
  rw [Ar (by simp; omega), Ar (by simp; omega)]; rfl
 rw [A9 hq, A9 hq, <- hF, h]
theorem Ag5 : ∀ (cs : List AV) (i : Nat), (Gk cs)[i]? = (cs[i]?).map AV.low
 | [], i => by simp [Gk]
 | c :: cs, 0 => by simp [Gk]
 | c :: cs, i + 1 => by have := Ag5 cs i; simpa [Gk] using this
theorem Dq (ρ : Nat -> Option Nat) (l : List Bv) (p : Nat) (v : AV) : Il ρ ((Cd l).set p v) = (Cd l).set p (v.ren ρ) := Qh (Kh ρ) (fun v => by simp only [AV.ren]) (fun k es => by simp only [AV.ren]) l p v
theorem Zb (ρ : Nat -> Option Nat) (l : List Bv) : Il ρ (Cd l) = Cd l := Ann (Kh ρ) (fun v => by simp only [AV.ren]) (fun k es => by simp only [AV.ren]) l
theorem Ea (l : List Bv) (p : Nat) (v : AV) : Gk ((Cd l).set p v) = (Cd l).set p v.low := Qh Ag5 (fun v => by simp only [AV.low]) (fun k es => by simp only [AV.low]) l p v
theorem Cr (N : Nat) (l : List Bv) (p : Nat) (v : AV) : Lc N ((Cd l).set p v) = (Cd l).set p (v.shift N) := Qh (Lb N) (fun v => by simp only [AV.shift]) (fun k es => by simp only [AV.shift]) l p v
theorem Cu (o : Nat -> Ob) (l : List Bv) (p : Nat) (v : AV) : Of o ((Cd l).set p v) = (Cd l).set p (v.melt o) := Qh (My o) (fun v => by simp only [AV.melt]) (fun k es => by simp only [AV.melt]) l p v
theorem Ajz : ∀ {a b : List AV} {x y : List T}, ttL a = some x -> ttL b = some y -> ttL (a ++ b) = some (x ++ y)
 | [], b, x, y, h1, h2 => by simp [ttL] at h1; subst h1; simpa using h2
 | c :: a, b, x, y, h1, h2 => by
  simp only [ttL, List.cons_append] at h1 ⊢
  cases hc : T9 c with
  | none => rw [hc] at h1; simp at h1
  | some t =>
   cases ha : ttL a with
   | none => rw [hc, ha] at h1; simp at h1
   | some xs =>
    rw [hc, ha] at h1
    simp at h1
    subst h1
    rw [Ajz ha h2]
    simp
theorem Aqk : ∀ (l : List Bv), ttL (Cd l) = some (Ga l).flatten
 | [] => rfl
 | d :: l => by
  rw [Zc]
  have := Ajz (a := d.a false) (x := d.t) (by rfl) (Aqk l)
  rw [this]
  rfl
theorem Ye (x : Bv) (hb : Ra x) : PP 86 [] [x.g] [.row 44 1 false false (tYs x.draws)] (.agg [.li x.reg.num, .imm false 1 (tY x.reg.ag.sec), .li x.reg.ag.ri, .li x.reg.ag.cls, .imm false 1 (tI x.reg.ag.lims), .li x.reg.ag.rq, .li x.reg.ag.se, .li x.reg.ag.ra, .li x.reg.ag.bu, .imm false 6 (Ni x.reg.toks), .imm false 2 (Yi x.reg.vehs), .li x.reg.bk.lv, .li x.reg.bk.ra, .li x.reg.bk.bu, .imm false 5 (Et x.reqs), .own 0 x.draws.length, .imm false 1 (tB x.aud)]) := by
 refine B0 Tryz.func86 ?_
 have hb1 := hb.reqs
 have hb2 := hb.draws
 refine VW.R ?_
 refine VW.L ok0 (N6 x.reg hb.reg) ?_
 refine VW.S (fun K kk => by simp [go_sem]; refine .lo (Q2 _ (by simpa using hb.reqs)) rfl (by simp) ?_; simp [go_sem]; exact kk) <| .seq ?_
 refine VW.R <| .block ?_
 refine VW.range x.reqs.length (fun i1 => ⟨[(1, .ptr 0 0), (2, .ptr 1 0), (15, .li x.reqs.length), (16, .li i1)], [.box 70 [.li x.reg.num, .imm false 1 (tY x.reg.ag.sec), .li x.reg.ag.ri, .li x.reg.ag.cls, .imm false 1 (tI x.reg.ag.lims), .li x.reg.ag.rq, .li x.reg.ag.se, .li x.reg.ag.ra, .li x.reg.ag.bu, .imm false 6 (Ni x.reg.toks), .imm false 2 (Yi x.reg.vehs), .li x.reg.bk.lv, .li x.reg.bk.ra, .li x.reg.bk.bu, .own 2 x.reqs.length, .imm false 1 (tYs x.draws), .imm false 1 (tB x.aud)], .box 70 [.li 0, .nil 1, .li 0, .li 0, .nil 1, .li 0, .li 0, .li 0, .li 0, .nil 6, .nil 2, .li 0, .li 0, .li 0, .nil 5, .nil 1, .nil 1], .row 164 5 false false (Et x.reqs)]⟩) (wk ok0 [0, 1, 2]) fun i1 hi1 => ?_
 refine VW.R <| .seq ?_
 refine VW.C ?_ ?_ <;> intro h17 <;> simp [go_sem] at h17
 ·have hx : x.reqs[i1]? = some x.reqs[i1] := Aa h17
  generalize x.reqs[i1] = t at hx
  have hs := Du (f := Cg.t) hx
  simp only [Cg.t] at hs
  refine VW.skip <| .seq <| .block <| .R ?_
  refine VW.E1 (fun K kk => by simp [go_sem, hx, hs]; (repeat refine aK ?_); refine .lo (B8.froz (Js _ (by simpa using hb.legs t (Ac hx)) (by simp [T.plain, Dp.t]))) rfl (by simp) ?_; simp [go_sem, hx, hs]; (repeat first | exact kk | refine aK ?_)) ?_
  refine VW.R1 ?_
  refine ⟨by omega, [0, 1, 2], Bp (by decide) ?_ ?_, by simp⟩
  ·simp [go_sem, Bq ((i1 : Int) + 1)]
  simp [go_sem]
 refine VW.exit ?_
 refine VW.freeze 2 (by simp [go_sem, Db]) ?_
 simp [go_sem]
 refine VW.region_seq (by rfl) fun K1 hK1 => ?_
 simp [go_sem]
 refine .lo (Rx _ (by simpa using hb.draws)) rfl (by simp) ?_
 simp [go_sem]
 refine hK1 _ ?_; clear hK1
 refine VW.seq <| .R <| .block ?_
 refine VW.range x.draws.length (fun i2 => ⟨[(1, .ptr 0 0), (2, .ptr 1 0), (38, .li x.draws.length), (39, .li i2)], [.box 70 [.li x.reg.num, .imm false 1 (tY x.reg.ag.sec), .li x.reg.ag.ri, .li x.reg.ag.cls, .imm false 1 (tI x.reg.ag.lims), .li x.reg.ag.rq, .li x.reg.ag.se, .li x.reg.ag.ra, .li x.reg.ag.bu, .imm false 6 (Ni x.reg.toks), .imm false 2 (Yi x.reg.vehs), .li x.reg.bk.lv, .li x.reg.bk.ra, .li x.reg.bk.bu, .imm false 5 (Et x.reqs), .own 2 x.draws.length, .imm false 1 (tB x.aud)], .box 70 [.li 0, .nil 1, .li 0, .li 0, .nil 1, .li 0, .li 0, .li 0, .li 0, .nil 6, .nil 2, .li 0, .li 0, .li 0, .nil 5, .nil 1, .nil 1], .row 44 1 false false (tYs x.draws)]⟩) (wk ok0 [0, 1, 3]) fun i2 hi2 => ?_
 refine VW.R <| .seq ?_
 refine VW.C ?_ ?_ <;> intro h40 <;> simp [go_sem] at h40
 ·have hx : x.draws[i2]? = some x.draws[i2] := Aa h40
  generalize x.draws[i2] = t at hx
  have hs := Du (f := fun x => [T.sl 1 (tY x)]) hx
  refine VW.skip <| .seq <| .block <| .R ?_
  refine VW.draw1 (by kernel_rfl) (by rfl) (by kernel_rfl) fun K1 hK1 => ?_
  simp [go_sem, hx, hs]
  repeat' refine Ax ?_ ?_
  all_goals try (intros; (repeat' refine Ax ?_ ?_) <;> omega)
  refine .lo (B8.froz (B6 _ (by simpa using hb.draw t (Ac hx)) (by simp [T.plain]))) rfl (by simp) ?_
  simp [go_sem, hx, hs]
  repeat' refine Ax ?_ ?_
  all_goals try (intros; (repeat' refine Ax ?_ ?_) <;> omega)
  refine hK1 _ _ (by kernel_rfl) ?_; clear hK1
  refine VW.R1 ?_
  refine ⟨by omega, [0, 1, 2], Bp (by decide) ?_ ?_, by simp⟩
  ·simp [go_sem, Bq ((i2 : Int) + 1)]
  simp [go_sem]
 refine VW.exit <| .S (fun K kk => by simp [go_sem]; refine .lo (Tk _ (by simpa using hb.aud) (by simp [T.plain])) rfl (by simp) ?_; simp [go_sem]; exact kk) ?_
 refine VW.R ?_
 refine VW.freeze 3 (by simp [go_sem, Db]) ?_
 simp [go_sem]
 exact .ret (rW ok0 [2])
theorem Yf (x : Ed) (hb : Ahx x) (a : Nat) (D : Bv) (hD : x.desks[a]? = some D) : PP 61 [] [x.g] [.box 70 ((Cd x.desks).set (a * 17 + 15) (.own 1 D.draws.length)), .row 44 1 false false (tYs D.draws)] (.agg [.imm false 3 (Aby x.cfg.juns), .imm false 8 (tAg x.cfg.ags), .li x.cfg.per, .li x.cfg.cap, .li x.cfg.hold, .li x.cfg.lock, .lb x.ref, .li x.now, .bsl 0 x.desks.length, .imm false 5 (Nj x.sigs), .imm false 3 (O0 x.svcs), .imm false 1 (tI x.stuck), .imm false 4 (Uz x.views)]) := by
 refine B0 Tryz.func61 ?_
 have hb1 := hb.desks
 have hb2 := hb.sigs
 have hb3 := hb.svcs
 refine VW.R ?_
 refine VW.S (fun K kk => by simp [go_sem]; refine .lo (Ux _ (by simpa using hb.desks)) rfl (by simp) ?_; simp [go_sem]; exact kk) ?_
 have hA : a < x.desks.length := (Ab.1 hD).1
 refine VW.toBox 2 rfl (by intro e; simp at e; rw [e] at hA; simp at hA) (by decide) ?_
 simp [go_sem, -Prod.exists, Aqf]
 refine VW.seq <| .R <| .block ?_
 refine VW.range x.desks.length (fun i1 => if a < i1 then ⟨[(1, .ptr 0 0), (2, .ptr 1 0), (12, .li x.desks.length), (13, .li i1)], [.box 37 [.imm false 3 (Aby x.cfg.juns), .imm false 8 (tAg x.cfg.ags), .li x.cfg.per, .li x.cfg.cap, .li x.cfg.hold, .li x.cfg.lock, .lb x.ref, .li x.now, .bsl 2 x.desks.length, .imm false 5 (Nj x.sigs), .imm false 3 (O0 x.svcs), .imm false 1 (tI x.stuck), .imm false 4 (Uz x.views)], .box 37 [.nil 3, .nil 8, .li 0, .li 0, .li 0, .li 0, .lb false, .li 0, .nil 17, .nil 5, .nil 3, .nil 1, .nil 4], .box 70 ((Cd x.desks).set (a * 17 + 15) (.own 3 D.draws.length)), .row 44 1 false false (tYs D.draws)]⟩ else ⟨[(1, .ptr 0 0), (2, .ptr 1 0), (12, .li x.desks.length), (13, .li i1)], [.box 37 [.imm false 3 (Aby x.cfg.juns), .imm false 8 (tAg x.cfg.ags), .li x.cfg.per, .li x.cfg.cap, .li x.cfg.hold, .li x.cfg.lock, .lb x.ref, .li x.now, .bsl 2 x.desks.length, .imm false 5 (Nj x.sigs), .imm false 3 (O0 x.svcs), .imm false 1 (tI x.stuck), .imm false 4 (Uz x.views)], .box 37 [.nil 3, .nil 8, .li 0, .li 0, .li 0, .li 0, .lb false, .li 0, .nil 17, .nil 5, .nil 3, .nil 1, .nil 4], .box 70 (Cd x.desks)]⟩) (by rw [if_neg (by omega)]; exact ⟨[0, 1, 2], Bp (by decide) (by repeat' (first | exact .nil | refine .cons (by simp [go_sem]) ?_)) (by repeat' (first | exact .nil | refine .cons (by simp [go_sem, Zb]) ?_)), by simp⟩) fun i1 hi1 => ?_
 have hin : x.desks.length * 17 = (Cd x.desks).length := (Nr _).symm
 by_cases hai : a < i1
 ·
  rw [if_pos hai]
  refine VW.R <| .seq ?_
  refine VW.C ?_ ?_ <;> intro h14 <;> simp [go_sem] at h14
  ·have hx : x.desks[i1]? = some x.desks[i1] := Aa h14
   generalize x.desks[i1] = t at hx
   have hDt := Ahy hx (by omega) (.own 3 D.draws.length) (a := a)
   have hDs := Ahz hx (by omega) (.own 3 D.draws.length) (a := a)
   simp only [Bv.a, List.set] at hDt hDs
   refine VW.skip <| .seq <| .block <| .R ?_
   refine VW.M1 (cj2 hDt hDs) (Jb t (hb.desk t (Ac hx))) ?_
   refine VW.R1 ?_
   rw [if_pos (by omega)]
   refine ⟨by omega, [0, 1, 2, 3], Bp (by decide) ?_ ?_, by simp⟩
   ·simp [go_sem, Bq ((i1 : Int) + 1)]
   simp [go_sem, hDt, hDs, Dq, Zb]
  refine VW.exit <| .S (fun K kk => by simp [go_sem, Dq, Ea, Cr, Cu]; refine .lo (Ry _ (by simpa using hb.sigs)) rfl (by simp) ?_; simp [go_sem, Dq, Ea, Cr, Cu]; exact kk) <| .seq ?_
  refine VW.S (fun K kk => by simp [go_sem, Dq, Ea, Cr, Cu]; exact kk) <| .block ?_
  refine VW.range x.sigs.length (fun i2 => ⟨[(1, .ptr 0 0), (2, .ptr 1 0), (33, .li x.sigs.length), (34, .li i2)], [.box 37 [.imm false 3 (Aby x.cfg.juns), .imm false 8 (tAg x.cfg.ags), .li x.cfg.per, .li x.cfg.cap, .li x.cfg.hold, .li x.cfg.lock, .lb x.ref, .li x.now, .bsl 2 x.desks.length, .own 4 x.sigs.length, .imm false 3 (O0 x.svcs), .imm false 1 (tI x.stuck), .imm false 4 (Uz x.views)], .box 37 [.nil 3, .nil 8, .li 0, .li 0, .li 0, .li 0, .lb false, .li 0, .nil 17, .nil 5, .nil 3, .nil 1, .nil 4], .box 70 ((Cd x.desks).set (a * 17 + 15) (.own 3 D.draws.length)), .row 44 1 false false (tYs D.draws), .row 135 5 false false (Nj x.sigs)]⟩) ⟨[0, 1, 2, 3, 4], Bp (by decide) ?_ ?_, by simp⟩ fun i2 hi2 => ?_
  ·simp [go_sem, Dq, Ea, Cr, Cu]
  ·simp [go_sem, Dq, Ea, Cr, Cu]
  refine VW.S (fun K kk => by simp [go_sem, Dq, Ea, Cr, Cu]; exact kk) <| .seq ?_
  refine VW.cond (by simp [go_sem, Dq, Ea, Cr, Cu]) (by simp [go_sem, Dq, Ea, Cr, Cu]) (fun h35 => ?_) (fun h35 => ?_) <;> simp [go_sem, Dq, Ea, Cr, Cu] at h35
  ·have hx : x.sigs[i2]? = some x.sigs[i2] := Aa h35
   generalize x.sigs[i2] = t at hx
   have hs := Du (f := Fl.t) hx
   simp only [Fl.t] at hs
   refine VW.skip <| .seq <| .block <| .S (fun K kk => by simp [go_sem, Dq, Ea, Cr, Cu]; exact kk) ?_
   refine VW.M1 (cj2 hx hs) (Ml t (hb.sig t (Ac hx)).1 (hb.sig t (Ac hx)).2) ?_
   refine VW.S1 (fun K kk => by simp [go_sem, Dq, Ea, Cr, Cu]; exact kk) ?_
   refine ⟨by omega, [0, 1, 2, 3, 4], Bp (by decide) ?_ ?_, by simp⟩
   ·simp [go_sem, Bq ((i2 : Int) + 1)]
   simp [go_sem, Dq, Ea, Cr, Cu]
  refine VW.exit <| .S (fun K kk => by simp [go_sem, Dq, Ea, Cr, Cu]; refine .lo (Q1 _ (by simpa using hb.svcs)) rfl (by simp) ?_; simp [go_sem, Dq, Ea, Cr, Cu]; exact kk) <| .seq ?_
  refine VW.S (fun K kk => by simp [go_sem, Dq, Ea, Cr, Cu]; exact kk) <| .block ?_
  refine VW.range x.svcs.length (fun i3 => ⟨[(1, .ptr 0 0), (2, .ptr 1 0), (54, .li x.svcs.length), (55, .li i3)], [.box 37 [.imm false 3 (Aby x.cfg.juns), .imm false 8 (tAg x.cfg.ags), .li x.cfg.per, .li x.cfg.cap, .li x.cfg.hold, .li x.cfg.lock, .lb x.ref, .li x.now, .bsl 2 x.desks.length, .own 4 x.sigs.length, .own 5 x.svcs.length, .imm false 1 (tI x.stuck), .imm false 4 (Uz x.views)], .box 37 [.nil 3, .nil 8, .li 0, .li 0, .li 0, .li 0, .lb false, .li 0, .nil 17, .nil 5, .nil 3, .nil 1, .nil 4], .box 70 ((Cd x.desks).set (a * 17 + 15) (.own 3 D.draws.length)), .row 44 1 false false (tYs D.draws), .row 135 5 false false (Nj x.sigs), .row 138 3 false false (O0 x.svcs)]⟩) ⟨[0, 1, 2, 3, 4, 5], Bp (by decide) ?_ ?_, by simp⟩ fun i3 hi3 => ?_
  ·simp [go_sem, Dq, Ea, Cr, Cu]
  ·simp [go_sem, Dq, Ea, Cr, Cu]
  refine VW.S (fun K kk => by simp [go_sem, Dq, Ea, Cr, Cu]; exact kk) <| .seq ?_
  refine VW.cond (by simp [go_sem, Dq, Ea, Cr, Cu]) (by simp [go_sem, Dq, Ea, Cr, Cu]) (fun h56 => ?_) (fun h56 => ?_) <;> simp [go_sem, Dq, Ea, Cr, Cu] at h56
  ·have hx : x.svcs[i3]? = some x.svcs[i3] := Aa h56
   generalize x.svcs[i3] = t at hx
   have hs := Du (f := C8.t) hx
   simp only [C8.t] at hs
   refine VW.skip <| .seq <| .block <| .S (fun K kk => by simp [go_sem, Dq, Ea, Cr, Cu]; exact kk) ?_
   refine VW.M1 (cj2 hx hs) (Ia t (hb.svc t (Ac hx))) ?_
   refine VW.S1 (fun K kk => by simp [go_sem, Dq, Ea, Cr, Cu]; exact kk) ?_
   refine ⟨by omega, [0, 1, 2, 3, 4, 5], Bp (by decide) ?_ ?_, by simp⟩
   ·simp [go_sem, Bq ((i3 : Int) + 1)]
   simp [go_sem, Dq, Ea, Cr, Cu]
  refine VW.exit <| .S (fun K kk => by simp [go_sem, Dq, Ea, Cr, Cu]; refine .lo (Ep _ (by simpa using hb.stuck) (by simp [T.plain])) rfl (by simp) ?_; simp [go_sem, Dq, Ea, Cr, Cu]; exact kk) ?_
  refine VW.S (fun K kk => by simp [go_sem, Dq, Ea, Cr, Cu]; refine .l (Rv x.views hb.views hb.view) ?_; simp [go_sem, Dq, Ea, Cr, Cu]; exact kk) ?_
  refine VW.S (fun K kk => by simp [go_sem, Dq, Ea, Cr, Cu]; exact kk) ?_
  refine VW.freeze 4 (by simp [go_sem, Db]) ?_
  simp [go_sem, Cu]
  refine VW.freeze 5 (by simp [go_sem, Db]) ?_
  simp [go_sem, Cu]
  refine VW.freeze 6 (by simp [go_sem, Db]) ?_
  simp [go_sem, Cu]
  refine VW.ret (Nx [2, 3] (by simp [go_sem, Dq, Ea, Cr, Cu]) (by decide) (by simp) (by simp [go_sem, Dq, Ea, Cr, Cu]) ?_)
  repeat' (first | exact .nil | refine .cons (by simp [go_sem, Dq, Ea, Cr, Cu]) ?_)
 -- not yet
 rw [if_neg hai]
 refine VW.R <| .seq ?_
 refine VW.C ?_ ?_ <;> intro h14 <;> simp [go_sem] at h14
 ·
  by_cases hia : i1 = a
  ·subst hia
   have hx := hD
   have hDt := Aff hx
   have hDs := Aa8 hx (.own 3 D.draws.length)
   simp only [Bv.a, List.set] at hDt hDs
   refine VW.skip <| .seq <| .block <| .R ?_
   refine VW.M1 (cj2 hDt hDs) (Ye D (hb.desk D (Ac hx))) ?_
   refine VW.R1 ?_
   rw [if_pos (by omega)]
   refine ⟨by omega, [0, 1, 2, 3], Bp (by decide) ?_ ?_, by simp⟩
   ·simp [go_sem, Bq ((i1 : Int) + 1)]
   simp [go_sem, hDt, hDs, Dq, Zb]
  ·
   have hx : x.desks[i1]? = some x.desks[i1] := Aa h14
   generalize x.desks[i1] = t at hx
   have hDt := Aff hx
   have hDs := Aqe hx
   simp only [Bv.a, List.set] at hDt hDs
   refine VW.skip <| .seq <| .block <| .R ?_
   refine VW.M1 (cj2 hDt hDs) (Jb t (hb.desk t (Ac hx))) ?_
   refine VW.R1 ?_
   rw [if_neg (by omega)]
   refine ⟨by omega, [0, 1, 2], Bp (by decide) ?_ ?_, by simp⟩
   ·simp [go_sem, Bq ((i1 : Int) + 1)]
   simp [go_sem, hDt, hDs, Dq, Zb]
 -- none
 omega
theorem Asy {c : Ed} (hc : Hj c) {k : Nat} {D : Bv} (hD : c.desks[k]? = some D) {n : List Int} (h8 : D.draws.length < 8) (hn : n.length = 8) : Hj { c with desks := c.desks.set k { D with draws := D.draws ++ [n] } } := by
 have hm := hc.desk D (Ac hD)
 have hd : ∀ d ∈ c.desks.set k { D with draws := D.draws ++ [n] }, Ew d /\ d.aud.length <= 2 := fun d hd => by
  rcases Bi hd with h | rfl
  ·exact hc.desk d h
  exact ⟨⟨⟨hm.1.b.reg, hm.1.b.reqs, hm.1.b.legs, by simp; omega, fun s hs => by
   rcases A0.1 hs with h | h
   ·exact hm.1.b.draw s h
   ·rw [An.1 h]; omega, hm.1.b.aud⟩, hm.1.vehs, hm.1.reqs, fun s hs => by
   rcases A0.1 hs with h | h
   ·exact hm.1.dr s h
   rw [An.1 h]; omega, hm.1.rq⟩, hm.2⟩
 exact ⟨hc.ref, hc.jun, hc.nj, hc.na, by simpa using hc.desks, hd, hc.sigs, hc.sig, hc.svcs, hc.svc, hc.stuck, hc.views, hc.view⟩
theorem As3 (l : List Bv) {k : Nat} (hk : k < l.length) (v : AV) : ((Cd l).set (k * 17 + 15) v)[k * 17 + 15]? = some v := Bg (by rw [Nr]; omega)
theorem Ajy {l : List Bv} {k : Nat} {D : Bv} (h : l[k]? = some D) (X : List (List Int)) : ttL ((Cd l).set (k * 17 + 15) (.imm false 1 (tYs X))) = some (Ga (l.set k { D with draws := X })).flatten := by rw [<- Ari h, Aqk]
theorem Aig (l : List Bv) : ∀ e ∈ Ga l, e.length = 17 := fun e he => by
 obtain ⟨d, _, rfl⟩ := A4.1 he
 rfl
theorem Akr {l : List Bv} {k : Nat} {D : Bv} (h : l[k]? = some D) : l.set k { D with draws := D.draws } = l := by
 apply List.ext_getElem?
 intro i
 rw [List.getElem?_set]
 split
 ·next e => subst e; rw [h, if_pos (Ab.1 h).1]
 rfl
theorem Af6 {l : List Bv} {k : Nat} {D : Bv} (h : l[k]? = some D) : ttL ((Cd l).set (k * 17 + 15) (.imm false 1 (tYs D.draws))) = some (Ga l).flatten := by rw [Ajy h, Akr h]
theorem Ame {l : List Bv} {k : Nat} {D : Bv} (h : l[k]? = some D) (n : List Int) : ttL ((Cd l).set (k * 17 + 15) (.imm false 1 (tYs D.draws ++ [[T.sl 1 (tY n)]]))) = some (Ga (l.set k { D with draws := D.draws ++ [n] })).flatten := by
 rw [<- Ajy h, show tYs (D.draws ++ [n]) = tYs D.draws ++ [[T.sl 1 (tY n)]] from by simp]
theorem Abf (c : Ed) (a : Int) (n : List Int) (hc : Hj c) (hn : n.length <= 1000000) : ∃ res, PP 42 [] [c.g, .li a, .imm false 1 (tY n)] [] res /\ IsD (fun d : Ed => d.g) (fun d => Hj d /\ d.cfg = c.cfg) res := by
 refine Cb Tryz.func42 ?_
 have hr := hc.ref
 have hds := hc.desks
 have hna := hc.na
 refine VX.R ?_
 by_cases hk : 0 <= a /\ a < c.desks.length
 ·obtain ⟨k, rfl⟩ : ∃ k : Nat, a = k := ⟨a.toNat, by omega⟩
  have hkl : k < c.desks.length := by omega
  have hD : c.desks[k]? = some c.desks[k] := Aa hkl
  generalize c.desks[k] = D at hD
  have hlt : ¬ ((k : Int) < 0) := by omega
  have hge : ¬ ((c.desks.length : Int) <= (k : Int)) := by omega
  have hin : k * 17 + 15 < (Cd c.desks).length := by rw [Nr]; omega
  have hcl := Nr c.desks
  refine VX.S (fun K kk => by simp [go_sem]; refine .l (Yf c hc.b k D hD) ?_; simp [go_sem, Cr]; exact kk) <| .seq ?_
  refine VX.H (cj3 hr hlt hge) ?_
  refine VX.C ?_ ?_ <;> intro h27 <;> simp [go_sem] at h27
  ·
   refine VX.R ?_
   refine VX.F 3 ?_
   simp [go_sem, Cu]
   refine VX.sealB 2 17 (Ga c.desks) rfl (Af6 hD) (Aig _) (by simp) ?_
   simp [go_sem]
   refine VX.ret (Co ?_); simp [go_sem]
   exact ⟨c, by simp [go_sem, hr], hc, rfl⟩
  -- a nonce
  refine VX.skip <| .H ok0 <| .seq ?_
  have hat := As3 c.desks hkl (.own 3 D.draws.length)
  refine VX.H hat ?_
  refine VX.C ?_ ?_ <;> intro h38 <;> simp [go_sem] at h38
  ·
   refine VX.E1 (fun K kk => by simp [go_sem, hat]; (repeat refine aK ?_); refine .lo (B8.froz (B6 _ (by simpa using hn) (by simp [T.plain]))) rfl (by simp) ?_; simp [go_sem, hat]; (repeat first | exact kk | refine aK ?_)) ?_
   refine VX.R ?_
   refine VX.F 3 ?_
   simp [go_sem, Cu]
   refine VX.sealB 2 17 (Ga (c.desks.set k { D with draws := (D.draws ++ [n]) })) rfl (Ame hD n) (Aig _) (by simp) ?_
   simp [go_sem]
   refine VX.ret (Co ?_); simp [go_sem]
   exact ⟨{ c with desks := c.desks.set k { D with draws := D.draws ++ [n] } }, by simp [go_sem, hr], Asy hc hD (by omega) (by omega), rfl⟩
  -- none
  refine VX.skip <| .R ?_
  refine VX.F 3 ?_
  simp [go_sem, Cu]
  refine VX.sealB 2 17 (Ga c.desks) rfl (Af6 hD) (Aig _) (by simp) ?_
  simp [go_sem]
  refine VX.ret (Co ?_); simp [go_sem]
  exact ⟨c, by simp [go_sem, hr], hc, rfl⟩
 -- no such desk
 have hk2 : a < 0 \/ (c.desks.length : Int) <= a := by omega
 refine VX.L ok0 (Lq c hc.b) <| .seq ?_
 refine VX.H hr ?_
 refine VX.C ?_ ?_ <;> intro h27 <;> simp [go_sem] at h27
 ·
  refine VX.R ?_
  refine VX.Z ok0 2 ?_
  refine VX.Z ok0 3 ?_
  refine VX.Z ok0 4 ?_
  refine VX.Z ok0 5 ?_
  refine VX.ret (Co ?_); simp [go_sem]
  exact ⟨c, by simp [go_sem, hr], hc, rfl⟩
 -- not so
 exfalso
 omega
theorem Adm (c : Ed) (a : Int) (n : List Int) (hc : Hj c) (hn : n.length <= 1000000) : ∃ d : Ed, PP 42 [] [c.g, .li a, .imm false 1 (tY n)] [] (d.g) /\ (Hj d /\ d.cfg = c.cfg) := got (Abf c a n hc hn)
def EvQ (e : TEv) : Prop := e.bytes.length <= 1000000 /\ By e.bytes
noncomputable def R5 (s : Cn) (e : TEv) : Cn := by
 classical
 exact if h : Ahs s /\ e.bytes.length <= 1000000 then (if e.kind = 1 then Ev s h.1.1 else if e.kind = 2 then Jx s else if e.kind = 3 then Jw s e.bytes h.1.1 h.2 else s) else s
noncomputable def Gj (l : List Cn) (e : TEv) : List Cn := if 0 <= e.se then (match l[e.se.toNat]? with | some s => l.set e.se.toNat (R5 s e) | none => l) else l
theorem Ps {l : List Cn} {e : TEv} {s : Cn} (h0 : 0 <= e.se) (hs : l[e.se.toNat]? = some s) : Gj l e = l.set e.se.toNat (R5 s e) := by simp [Gj, h0, hs]
theorem Wt {l : List Cn} {e : TEv} (h : ¬ (0 <= e.se /\ e.se < l.length)) : Gj l e = l := by
 unfold Gj
 split
 ·rw [Ar (by omega)]
 rfl
theorem Amu {s : Cn} {e : TEv} (hs : Ahs s) (he : e.bytes.length <= 1000000) (hk : e.kind = 1) : R5 s e = Ev s hs.1 := by simp [R5, hs, he, hk]
theorem Aqr {s : Cn} {e : TEv} (hs : Ahs s) (he : e.bytes.length <= 1000000) (hk : e.kind = 2) : R5 s e = Jx s := by simp [R5, hs, he, hk]
theorem Aqq {s : Cn} {e : TEv} (hs : Ahs s) (he : e.bytes.length <= 1000000) (hk : e.kind = 3) : R5 s e = Jw s e.bytes hs.1 he := by simp [R5, hs, he, hk]
theorem Amp {l : List Cn} {i : Nat} {s : Cn} (hs : l[i]? = some s) : l.set i s = l := by
 have := (Ab.1 hs)
 obtain ⟨h, rfl⟩ := this
 exact List.set_getElem_self h
theorem An6 {l : List Cn} {e : TEv} (h1 : e.kind ≠ 1) (h2 : e.kind ≠ 2) (h3 : e.kind ≠ 3) : Gj l e = l := by
 unfold Gj
 split
 ·split
  ·rename_i s hs
   have : R5 s e = s := by simp [R5, h1, h2, h3]
   rw [this]
   exact Amp hs
  rfl
 rfl
theorem Hj.stuckd {c d : Ed} (h : Hj c) (q : d.cfg = c.cfg /\ d.ref = c.ref /\ d.now = c.now /\ d.desks = c.desks /\ d.sigs = c.sigs /\ d.svcs = c.svcs /\ d.views = c.views /\ d.stuck.length = c.stuck.length) : Hj d := by
 obtain ⟨q1, q2, q3, q4, q5, q6, q7, q8⟩ := q
 exact ⟨by rw [q2]; exact h.ref, by rw [q1]; exact h.jun, by rw [q1]; exact h.nj, by rw [q1]; exact h.na, by rw [q4, q1]; exact h.desks, by rw [q4]; exact h.desk, by rw [q5, q1]; exact h.sigs, by rw [q5]; exact h.sig, by rw [q6, q1]; exact h.svcs, by rw [q6]; exact h.svc, by rw [q8, q1]; exact h.stuck, by rw [q7, q1]; exact h.views, by rw [q7]; exact h.view⟩
structure DoQ (b : Hd) (e : TEv) (d : Hd × J3 × Bool) : Prop where
  i : Ns d.1
  cfg : d.1.city.cfg = b.city.cfg
  len : d.1.sess.length = b.sess.length
  few : e.kind <= 3 -> d = (⟨b.city, Gj b.sess e⟩, ⟨[], []⟩, false)
  tick : e.kind = 6 -> d.2.2 = true /\ (d.2.1.ses.length : Int) = Fk b.city.cfg.ags b.city.cfg.ags.length /\ d.1.city.now = IntKind.i64.wrap ((if 1073741823 < b.city.now then 1073741823 else b.city.now) + 1) /\ Arf d.1.city.now b.sess d.2.1.ses
  none : e.kind ≠ 6 -> d.2.2 = false
theorem DoQ.ses {b : Hd} {e : TEv} (hb : Ns b) {s x : Cn} (h0 : 0 <= e.se) (hs : b.sess[e.se.toNat]? = some s) (hx : Ahs x) (h : R5 s e = x) (hk : e.kind <= 3) : DoQ b e (⟨b.city, b.sess.set e.se.toNat x⟩, ⟨[], []⟩, false) :=
 ⟨⟨hb.city, by simpa using hb.n, Sk hb.ses hx⟩, rfl, by simp, fun _ => by rw [Ps h0 hs, h], fun h => by omega, fun _ => rfl⟩
theorem DoQ.no {b : Hd} {e : TEv} (hb : Ns b) (h : Gj b.sess e = b.sess \/ 3 < e.kind) (hk : e.kind ≠ 6) : DoQ b e (b, ⟨[], []⟩, false) :=
 ⟨hb, rfl, rfl, fun h3 => (by rcases h with h | h <;> first | (rw [h]; done) | omega), fun h => absurd h hk, fun _ => rfl⟩
theorem DoQ.city {b : Hd} {e : TEv} (hb : Ns b) {c : Ed} (hc : Hj c) (h : c.cfg = b.city.cfg) (h3 : 3 < e.kind) (hk : e.kind ≠ 6) : DoQ b e (⟨c, b.sess⟩, ⟨[], []⟩, false) :=
 ⟨⟨hc, hb.n, hb.ses⟩, h, rfl, fun h => by omega, fun h => absurd h hk, fun _ => rfl⟩
theorem Ro (b : Hd) (e : TEv) (hb : Ns b) (he : EvQ e) : Ct 14 [b.g, e.g] (fun d : Hd × J3 × Bool => .tup [d.1.g, d.2.1.g, .lb d.2.2]) (fun d => DoQ b e d) := by
 refine Cb Tryz.func14 ?_
 have hbn := hb.n
 have heb := he.1
 refine VX.R ?_
 refine VX.L ok0 (Yg b hb.b) ?_
 refine VX.R <| .seq ?_
 refine VX.Z ok0 4 ?_
 refine VX.Z ok0 5 ?_
 refine VX.Z ok0 6 ?_
 refine VX.Z ok0 7 ?_
 refine VX.R <| .block ?_
 refine VX.R ?_
 refine VX.C ?_ ?_ <;> intro h25 <;> simp [go_sem] at h25
 ·refine VX.R ?_
  refine VX.C ?_ ?_ <;> intro h27 <;> simp [go_sem] at h27
  ·have hex := h27
   obtain ⟨sk, hsk⟩ : ∃ u, b.sess[e.se.toNat]? = some u := ⟨_, Aa (by omega)⟩
   have hsq := hb.ses sk (Ac hsk)
   have hv := Af2 sk hsq.1
   have hq := Xj sk hsq.1
   refine VX.M1 hsk (hv) ?_
   refine VX.R ?_
   refine VX.Z ok0 8 ?_
   exact .ret (fin ok0 (⟨b.city, (b.sess).set e.se.toNat (Ev sk hsq.1)⟩, ⟨[], []⟩, false) (DoQ.ses hb hex.1 hsk ⟨hq.1, hq.2.1 hsq.2⟩ (Amu hsq heb h25) (by omega)))
  refine VX.skip <| .R ?_
  refine VX.Z ok0 8 ?_
  exact .ret (fin ok0 (⟨b.city, b.sess⟩, ⟨[], []⟩, false) (DoQ.no hb (.inl (Wt (by omega))) (by omega)))
 refine VX.R ?_
 refine VX.C ?_ ?_ <;> intro h40 <;> simp [go_sem] at h40
 ·refine VX.R ?_
  refine VX.C ?_ ?_ <;> intro h42 <;> simp [go_sem] at h42
  ·have hex := h42
   obtain ⟨sk, hsk⟩ : ∃ u, b.sess[e.se.toNat]? = some u := ⟨_, Aa (by omega)⟩
   have hsq := hb.ses sk (Ac hsk)
   have hv := Af3 sk
   have hq := Agv sk
   refine VX.M1 hsk (hv) ?_
   refine VX.R ?_
   refine VX.Z ok0 8 ?_
   exact .ret (fin ok0 (⟨b.city, (b.sess).set e.se.toNat (Jx sk)⟩, ⟨[], []⟩, false) (DoQ.ses hb hex.1 hsk hq (Aqr hsq heb h40) (by omega)))
  refine VX.skip <| .R ?_
  refine VX.Z ok0 8 ?_
  exact .ret (fin ok0 (⟨b.city, b.sess⟩, ⟨[], []⟩, false) (DoQ.no hb (.inl (Wt (by omega))) (by omega)))
 refine VX.R ?_
 refine VX.C ?_ ?_ <;> intro h55 <;> simp [go_sem] at h55
 ·refine VX.R ?_
  refine VX.C ?_ ?_ <;> intro h57 <;> simp [go_sem] at h57
  ·have hex := h57
   obtain ⟨sk, hsk⟩ : ∃ u, b.sess[e.se.toNat]? = some u := ⟨_, Aa (by omega)⟩
   have hsq := hb.ses sk (Ac hsk)
   have hv := Af1 sk e.bytes hsq.1 heb
   have hq := Agu sk e.bytes hsq.1 heb
   refine VX.M1 hsk (hv) ?_
   refine VX.R ?_
   refine VX.Z ok0 8 ?_
   exact .ret (fin ok0 (⟨b.city, (b.sess).set e.se.toNat (Jw sk e.bytes hsq.1 heb)⟩, ⟨[], []⟩, false) (DoQ.ses hb hex.1 hsk ⟨hq.1, hq.2 hsq.2 he.2⟩ (Aqq hsq heb h55) (by omega)))
  refine VX.skip <| .R ?_
  refine VX.Z ok0 8 ?_
  exact .ret (fin ok0 (⟨b.city, b.sess⟩, ⟨[], []⟩, false) (DoQ.no hb (.inl (Wt (by omega))) (by omega)))
 refine VX.R ?_
 refine VX.C ?_ ?_ <;> intro h72 <;> simp [go_sem] at h72
 ·obtain ⟨Y1, cY1, qY1⟩ := Adm b.city e.x e.bytes hb.city heb
  have hv := cY1
  have hq := qY1
  generalize Y1 = G at hv hq
  refine VX.L1 ok0 (hv) ?_
  refine VX.R ?_
  refine VX.Z ok0 8 ?_
  exact .ret (fin ok0 (⟨G, b.sess⟩, ⟨[], []⟩, false) (DoQ.city hb hq.1 hq.2 (by omega) (by omega)))
 refine VX.R ?_
 refine VX.C ?_ ?_ <;> intro h82 <;> simp [go_sem] at h82
 ·obtain ⟨Y2, cY2, qY2⟩ := got (Abe b.city e.x e.y hb.city.b (hb.city.stuck))
  have hv := cY2
  have hq := qY2
  generalize Y2 = G at hv hq
  refine VX.L1 ok0 (hv) ?_
  refine VX.R ?_
  refine VX.Z ok0 8 ?_
  exact .ret (fin ok0 (⟨G, b.sess⟩, ⟨[], []⟩, false) (DoQ.city hb (hb.city.stuckd hq) hq.1 (by omega) (by omega)))
 refine VX.R ?_
 refine VX.C ?_ ?_ <;> intro h92 <;> simp [go_sem] at h92
 ·obtain ⟨Y3, cY3, qY3⟩ := Xx b hb
  have hv := cY3
  have hq := qY3
  generalize Y3 = G at hv hq
  refine VX.S (fun K kk => by simp [go_sem]; refine .o [8] (hv) ?_; simp [go_sem]; exact kk) ?_
  refine VX.D ?_
  exact .ret (fin ok0 (G.1, G.2, true) ⟨hq.1, hq.2.1, hq.2.2.1, fun h => by omega, fun _ => ⟨rfl, hq.2.2.2⟩, fun h => absurd h92 h⟩)
 refine VX.skip <| .R ?_
 refine VX.Z ok0 8 ?_
 exact .ret (fin ok0 (⟨b.city, b.sess⟩, ⟨[], []⟩, false) (DoQ.no hb (.inl (An6 (by omega) (by omega) (by omega))) (by omega)))
noncomputable def Hw (b : Hd) (e : TEv) (hb : Ns b) (he : EvQ e) : Hd × J3 × Bool := (got (Ro b e hb he)).choose
theorem Af5 (b : Hd) (e : TEv) (hb : Ns b) (he : EvQ e) : PP 14 [] [b.g, e.g] [] (.tup [.agg ((Hw b e hb he).1.a false), .agg ((Hw b e hb he).2.1.a false), .lit (.bool (Hw b e hb he).2.2)]) := (got (Ro b e hb he)).choose_spec.1
theorem Hx (b : Hd) (e : TEv) (hb : Ns b) (he : EvQ e) : DoQ b e (Hw b e hb he) := (got (Ro b e hb he)).choose_spec.2
end Go.Proofs.YtkkimgjinbaemaaGreat
