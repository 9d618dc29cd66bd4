/- The walk. -/
import Derived.Test.YtkkimgjinbaemaaGreatKat
namespace Go.Proofs.YtkkimgjinbaemaaGreat
open Go.RowKit
set_option linter.unusedVariables false
set_option linter.unusedSimpArgs false
set_option maxRecDepth 100000
set_option maxHeartbeats 4000000
def Cd (l : List Du) : List AV := N4 false (Io l)
theorem Abt (d : Du) (l : List Du) : Cd (d :: l) = d.a false ++ Cd l := rfl
theorem Du.al (d : Du) : (d.a false).length = 17 := rfl
theorem P2 : ∀ (l : List Du), (Cd l).length = l.length * 17
 | [] => rfl
 | d :: l => by rw [Abt, Bo, P2 l, Du.al, A6]; omega
theorem Sw : ∀ {l : List Du} {i : Nat} {d : Du}, l[i]? = some d -> ∀ j, j < 17 -> (Cd l)[i * 17 + j]? = (d.a false)[j]?
 | [], i, d, h, _, _ => by simp at h
 | e :: l, 0, d, h, j, hj => by
  simp at h; subst h
  rw [Abt, Nat.zero_mul, Bm, Au (by rw [Du.al]; exact hj)]
 | e :: l, i + 1, d, h, j, hj => by
  have h : l[i]? = some d := by simpa using h
  rw [Abt, Ao (by rw [Du.al]; omega), Du.al, show (i + 1) * 17 + j - 17 = i * 17 + j by omega]
  exact Sw h j hj
theorem Ah8 {l : List Du} {i : Nat} {d : Du} (h : l[i]? = some d) : ((Cd l).drop (i * 17)).take 17 = d.a false := by
 apply List.ext_getElem?
 intro j
 rw [List.getElem?_take, Bd]
 by_cases hj : j < 17
 ·rw [if_pos hj, Sw h j hj]
 rw [if_neg hj, Ar (by rw [Du.al]; omega)]
theorem Akv {l : List Du} {i a : Nat} {d : Du} (h : l[i]? = some d) (hia : i ≠ a) (v : AV) : (((Cd l).set (a * 17 + 15) v).drop (i * 17)).take 17 = d.a false := by
 rw [<- Ah8 h]
 apply List.ext_getElem?
 intro j
 rw [List.getElem?_take, Bd, List.getElem?_take, Bd]
 by_cases hj : j < 17
 ·rw [if_pos hj, if_pos hj, A9 (by omega)]
 rw [if_neg hj, if_neg hj]
theorem Afi {α : Type} {cs : List α} {off : Nat} {vs : List α} (h : ∀ j, j < vs.length -> cs[off + j]? = vs[j]?) : Jt cs off vs = cs := by
 apply List.ext_getElem?
 intro p
 rw [I1]
 split
 ·next hp => rw [show p = off + (p - off) by omega, h (p - off) (by omega)]; congr 1; omega
 rfl
theorem Atp {l : List Du} {i : Nat} {d : Du} (h : l[i]? = some d) : Jt (Cd l) (i * 17) (d.a false) = Cd l := Afi fun j hj => Sw h j (by rw [Du.al] at hj; exact hj)
theorem Akw {l : List Du} {i a : Nat} {d : Du} (h : l[i]? = some d) (hia : i ≠ a) (v : AV) : Jt ((Cd l).set (a * 17 + 15) v) (i * 17) (d.a false) = (Cd l).set (a * 17 + 15) v := Afi fun j hj => by
 rw [Du.al] at hj
 rw [A9 (by omega), Sw h j hj]
theorem Ady {l : List Du} {a : Nat} {d : Du} (h : l[a]? = some d) (v : AV) : Jt (Cd l) (a * 17) ((d.a false).set 15 v) = (Cd l).set (a * 17 + 15) v := by
 have ha : a < l.length := (Ab.1 h).1
 apply List.ext_getElem?
 intro p
 rw [I1, List.length_set, Du.al, P2]
 by_cases hp : a * 17 <= p /\ p < a * 17 + 17 /\ p < l.length * 17
 ·rw [if_pos hp]
  obtain ⟨j, rfl⟩ : ∃ j, p = a * 17 + j := ⟨p - a * 17, by omega⟩
  rw [show a * 17 + j - a * 17 = j by omega]
  by_cases hj : j = 15
  ·subst hj
   rw [Bg (by rw [Du.al]; omega), Bg (by rw [P2]; omega)]
  rw [A9 (by omega), A9 (by omega), Sw h j (by omega)]
 rw [if_neg hp, A9 (by omega)]
theorem Auv {l : List Du} {a : Nat} {d : Du} (h : l[a]? = some d) (X : List (List Int)) : Cd (l.set a { d with draws := X }) = (Cd l).set (a * 17 + 15) (.imm false 1 (tYs X)) := by
 have ha : a < l.length := (Ab.1 h).1
 rw [<- Ady h]
 have h1 : (l.set a { d with draws := X })[a]? = some { d with draws := X } := Bg ha
 apply List.ext_getElem?
 intro p
 rw [I1, List.length_set, Du.al, P2]
 by_cases hp : a * 17 <= p /\ p < a * 17 + 17 /\ p < l.length * 17
 ·rw [if_pos hp]
  obtain ⟨j, rfl⟩ : ∃ j, p = a * 17 + j := ⟨p - a * 17, by omega⟩
  rw [Sw h1 j (by omega), show a * 17 + j - a * 17 = j by omega]
  rfl
 rw [if_neg hp]
 by_cases hq : p < l.length * 17
 ·have hi : p / 17 < l.length := by omega
  have hpe : p = p / 17 * 17 + p % 17 := by omega
  have hne : p / 17 ≠ a := fun e => hp ⟨by omega, by omega, hq⟩
  have h2 : l[p / 17]? = some l[p / 17] := Aa hi
  have h3 : (l.set a { d with draws := X })[p / 17]? = some l[p / 17] := by rw [A9 (fun e => hne e.symm)]; exact h2
  rw [hpe, Sw h3 _ (Nat.mod_lt _ (by decide)), Sw h2 _ (Nat.mod_lt _ (by decide))]
 rw [Ar (by rw [P2, List.length_set]; omega), Ar (by rw [P2]; omega)]
theorem Atq (l : List Du) : N4 false (Io l) = Cd l := rfl
theorem Aqs {F : List AV -> List AV} {f : AV -> AV} (hF : ∀ (cs : List AV) (i : Nat), (F cs)[i]? = (cs[i]?).map f) (h1 : ∀ v, f (.lit v) = .lit v) (h2 : ∀ k es, f (.imm false k es) = .imm false k es) (l : List Du) : F (Cd l) = Cd l := by
 apply List.ext_getElem?
 intro p
 rw [hF]
 by_cases hq : p < l.length * 17
 ·have hi : p / 17 < l.length := by omega
  have hpe : p = p / 17 * 17 + p % 17 := by omega
  have h2' : l[p / 17]? = some l[p / 17] := Aa hi
  have hj : p % 17 < 17 := Nat.mod_lt _ (by decide)
  rw [hpe, Sw h2' _ hj]
  generalize p % 17 = j at hj
  generalize l[p / 17] = d
  have : ∀ j, j < 17 -> Option.map f ((d.a false)[j]?) = (d.a false)[j]? := fun j hj => by
   have hc : j = 0 \/ j = 1 \/ j = 2 \/ j = 3 \/ j = 4 \/ j = 5 \/ j = 6 \/ j = 7 \/ j = 8 \/ j = 9 \/ j = 10 \/ j = 11 \/ j = 12 \/ j = 13 \/ j = 14 \/ j = 15 \/ j = 16 := by omega
   rcases hc with rfl | rfl | rfl | rfl | rfl | rfl | rfl | rfl | rfl | rfl | rfl | rfl | rfl | rfl | rfl | rfl | rfl <;> simp [Du.a, h1, h2]
  exact this j hj
 rw [Ar (by rw [P2]; omega)]; rfl
theorem Sq {F : List AV -> List AV} {f : AV -> AV} (hF : ∀ (cs : List AV) (i : Nat), (F cs)[i]? = (cs[i]?).map f) (h1 : ∀ v, f (.lit v) = .lit v) (h2 : ∀ k es, f (.imm false k es) = .imm false k es) (l : List Du) (p : Nat) (v : AV) : F ((Cd l).set p v) = (Cd l).set p (f v) := by
 have h := Aqs hF h1 h2 l
 apply List.ext_getElem?
 intro q
 rw [hF]
 by_cases hq : p = q
 ·subst hq
  by_cases hp : p < (Cd l).length
  ·rw [Bg hp, Bg hp]; rfl
  rw [Ar (by simp; omega), Ar (by simp; omega)]; rfl
 rw [A9 hq, A9 hq, <- hF, h]
theorem Ajz : ∀ (cs : List AV) (i : Nat), (Jn cs)[i]? = (cs[i]?).map AV.low
 | [], i => by simp [Jn]
 | c :: cs, 0 => by simp [Jn]
 | c :: cs, i + 1 => by have := Ajz cs i; simpa [Jn] using this
theorem F6 (ρ : Nat -> Option Nat) (l : List Du) (p : Nat) (v : AV) : Mq ρ ((Cd l).set p v) = (Cd l).set p (v.ren ρ) := Sq (Ny ρ) (fun v => by simp only [AV.ren]) (fun k es => by simp only [AV.ren]) l p v
theorem Abs (ρ : Nat -> Option Nat) (l : List Du) : Mq ρ (Cd l) = Cd l := Aqs (Ny ρ) (fun v => by simp only [AV.ren]) (fun k es => by simp only [AV.ren]) l
theorem Gj (l : List Du) (p : Nat) (v : AV) : Jn ((Cd l).set p v) = (Cd l).set p v.low := Sq Ajz (fun v => by simp only [AV.low]) (fun k es => by simp only [AV.low]) l p v
theorem E4 (N : Nat) (l : List Du) (p : Nat) (v : AV) : Nc N ((Cd l).set p v) = (Cd l).set p (v.shift N) := Sq (Nb N) (fun v => by simp only [AV.shift]) (fun k es => by simp only [AV.shift]) l p v
theorem E8 (o : Nat -> Ob) (l : List Du) (p : Nat) (v : AV) : Qm o ((Cd l).set p v) = (Cd l).set p (v.melt o) := Sq (O7 o) (fun v => by simp only [AV.melt]) (fun k es => by simp only [AV.melt]) l p v
theorem Amx : ∀ {a b : List AV} {x y : List T}, ttL a = some x -> ttL b = some y -> ttL (a ++ b) = some (x ++ y)
 | [], b, x, y, h1, h2 => by simp [ttL] at h1; subst h1; simpa using h2
 | c :: a, b, x, y, h1, h2 => by
  simp only [ttL, List.cons_append] at h1 ⊢
  cases hc : Wo c with
  | none => rw [hc] at h1; simp at h1
  | some t =>
   cases ha : ttL a with
   | none => rw [hc, ha] at h1; simp at h1
   | some xs =>
    rw [hc, ha] at h1
    simp at h1
    subst h1
    rw [Amx ha h2]
    simp
theorem Atw : ∀ (l : List Du), ttL (Cd l) = some (Io l).flatten
 | [] => rfl
 | d :: l => by
  rw [Abt]
  have := Amx (a := d.a false) (x := d.t) (by rfl) (Atw l)
  rw [this]
  rfl
theorem Aay (x : Du) (hb : Ti x) : PP 86 [] [x.g] [.row 44 1 false false (tYs x.draws)] (.agg [.li x.reg.num, .imm false 1 (tY x.reg.ag.sec), .li x.reg.ag.ri, .li x.reg.ag.cls, .imm false 1 (tI x.reg.ag.lims), .li x.reg.ag.rq, .li x.reg.ag.se, .li x.reg.ag.ra, .li x.reg.ag.bu, .imm false 6 (M9 x.reg.toks), .imm false 2 (Wq x.reg.vehs), .li x.reg.bk.lv, .li x.reg.bk.ra, .li x.reg.bk.bu, .imm false 5 (Gz x.reqs), .own 0 x.draws.length, .imm false 1 (tB x.aud)]) := by
 refine Eb Tryz.func86 ?_
 have hb1 := hb.reqs
 have hb2 := hb.draws
 refine Bw ?_
 refine Df ok0 (Qc x.reg hb.reg) ?_
 refine Ce (fun K kk => by simp [go_sem]; refine .lo (Ta _ (by simpa using hb.reqs)) rfl (by simp) ?_; simp [go_sem]; exact kk) <| .seq ?_
 refine Bw <| .block ?_
 refine Cc x.reqs.length (fun i1 => ⟨[(1, .ptr 0 0), (2, .ptr 1 0), (15, .li x.reqs.length), (16, .li i1)], [.box 70 [.li x.reg.num, .imm false 1 (tY x.reg.ag.sec), .li x.reg.ag.ri, .li x.reg.ag.cls, .imm false 1 (tI x.reg.ag.lims), .li x.reg.ag.rq, .li x.reg.ag.se, .li x.reg.ag.ra, .li x.reg.ag.bu, .imm false 6 (M9 x.reg.toks), .imm false 2 (Wq x.reg.vehs), .li x.reg.bk.lv, .li x.reg.bk.ra, .li x.reg.bk.bu, .own 2 x.reqs.length, .imm false 1 (tYs x.draws), .imm false 1 (tB x.aud)], .box 70 [.li 0, .nil 1, .li 0, .li 0, .nil 1, .li 0, .li 0, .li 0, .li 0, .nil 6, .nil 2, .li 0, .li 0, .li 0, .nil 5, .nil 1, .nil 1], .row 164 5 false false (Gz x.reqs)]⟩) (wk ok0 [0, 1, 2]) fun i1 hi1 => ?_
 refine Bw <| .seq ?_
 refine B7 ?_ ?_ <;> intro h17
 ·have hx : x.reqs[i1]? = some x.reqs[i1] := Aa h17
  generalize x.reqs[i1] = t at hx
  have hs := Ga (f := Em.t) hx
  simp only [Em.t] at hs
  refine Bv <| .seq <| .block <| .R ?_
  refine VW.E1 (fun K kk => by simp [go_sem, hx, hs]; (repeat refine aK ?_); refine .lo (Ei.froz (Lq _ (by simpa using hb.legs t (Ac hx)) (by simp [T.plain, Gf.t]))) rfl (by simp) ?_; simp [go_sem, hx, hs]; (repeat first | exact kk | refine aK ?_)) ?_
  refine Cl ?_
  refine ⟨by omega, [0, 1, 2], Ds (by decide) ?_ ?_, by simp⟩
  ·simp [go_sem, Dt ((i1 : Int) + 1)]
  simp [go_sem]
 refine B5 ?_
 refine Ch 2 (by simp [go_sem, Fp]) ?_
 simp [go_sem]
 refine Bx (by rfl) fun K1 hK1 => ?_
 simp [go_sem]
 refine .lo (Ub _ (by simpa using hb.draws)) rfl (by simp) ?_
 simp [go_sem]
 refine hK1 _ ?_; clear hK1
 refine Dr <| .R <| .block ?_
 refine Cc x.draws.length (fun i2 => ⟨[(1, .ptr 0 0), (2, .ptr 1 0), (38, .li x.draws.length), (39, .li i2)], [.box 70 [.li x.reg.num, .imm false 1 (tY x.reg.ag.sec), .li x.reg.ag.ri, .li x.reg.ag.cls, .imm false 1 (tI x.reg.ag.lims), .li x.reg.ag.rq, .li x.reg.ag.se, .li x.reg.ag.ra, .li x.reg.ag.bu, .imm false 6 (M9 x.reg.toks), .imm false 2 (Wq x.reg.vehs), .li x.reg.bk.lv, .li x.reg.bk.ra, .li x.reg.bk.bu, .imm false 5 (Gz x.reqs), .own 2 x.draws.length, .imm false 1 (tB x.aud)], .box 70 [.li 0, .nil 1, .li 0, .li 0, .nil 1, .li 0, .li 0, .li 0, .li 0, .nil 6, .nil 2, .li 0, .li 0, .li 0, .nil 5, .nil 1, .nil 1], .row 44 1 false false (tYs x.draws)]⟩) (wk ok0 [0, 1, 3]) fun i2 hi2 => ?_
 refine Bw <| .seq ?_
 refine B7 ?_ ?_ <;> intro h40
 ·have hx : x.draws[i2]? = some x.draws[i2] := Aa h40
  generalize x.draws[i2] = t at hx
  have hs := Ga (f := fun x => [T.sl 1 (tY x)]) hx
  refine Bv <| .seq <| .block <| .R ?_
  refine VW.draw1 (by kernel_rfl) (by rfl) (by kernel_rfl) fun K1 hK1 => ?_
  simp [go_sem, hx, hs]
  repeat' refine Ax ?_ ?_
  all_goals try (intros; (repeat' refine Ax ?_ ?_) <;> omega)
  refine .lo (Ei.froz (Ee _ (by simpa using hb.draw t (Ac hx)) (by simp [T.plain]))) rfl (by simp) ?_
  simp [go_sem, hx, hs]
  repeat' refine Ax ?_ ?_
  all_goals try (intros; (repeat' refine Ax ?_ ?_) <;> omega)
  refine hK1 _ _ (by kernel_rfl) ?_; clear hK1
  refine Cl ?_
  refine ⟨by omega, [0, 1, 2], Ds (by decide) ?_ ?_, by simp⟩
  ·simp [go_sem, Dt ((i2 : Int) + 1)]
  simp [go_sem]
 refine B5 <| .S (fun K kk => by simp [go_sem]; refine .lo (Vz _ (by simpa using hb.aud) (by simp [T.plain])) rfl (by simp) ?_; simp [go_sem]; exact kk) ?_
 refine Bw ?_
 refine Ch 3 (by simp [go_sem, Fp]) ?_
 simp [go_sem]
 exact .ret (rW ok0 [2])
theorem Aaz (x : Fe) (hb : Aku x) (a : Nat) (D : Du) (hD : x.desks[a]? = some D) : PP 61 [] [x.g] [.box 70 ((Cd x.desks).set (a * 17 + 15) (.own 1 D.draws.length)), .row 44 1 false false (tYs D.draws)] (.agg [.imm false 3 (Wr x.cfg.juns), .imm false 8 (tAg x.cfg.ags), .li x.cfg.per, .li x.cfg.cap, .li x.cfg.hold, .li x.cfg.lock, .lb x.ref, .li x.now, .bsl 0 x.desks.length, .imm false 5 (Nv x.sigs), .imm false 3 (On x.svcs), .imm false 1 (tI x.stuck), .imm false 4 (Qf x.views)]) := by
 refine Eb Tryz.func61 ?_
 have hb1 := hb.desks
 have hb2 := hb.sigs
 have hb3 := hb.svcs
 refine Bw ?_
 refine Ce (fun K kk => by simp [go_sem]; refine .lo (Xi _ (by simpa using hb.desks)) rfl (by simp) ?_; simp [go_sem]; exact kk) ?_
 have hA : a < x.desks.length := (Ab.1 hD).1
 refine VW.toBox 2 rfl (by intro e; simp at e; rw [e] at hA; simp at hA) (by decide) ?_
 simp [go_sem, -Prod.exists, Atq]
 refine Dr <| .R <| .block ?_
 refine Cc x.desks.length (fun i1 => if a < i1 then ⟨[(1, .ptr 0 0), (2, .ptr 1 0), (12, .li x.desks.length), (13, .li i1)], [.box 37 [.imm false 3 (Wr x.cfg.juns), .imm false 8 (tAg x.cfg.ags), .li x.cfg.per, .li x.cfg.cap, .li x.cfg.hold, .li x.cfg.lock, .lb x.ref, .li x.now, .bsl 2 x.desks.length, .imm false 5 (Nv x.sigs), .imm false 3 (On x.svcs), .imm false 1 (tI x.stuck), .imm false 4 (Qf x.views)], .box 37 [.nil 3, .nil 8, .li 0, .li 0, .li 0, .li 0, .lb false, .li 0, .nil 17, .nil 5, .nil 3, .nil 1, .nil 4], .box 70 ((Cd x.desks).set (a * 17 + 15) (.own 3 D.draws.length)), .row 44 1 false false (tYs D.draws)]⟩ else ⟨[(1, .ptr 0 0), (2, .ptr 1 0), (12, .li x.desks.length), (13, .li i1)], [.box 37 [.imm false 3 (Wr x.cfg.juns), .imm false 8 (tAg x.cfg.ags), .li x.cfg.per, .li x.cfg.cap, .li x.cfg.hold, .li x.cfg.lock, .lb x.ref, .li x.now, .bsl 2 x.desks.length, .imm false 5 (Nv x.sigs), .imm false 3 (On x.svcs), .imm false 1 (tI x.stuck), .imm false 4 (Qf x.views)], .box 37 [.nil 3, .nil 8, .li 0, .li 0, .li 0, .li 0, .lb false, .li 0, .nil 17, .nil 5, .nil 3, .nil 1, .nil 4], .box 70 (Cd x.desks)]⟩) (by rw [if_neg (by omega)]; exact ⟨[0, 1, 2], Ds (by decide) (by repeat' (first | exact .nil | refine .cons (by simp [go_sem]) ?_)) (by repeat' (first | exact .nil | refine .cons (by simp [go_sem, Abs]) ?_)), by simp⟩) fun i1 hi1 => ?_
 have hin : x.desks.length * 17 = (Cd x.desks).length := (P2 _).symm
 by_cases hai : a < i1
 ·
  rw [if_pos hai]
  refine Bw <| .seq ?_
  refine B7 ?_ ?_ <;> intro h14
  ·have hx : x.desks[i1]? = some x.desks[i1] := Aa h14
   generalize x.desks[i1] = t at hx
   have hDt := Akv hx (by omega) (.own 3 D.draws.length) (a := a)
   have hDs := Akw hx (by omega) (.own 3 D.draws.length) (a := a)
   simp only [Du.a, List.set] at hDt hDs
   refine Bv <| .seq <| .block <| .R ?_
   refine VW.M1 (cj2 hDt hDs) (Lb t (hb.desk t (Ac hx))) ?_
   refine Cl ?_
   rw [if_pos (by omega)]
   refine ⟨by omega, [0, 1, 2, 3], Ds (by decide) ?_ ?_, by simp⟩
   ·simp [go_sem, Dt ((i1 : Int) + 1)]
   simp [go_sem, hDt, hDs, F6, Abs]
  refine B5 <| .S (fun K kk => by simp [go_sem, F6, Gj, E4, E8]; refine .lo (Uc _ (by simpa using hb.sigs)) rfl (by simp) ?_; simp [go_sem, F6, Gj, E4, E8]; exact kk) <| .seq ?_
  refine Ce (fun K kk => by simp [go_sem, F6, Gj, E4, E8]; exact kk) <| .block ?_
  refine Cc x.sigs.length (fun i2 => ⟨[(1, .ptr 0 0), (2, .ptr 1 0), (33, .li x.sigs.length), (34, .li i2)], [.box 37 [.imm false 3 (Wr x.cfg.juns), .imm false 8 (tAg x.cfg.ags), .li x.cfg.per, .li x.cfg.cap, .li x.cfg.hold, .li x.cfg.lock, .lb x.ref, .li x.now, .bsl 2 x.desks.length, .own 4 x.sigs.length, .imm false 3 (On x.svcs), .imm false 1 (tI x.stuck), .imm false 4 (Qf x.views)], .box 37 [.nil 3, .nil 8, .li 0, .li 0, .li 0, .li 0, .lb false, .li 0, .nil 17, .nil 5, .nil 3, .nil 1, .nil 4], .box 70 ((Cd x.desks).set (a * 17 + 15) (.own 3 D.draws.length)), .row 44 1 false false (tYs D.draws), .row 135 5 false false (Nv x.sigs)]⟩) ⟨[0, 1, 2, 3, 4], Ds (by decide) ?_ ?_, by simp⟩ fun i2 hi2 => ?_
  ·simp [go_sem, F6, Gj, E4, E8]
  ·simp [go_sem, F6, Gj, E4, E8]
  refine Ce (fun K kk => by simp [go_sem, F6, Gj, E4, E8]; exact kk) <| .seq ?_
  refine VW.cond (by simp [go_sem, F6, Gj, E4, E8]) (by simp [go_sem, F6, Gj, E4, E8]) (fun h35 => ?_) (fun h35 => ?_) <;> simp [go_sem, F6, Gj, E4, E8] at h35
  ·have hx : x.sigs[i2]? = some x.sigs[i2] := Aa h35
   generalize x.sigs[i2] = t at hx
   have hs := Ga (f := Hk.t) hx
   simp only [Hk.t] at hs
   refine Bv <| .seq <| .block <| .S (fun K kk => by simp [go_sem, F6, Gj, E4, E8]; exact kk) ?_
   refine VW.M1 (cj2 hx hs) (Ol t (hb.sig t (Ac hx)).1 (hb.sig t (Ac hx)).2) ?_
   refine VW.S1 (fun K kk => by simp [go_sem, F6, Gj, E4, E8]; exact kk) ?_
   refine ⟨by omega, [0, 1, 2, 3, 4], Ds (by decide) ?_ ?_, by simp⟩
   ·simp [go_sem, Dt ((i2 : Int) + 1)]
   simp [go_sem, F6, Gj, E4, E8]
  refine B5 <| .S (fun K kk => by simp [go_sem, F6, Gj, E4, E8]; refine .lo (S9 _ (by simpa using hb.svcs)) rfl (by simp) ?_; simp [go_sem, F6, Gj, E4, E8]; exact kk) <| .seq ?_
  refine Ce (fun K kk => by simp [go_sem, F6, Gj, E4, E8]; exact kk) <| .block ?_
  refine Cc x.svcs.length (fun i3 => ⟨[(1, .ptr 0 0), (2, .ptr 1 0), (54, .li x.svcs.length), (55, .li i3)], [.box 37 [.imm false 3 (Wr x.cfg.juns), .imm false 8 (tAg x.cfg.ags), .li x.cfg.per, .li x.cfg.cap, .li x.cfg.hold, .li x.cfg.lock, .lb x.ref, .li x.now, .bsl 2 x.desks.length, .own 4 x.sigs.length, .own 5 x.svcs.length, .imm false 1 (tI x.stuck), .imm false 4 (Qf x.views)], .box 37 [.nil 3, .nil 8, .li 0, .li 0, .li 0, .li 0, .lb false, .li 0, .nil 17, .nil 5, .nil 3, .nil 1, .nil 4], .box 70 ((Cd x.desks).set (a * 17 + 15) (.own 3 D.draws.length)), .row 44 1 false false (tYs D.draws), .row 135 5 false false (Nv x.sigs), .row 138 3 false false (On x.svcs)]⟩) ⟨[0, 1, 2, 3, 4, 5], Ds (by decide) ?_ ?_, by simp⟩ fun i3 hi3 => ?_
  ·simp [go_sem, F6, Gj, E4, E8]
  ·simp [go_sem, F6, Gj, E4, E8]
  refine Ce (fun K kk => by simp [go_sem, F6, Gj, E4, E8]; exact kk) <| .seq ?_
  refine VW.cond (by simp [go_sem, F6, Gj, E4, E8]) (by simp [go_sem, F6, Gj, E4, E8]) (fun h56 => ?_) (fun h56 => ?_) <;> simp [go_sem, F6, Gj, E4, E8] at h56
  ·have hx : x.svcs[i3]? = some x.svcs[i3] := Aa h56
   generalize x.svcs[i3] = t at hx
   have hs := Ga (f := Fj.t) hx
   simp only [Fj.t] at hs
   refine Bv <| .seq <| .block <| .S (fun K kk => by simp [go_sem, F6, Gj, E4, E8]; exact kk) ?_
   refine VW.M1 (cj2 hx hs) (Ka t (hb.svc t (Ac hx))) ?_
   refine VW.S1 (fun K kk => by simp [go_sem, F6, Gj, E4, E8]; exact kk) ?_
   refine ⟨by omega, [0, 1, 2, 3, 4, 5], Ds (by decide) ?_ ?_, by simp⟩
   ·simp [go_sem, Dt ((i3 : Int) + 1)]
   simp [go_sem, F6, Gj, E4, E8]
  refine B5 <| .S (fun K kk => by simp [go_sem, F6, Gj, E4, E8]; refine .lo (Gy _ (by simpa using hb.stuck) (by simp [T.plain])) rfl (by simp) ?_; simp [go_sem, F6, Gj, E4, E8]; exact kk) ?_
  refine Ce (fun K kk => by simp [go_sem, F6, Gj, E4, E8]; refine .l (T9 x.views hb.views hb.view) ?_; simp [go_sem, F6, Gj, E4, E8]; exact kk) ?_
  refine Ce (fun K kk => by simp [go_sem, F6, Gj, E4, E8]; exact kk) ?_
  refine Ch 4 (by simp [go_sem, Fp]) ?_
  simp [go_sem, E8]
  refine Ch 5 (by simp [go_sem, Fp]) ?_
  simp [go_sem, E8]
  refine Ch 6 (by simp [go_sem, Fp]) ?_
  simp [go_sem, E8]
  refine VW.ret (Ry [2, 3] (by simp [go_sem, F6, Gj, E4, E8]) (by decide) (by simp) (by simp [go_sem, F6, Gj, E4, E8]) ?_)
  repeat' (first | exact .nil | refine .cons (by simp [go_sem, F6, Gj, E4, E8]) ?_)
 -- not yet
 rw [if_neg hai]
 refine Bw <| .seq ?_
 refine B7 ?_ ?_ <;> intro h14
 ·
  by_cases hia : i1 = a
  ·subst hia
   have hx := hD
   have hDt := Ah8 hx
   have hDs := Ady hx (.own 3 D.draws.length)
   simp only [Du.a, List.set] at hDt hDs
   refine Bv <| .seq <| .block <| .R ?_
   refine VW.M1 (cj2 hDt hDs) (Aay D (hb.desk D (Ac hx))) ?_
   refine Cl ?_
   rw [if_pos (by omega)]
   refine ⟨by omega, [0, 1, 2, 3], Ds (by decide) ?_ ?_, by simp⟩
   ·simp [go_sem, Dt ((i1 : Int) + 1)]
   simp [go_sem, hDt, hDs, F6, Abs]
  ·
   have hx : x.desks[i1]? = some x.desks[i1] := Aa h14
   generalize x.desks[i1] = t at hx
   have hDt := Ah8 hx
   have hDs := Atp hx
   simp only [Du.a, List.set] at hDt hDs
   refine Bv <| .seq <| .block <| .R ?_
   refine VW.M1 (cj2 hDt hDs) (Lb t (hb.desk t (Ac hx))) ?_
   refine Cl ?_
   rw [if_neg (by omega)]
   refine ⟨by omega, [0, 1, 2], Ds (by decide) ?_ ?_, by simp⟩
   ·simp [go_sem, Dt ((i1 : Int) + 1)]
   simp [go_sem, hDt, hDs, F6, Abs]
 -- none
 omega
theorem Awc {c : Fe} {k : Nat} {D : Du} (hD : c.desks[k]? = some D) {n : List (List Int)} : U2 c { c with desks := c.desks.set k { D with draws := n } } := ⟨rfl, fun j x h => by
 by_cases e : j = k
 ·subst e
  rw [hD] at h
  injection h with h
  subst h
  exact ⟨n, Bg (Ab.1 hD).1⟩
 exact ⟨x.draws, by show (c.desks.set k _)[j]? = _; rw [A9 (Ne.symm e)]; exact h⟩⟩
theorem Awd {c : Fe} (hc : Jp c) {k : Nat} {D : Du} (hD : c.desks[k]? = some D) {n : List Int} (h8 : D.draws.length < 8) (hn : n.length = 8) : Jp { c with desks := c.desks.set k { D with draws := D.draws ++ [n] } } := by
 have hm := hc.desk D (Ac hD)
 have hd : ∀ d ∈ c.desks.set k { D with draws := D.draws ++ [n] }, F4 d /\ 1 <= d.aud.length /\ d.aud.length <= 2 := fun d hd => by
  rcases Bi hd with h | rfl
  ·exact hc.desk d h
  exact ⟨⟨⟨hm.1.b.reg, hm.1.b.reqs, hm.1.b.legs, by simp; omega, fun s hs => by
   rcases A0.1 hs with h | h
   ·exact hm.1.b.draw s h
   ·rw [An.1 h]; omega, hm.1.b.aud⟩, hm.1.vehs, hm.1.reqs, fun s hs => by
   rcases A0.1 hs with h | h
   ·exact hm.1.dr s h
   rw [An.1 h]; omega, hm.1.rq⟩, hm.2⟩
 exact ⟨hc.ref, hc.jun, hc.nj, hc.na, by simpa using hc.desks, hd, hc.sigs, hc.sig, hc.svcs, hc.svc, hc.stuck, hc.views, hc.view, hc.vw, fun j d a h ha => by
  have h : (c.desks.set k { D with draws := D.draws ++ [n] })[j]? = some d := h
  by_cases e : j = k
  ·subst e
   rw [Bg (Ab.1 hD).1] at h
   injection h with h
   rw [<- h]
   exact hc.dl j D a hD ha
  rw [A9 (Ne.symm e)] at h
  exact hc.dl j d a h ha⟩
theorem Awn (l : List Du) {k : Nat} (hk : k < l.length) (v : AV) : ((Cd l).set (k * 17 + 15) v)[k * 17 + 15]? = some v := Bg (by rw [P2]; omega)
theorem Amw {l : List Du} {k : Nat} {D : Du} (h : l[k]? = some D) (X : List (List Int)) : ttL ((Cd l).set (k * 17 + 15) (.imm false 1 (tYs X))) = some (Io (l.set k { D with draws := X })).flatten := by rw [<- Auv h, Atw]
theorem Ale (l : List Du) : ∀ e ∈ Io l, e.length = 17 := fun e he => by
 obtain ⟨d, _, rfl⟩ := A4.1 he
 rfl
theorem Anw {l : List Du} {k : Nat} {D : Du} (h : l[k]? = some D) : l.set k { D with draws := D.draws } = l := by
 apply List.ext_getElem?
 intro i
 rw [List.getElem?_set]
 split
 ·next e => subst e; rw [h, if_pos (Ab.1 h).1]
 rfl
theorem Aiz {l : List Du} {k : Nat} {D : Du} (h : l[k]? = some D) : ttL ((Cd l).set (k * 17 + 15) (.imm false 1 (tYs D.draws))) = some (Io l).flatten := by rw [Amw h, Anw h]
theorem Apk {l : List Du} {k : Nat} {D : Du} (h : l[k]? = some D) (n : List Int) : ttL ((Cd l).set (k * 17 + 15) (.imm false 1 (tYs D.draws ++ [[T.sl 1 (tY n)]]))) = some (Io (l.set k { D with draws := D.draws ++ [n] })).flatten := by
 rw [<- Amw h, show tYs (D.draws ++ [n]) = tYs D.draws ++ [[T.sl 1 (tY n)]] from by simp]
theorem Ad5 (c : Fe) (a : Int) (n : List Int) (hc : Jp c) (hn : n.length <= 1000000) : ∃ res, PP 42 [] [c.g, .li a, .imm false 1 (tY n)] [] res /\ IsD (fun d : Fe => d.g) (fun d => Jp d /\ d.cfg = c.cfg /\ U2 c d) res := by
 refine Ek Tryz.func42 ?_
 have hr := hc.ref
 have hds := hc.desks
 have hna := hc.na
 refine Bq ?_
 by_cases hk : 0 <= a /\ a < c.desks.length
 ·obtain ⟨k, rfl⟩ : ∃ k : Nat, a = k := ⟨a.toNat, by omega⟩
  have hkl : k < c.desks.length := by omega
  have hD : c.desks[k]? = some c.desks[k] := Aa hkl
  generalize c.desks[k] = D at hD
  have hlt : ¬ ((k : Int) < 0) := by omega
  have hge : ¬ ((c.desks.length : Int) <= (k : Int)) := by omega
  have hin : k * 17 + 15 < (Cd c.desks).length := by rw [P2]; omega
  have hcl := P2 c.desks
  refine B3 (fun K kk => by simp [go_sem]; refine .l (Aaz c hc.b k D hD) ?_; simp [go_sem, E4]; exact kk) <| .seq ?_
  refine Bu (cj3 hr hlt hge) ?_
  refine Br ?_ ?_ <;> intro h27
  ·
   refine Bq ?_
   refine Dg 3 ?_
   simp [go_sem, E8]
   refine C6 2 17 (Io c.desks) rfl (Aiz hD) (Ale _) (by simp) ?_
   simp [go_sem]
   refine Bz (Ex ?_); simp [go_sem]
   exact ⟨c, by simp [go_sem, hr], hc, rfl, .refl _⟩
  -- a nonce
  refine Bp <| .H ok0 <| .seq ?_
  have hat := Awn c.desks hkl (.own 3 D.draws.length)
  refine Bu hat ?_
  refine Br ?_ ?_ <;> intro h38
  ·
   refine De (fun K kk => by simp [go_sem, hat]; (repeat refine aK ?_); refine .lo (Ei.froz (Ee _ (by simpa using hn) (by simp [T.plain]))) rfl (by simp) ?_; simp [go_sem, hat]; (repeat first | exact kk | refine aK ?_)) ?_
   refine Bq ?_
   refine Dg 3 ?_
   simp [go_sem, E8]
   refine C6 2 17 (Io (c.desks.set k { D with draws := (D.draws ++ [n]) })) rfl (Apk hD n) (Ale _) (by simp) ?_
   simp [go_sem]
   refine Bz (Ex ?_); simp [go_sem]
   exact ⟨{ c with desks := c.desks.set k { D with draws := D.draws ++ [n] } }, by simp [go_sem, hr], Awd hc hD (by omega) (by omega), rfl, Awc hD⟩
  -- none
  refine Bp <| .R ?_
  refine Dg 3 ?_
  simp [go_sem, E8]
  refine C6 2 17 (Io c.desks) rfl (Aiz hD) (Ale _) (by simp) ?_
  simp [go_sem]
  refine Bz (Ex ?_); simp [go_sem]
  exact ⟨c, by simp [go_sem, hr], hc, rfl, .refl _⟩
 -- no such desk
 have hk2 : a < 0 \/ (c.desks.length : Int) <= a := by omega
 refine B8 ok0 (No c hc.b) <| .seq ?_
 refine Bu hr ?_
 refine Br ?_ ?_ <;> intro h27
 ·
  refine Bq ?_
  refine B2 ok0 2 ?_
  refine B2 ok0 3 ?_
  refine B2 ok0 4 ?_
  refine B2 ok0 5 ?_
  refine Bz (Ex ?_); simp [go_sem]
  exact ⟨c, by simp [go_sem, hr], hc, rfl, .refl _⟩
 -- not so
 exfalso
 omega
theorem Agd (c : Fe) (a : Int) (n : List Int) (hc : Jp c) (hn : n.length <= 1000000) : ∃ d : Fe, PP 42 [] [c.g, .li a, .imm false 1 (tY n)] [] (d.g) /\ (Jp d /\ d.cfg = c.cfg /\ U2 c d) := got (Ad5 c a n hc hn)
def EvQ (e : TEv) : Prop := e.bytes.length <= 1000000 /\ By e.bytes
noncomputable def Ui (s : E6) (e : TEv) : E6 := by
 classical
 exact if h : Aml s /\ e.bytes.length <= 1000000 then (if e.kind = 1 then Iq s h.1.1 else if e.kind = 2 then Lv s else if e.kind = 3 then Lu s e.bytes h.1.1 h.2 else s) else s
noncomputable def Th (l : List E6) (e : TEv) : List E6 := if 0 <= e.se then (match l[e.se.toNat]? with | some s => l.set e.se.toNat (Ui s e) | none => l) else l
theorem Akc {l : List E6} {e : TEv} {s : E6} (h0 : 0 <= e.se) (hs : l[e.se.toNat]? = some s) : Th l e = l.set e.se.toNat (Ui s e) := by simp [Th, h0, hs]
theorem Zj {l : List E6} {e : TEv} (h : ¬ (0 <= e.se /\ e.se < l.length)) : Th l e = l := by
 unfold Th
 split
 ·rw [Ar (by omega)]
 rfl
theorem Ap0 {s : E6} {e : TEv} (hs : Aml s) (he : e.bytes.length <= 1000000) (hk : e.kind = 1) : Ui s e = Iq s hs.1 := by simp [Ui, hs, he, hk]
theorem At4 {s : E6} {e : TEv} (hs : Aml s) (he : e.bytes.length <= 1000000) (hk : e.kind = 2) : Ui s e = Lv s := by simp [Ui, hs, he, hk]
theorem At3 {s : E6} {e : TEv} (hs : Aml s) (he : e.bytes.length <= 1000000) (hk : e.kind = 3) : Ui s e = Lu s e.bytes hs.1 he := by simp [Ui, hs, he, hk]
theorem Apw {l : List E6} {i : Nat} {s : E6} (hs : l[i]? = some s) : l.set i s = l := by
 have := (Ab.1 hs)
 obtain ⟨h, rfl⟩ := this
 exact List.set_getElem_self h
theorem Are {l : List E6} {e : TEv} (h1 : e.kind ≠ 1) (h2 : e.kind ≠ 2) (h3 : e.kind ≠ 3) : Th l e = l := by
 unfold Th
 split
 ·split
  ·rename_i s hs
   have : Ui s e = s := by simp [Ui, h1, h2, h3]
   rw [this]
   exact Apw hs
  rfl
 rfl
theorem Jp.stuckd {c d : Fe} (h : Jp c) (q : d.cfg = c.cfg /\ d.ref = c.ref /\ d.now = c.now /\ d.desks = c.desks /\ d.sigs = c.sigs /\ d.svcs = c.svcs /\ d.views = c.views /\ d.stuck.length = c.stuck.length) : Jp d := by
 obtain ⟨q1, q2, q3, q4, q5, q6, q7, q8⟩ := q
 exact ⟨by rw [q2]; exact h.ref, by rw [q1]; exact h.jun, by rw [q1]; exact h.nj, by rw [q1]; exact h.na, by rw [q4, q1]; exact h.desks, by rw [q4]; exact h.desk, by rw [q5, q1]; exact h.sigs, by rw [q5]; exact h.sig, by rw [q6, q1]; exact h.svcs, by rw [q6]; exact h.svc, by rw [q8, q1]; exact h.stuck, by rw [q7, q1]; exact h.views, by rw [q7]; exact h.view, by rw [q7, q1]; exact h.vw, by rw [q4, q1]; exact h.dl⟩
structure DoQ (b : I7) (e : TEv) (d : I7 × Oz × Bool) : Prop where
  i : Tn d.1
  cfg : d.1.city.cfg = b.city.cfg
  len : d.1.sess.length = b.sess.length
  few : e.kind <= 3 -> d = (⟨b.city, Th b.sess e⟩, ⟨[], []⟩, false)
  tick : e.kind = 6 -> d.2.2 = true /\ (d.2.1.ses.length : Int) = En b.city.cfg.ags b.city.cfg.ags.length /\ d.1.city.now = IntKind.i64.wrap ((if 1073741823 < b.city.now then 1073741823 else b.city.now) + 1) /\ Awe b (d.1, d.2.1)
  none : e.kind ≠ 6 -> d.2.2 = false
  keep : 3 < e.kind -> e.kind ≠ 6 -> d.1.sess = b.sess /\ U2 b.city d.1.city
theorem DoQ.ses {b : I7} {e : TEv} (hb : Tn b) {s x : E6} (h0 : 0 <= e.se) (hs : b.sess[e.se.toNat]? = some s) (hx : Aml x) (h : Ui s e = x) (hk : e.kind <= 3) : DoQ b e (⟨b.city, b.sess.set e.se.toNat x⟩, ⟨[], []⟩, false) :=
 ⟨⟨hb.city, by simpa using hb.n, Uz hb.ses hx⟩, rfl, by simp, fun _ => by rw [Akc h0 hs, h], fun h => by omega, fun _ => rfl, fun h => by omega⟩
theorem DoQ.no {b : I7} {e : TEv} (hb : Tn b) (h : Th b.sess e = b.sess \/ 3 < e.kind) (hk : e.kind ≠ 6) : DoQ b e (b, ⟨[], []⟩, false) :=
 ⟨hb, rfl, rfl, fun h3 => (by rcases h with h | h <;> first | (rw [h]; done) | omega), fun h => absurd h hk, fun _ => rfl, fun _ _ => ⟨rfl, U2.refl _⟩⟩
theorem DoQ.city {b : I7} {e : TEv} (hb : Tn b) {c : Fe} (hc : Jp c) (h : c.cfg = b.city.cfg) (hK : U2 b.city c) (h3 : 3 < e.kind) (hk : e.kind ≠ 6) : DoQ b e (⟨c, b.sess⟩, ⟨[], []⟩, false) :=
 ⟨⟨hc, hb.n, hb.ses⟩, h, rfl, fun h => by omega, fun h => absurd h hk, fun _ => rfl, fun _ _ => ⟨rfl, hK⟩⟩
theorem T1 (b : I7) (e : TEv) (hb : Tn b) (he : EvQ e) : Ct 14 [b.g, e.g] (fun d : I7 × Oz × Bool => .tup [d.1.g, d.2.1.g, .lb d.2.2]) (fun d => DoQ b e d) := by
 refine Ek Tryz.func14 ?_
 have hbn := hb.n
 have heb := he.1
 refine Bq ?_
 refine B8 ok0 (Aa0 b hb.b) ?_
 refine Bq <| .seq ?_
 refine B2 ok0 4 ?_
 refine B2 ok0 5 ?_
 refine B2 ok0 6 ?_
 refine B2 ok0 7 ?_
 refine Bq <| .block ?_
 refine Bq ?_
 refine Br ?_ ?_ <;> intro h25
 ·refine Bq ?_
  refine Br ?_ ?_ <;> intro h27
  ·have hex := h27
   obtain ⟨sk, hsk⟩ : ∃ u, b.sess[e.se.toNat]? = some u := ⟨_, Aa (by omega)⟩
   have hsq := hb.ses sk (Ac hsk)
   have hv := Aiu sk hsq.1
   have hq := Z3 sk hsq.1
   refine Co hsk (hv) ?_
   refine Bq ?_
   refine B2 ok0 8 ?_
   exact .ret (fin ok0 (⟨b.city, (b.sess).set e.se.toNat (Iq sk hsq.1)⟩, ⟨[], []⟩, false) (DoQ.ses hb hex.1 hsk ⟨hq.1, hq.2.1 hsq.2⟩ (Ap0 hsq heb h25) (by omega)))
  refine Bp <| .R ?_
  refine B2 ok0 8 ?_
  exact .ret (fin ok0 (⟨b.city, b.sess⟩, ⟨[], []⟩, false) (DoQ.no hb (.inl (Zj (by omega))) (by omega)))
 refine Bq ?_
 refine Br ?_ ?_ <;> intro h40
 ·refine Bq ?_
  refine Br ?_ ?_ <;> intro h42
  ·have hex := h42
   obtain ⟨sk, hsk⟩ : ∃ u, b.sess[e.se.toNat]? = some u := ⟨_, Aa (by omega)⟩
   have hsq := hb.ses sk (Ac hsk)
   have hv := Aiv sk
   have hq := Ajo sk
   refine Co hsk (hv) ?_
   refine Bq ?_
   refine B2 ok0 8 ?_
   exact .ret (fin ok0 (⟨b.city, (b.sess).set e.se.toNat (Lv sk)⟩, ⟨[], []⟩, false) (DoQ.ses hb hex.1 hsk hq (At4 hsq heb h40) (by omega)))
  refine Bp <| .R ?_
  refine B2 ok0 8 ?_
  exact .ret (fin ok0 (⟨b.city, b.sess⟩, ⟨[], []⟩, false) (DoQ.no hb (.inl (Zj (by omega))) (by omega)))
 refine Bq ?_
 refine Br ?_ ?_ <;> intro h55
 ·refine Bq ?_
  refine Br ?_ ?_ <;> intro h57
  ·have hex := h57
   obtain ⟨sk, hsk⟩ : ∃ u, b.sess[e.se.toNat]? = some u := ⟨_, Aa (by omega)⟩
   have hsq := hb.ses sk (Ac hsk)
   have hv := Ait sk e.bytes hsq.1 heb
   have hq := Ajn sk e.bytes hsq.1 heb
   refine Co hsk (hv) ?_
   refine Bq ?_
   refine B2 ok0 8 ?_
   exact .ret (fin ok0 (⟨b.city, (b.sess).set e.se.toNat (Lu sk e.bytes hsq.1 heb)⟩, ⟨[], []⟩, false) (DoQ.ses hb hex.1 hsk ⟨hq.1, hq.2 hsq.2 he.2⟩ (At3 hsq heb h55) (by omega)))
  refine Bp <| .R ?_
  refine B2 ok0 8 ?_
  exact .ret (fin ok0 (⟨b.city, b.sess⟩, ⟨[], []⟩, false) (DoQ.no hb (.inl (Zj (by omega))) (by omega)))
 refine Bq ?_
 refine Br ?_ ?_ <;> intro h72
 ·obtain ⟨Y1, cY1, qY1⟩ := Agd b.city e.x e.bytes hb.city heb
  have hv := cY1
  have hq := qY1
  generalize Y1 = G at hv hq
  refine Do ok0 (hv) ?_
  refine Bq ?_
  refine B2 ok0 8 ?_
  exact .ret (fin ok0 (⟨G, b.sess⟩, ⟨[], []⟩, false) (DoQ.city hb hq.1 hq.2.1 hq.2.2 (by omega) (by omega)))
 refine Bq ?_
 refine Br ?_ ?_ <;> intro h82
 ·obtain ⟨Y2, cY2, qY2⟩ := got (Ad4 b.city e.x e.y hb.city.b (hb.city.stuck))
  have hv := cY2
  have hq := qY2
  generalize Y2 = G at hv hq
  refine Do ok0 (hv) ?_
  refine Bq ?_
  refine B2 ok0 8 ?_
  exact .ret (fin ok0 (⟨G, b.sess⟩, ⟨[], []⟩, false) (DoQ.city hb (hb.city.stuckd hq) hq.1 (U2.same hq.2.2.1 hq.2.2.2.1) (by omega) (by omega)))
 refine Bq ?_
 refine Br ?_ ?_ <;> intro h92
 ·obtain ⟨Y3, cY3, qY3⟩ := Aaf b hb
  have hv := cY3
  have hq := qY3
  generalize Y3 = G at hv hq
  refine B3 (fun K kk => by simp [go_sem]; refine .o [8] (hv) ?_; simp [go_sem]; exact kk) ?_
  refine VX.D ?_
  exact .ret (fin ok0 (G.1, G.2, true) ⟨hq.1, hq.2.1, hq.2.2.1, fun h => by omega, fun _ => ⟨rfl, hq.2.2.2⟩, fun h => absurd h92 h, fun _ h => absurd h92 h⟩)
 refine Bp <| .R ?_
 refine B2 ok0 8 ?_
 exact .ret (fin ok0 (⟨b.city, b.sess⟩, ⟨[], []⟩, false) (DoQ.no hb (.inl (Are (by omega) (by omega) (by omega))) (by omega)))
noncomputable def J5 (b : I7) (e : TEv) (hb : Tn b) (he : EvQ e) : I7 × Oz × Bool := (got (T1 b e hb he)).choose
theorem Aiy (b : I7) (e : TEv) (hb : Tn b) (he : EvQ e) : PP 14 [] [b.g, e.g] [] (.tup [.agg ((J5 b e hb he).1.a false), .agg ((J5 b e hb he).2.1.a false), .lit (.bool (J5 b e hb he).2.2)]) := (got (T1 b e hb he)).choose_spec.1
theorem Lw (b : I7) (e : TEv) (hb : Tn b) (he : EvQ e) : DoQ b e (J5 b e hb he) := (got (T1 b e hb he)).choose_spec.2
noncomputable def doF (b : I7) (e : TEv) : I7 × Oz × Bool := by
 classical
 exact if h : Tn b /\ EvQ e then J5 b e h.1 h.2 else (b, ⟨[], []⟩, false)
noncomputable def Oq : I7 -> List TEv -> List Oz
 | _, [] => []
 | b, e :: l => if (doF b e).2.2 then (doF b e).2.1 :: Oq (doF b e).1 l else Oq (doF b e).1 l
theorem Zk {b : I7} {e : TEv} (hb : Tn b) (he : EvQ e) : doF b e = J5 b e hb he := by simp [doF, hb, he]
def bkY (y : List Fr × List TAg × Int × Int × Int × Int × Bool × Int × List Du × List Hk × List Fj × List Int × List Ft × List E6 × List Oz) : I7 := ⟨⟨⟨y.1, y.2.1, y.2.2.1, y.2.2.2.1, y.2.2.2.2.1, y.2.2.2.2.2.1⟩, y.2.2.2.2.2.2.1, y.2.2.2.2.2.2.2.1, y.2.2.2.2.2.2.2.2.1, y.2.2.2.2.2.2.2.2.2.1, y.2.2.2.2.2.2.2.2.2.2.1, y.2.2.2.2.2.2.2.2.2.2.2.1, y.2.2.2.2.2.2.2.2.2.2.2.2.1⟩, y.2.2.2.2.2.2.2.2.2.2.2.2.2.1⟩
theorem An3 {b : I7} {l : List TEv} {i : Nat} {e : TEv} (h : l[i]? = some e) : Oq b (l.drop i) = if (doF b e).2.2 then (doF b e).2.1 :: Oq (doF b e).1 (l.drop (i + 1)) else Oq (doF b e).1 (l.drop (i + 1)) := by
 obtain ⟨hi, rfl⟩ := Ab.1 h
 rw [List.drop_eq_getElem_cons hi, Oq]
theorem Sb (c : Fa) (l : List TEv) (hb : Zn c) (hp : Mt c = true) (hJ : ∀ j ∈ c.juns, Mn j /\ j.phs.length <= 8) (hA : ∀ a ∈ c.ags, a.sec.length <= 1000000 /\ a.lims.length <= 1000000 /\ a.rq <= 3) (hl1 : c.juns.length <= 4) (hl2 : c.ags.length <= 4) (hS : ∀ x ∈ c.ags, 1 <= x.se /\ x.se <= 2) (hl : l.length <= 1000000) (hE : ∀ e ∈ l, EvQ e) : Ct 22 [c.g, .mEv l] (fun d : List Oz => .mOut d) (fun d => d = Oq (Fl c hb hp hJ hA hl1 hl2 hS) (l.take 400)) := by
 refine Ek Tryz.func22 ?_
 have hNv := Agz c hb hp hJ hA hl1 hl2 hS
 have hNq := So c hb hp hJ hA hl1 hl2 hS
 obtain ⟨N, hN⟩ : ∃ N, N = Fl c hb hp hJ hA hl1 hl2 hS := ⟨_, rfl⟩
 rw [<- hN] at hNv hNq
 obtain ⟨lt, hlt⟩ : ∃ lt, lt = l.take (min l.length 400) := ⟨_, rfl⟩
 have hT : List.take (if (400 : Int) < (l.length : Int) then (400 : Int) else (l.length : Int)).toNat (List.map TEv.t l) = List.map TEv.t lt := by rw [hlt, List.map_take]; congr 1; split <;> omega
 have hlm : l.take 400 = l.take (min l.length 400) := by rw [Nat.min_comm, <- List.take_take, List.take_length]
 have hll : lt.length <= 400 := by rw [hlt, A5]; omega
 have hlE : ∀ e ∈ lt, EvQ e := fun e h => hE e (by rw [hlt] at h; exact Aq h)
 refine Bq ?_
 refine B8 ok0 (hNv) ?_
 refine Bq <| .seq ?_
 refine Bu hT <| .block ?_
 refine Cg 6 49 2 (by decide) (k' := 2) (by simp [go_sem]) ?_
 simp [go_sem, -Prod.exists]
 refine Bs (lt.length) (fun i1 (y1 : (List Fr) × (List TAg) × Int × Int × Int × Int × Bool × Int × (List Du) × (List Hk) × (List Fj) × (List Int) × (List Ft) × (List E6) × (List Oz)) => ⟨[(5, .ptr 0 0), (6, .own 1 y1.2.2.2.2.2.2.2.2.2.2.2.2.2.2.length), (18, .mEv lt), (19, .li (lt.length)), (20, .li i1)], [.box 40 [.mJun y1.1, .mAg y1.2.1, .li y1.2.2.1, .li y1.2.2.2.1, .li y1.2.2.2.2.1, .li y1.2.2.2.2.2.1, .lb y1.2.2.2.2.2.2.1, .li y1.2.2.2.2.2.2.2.1, .mDesk y1.2.2.2.2.2.2.2.2.1, .mSig y1.2.2.2.2.2.2.2.2.2.1, .mSvc y1.2.2.2.2.2.2.2.2.2.2.1, .mI y1.2.2.2.2.2.2.2.2.2.2.2.1, .mView y1.2.2.2.2.2.2.2.2.2.2.2.2.1, .imm false 4 (V1 y1.2.2.2.2.2.2.2.2.2.2.2.2.2.1)], .row 49 2 false false (Avy y1.2.2.2.2.2.2.2.2.2.2.2.2.2.2)]⟩) (fun i1 y1 => Tn (bkY y1) /\ y1.2.2.2.2.2.2.2.2.2.2.2.2.2.2 ++ Oq (bkY y1) (lt.drop i1) = Oq N lt /\ y1.2.2.2.2.2.2.2.2.2.2.2.2.2.2.length <= i1) (N.city.cfg.juns, N.city.cfg.ags, N.city.cfg.per, N.city.cfg.cap, N.city.cfg.hold, N.city.cfg.lock, N.city.ref, N.city.now, N.city.desks, N.city.sigs, N.city.svcs, N.city.stuck, N.city.views, N.sess, []) (wk ok0 [1, 2]) (⟨hNq.1, rfl, by simp⟩) fun i1 y1 hi1 hy1 => ?_
 refine Bq <| .seq ?_
 refine Br ?_ ?_ <;> intro h21
 ·refine Bp <| .seq <| .block ?_
  obtain ⟨e1, H1⟩ := gx lt i1
  refine Bu H1 ?_
  have hDv := Aiy (bkY y1) e1 hy1.1 (hlE e1 (Ac H1))
  have hDq := Lw (bkY y1) e1 hy1.1 (hlE e1 (Ac H1))
  have hDf := Zk hy1.1 (hlE e1 (Ac H1))
  have hrd := An3 (b := bkY y1) H1
  rw [hDf] at hrd
  generalize J5 (bkY y1) e1 hy1.1 (hlE e1 (Ac H1)) = D at hDv hDq hrd
  refine B8 H1 (hDv) ?_
  refine Bu H1 ?_
  refine Bu H1 ?_
  refine Br ?_ ?_ <;> intro h32
  ·refine B0 H1 ?_
   refine B0 H1 ?_
   exact ⟨by omega, (D.1.city.cfg.juns, D.1.city.cfg.ags, D.1.city.cfg.per, D.1.city.cfg.cap, D.1.city.cfg.hold, D.1.city.cfg.lock, D.1.city.ref, D.1.city.now, D.1.city.desks, D.1.city.sigs, D.1.city.svcs, D.1.city.stuck, D.1.city.views, D.1.sess, y1.2.2.2.2.2.2.2.2.2.2.2.2.2.2 ++ ([D.2.1])), ⟨hDq.i, by rw [<- hy1.2.1, hrd]; simp [h32]; rfl, by first | (simp; omega) | (have := hy1.2.2; dsimp only; omega)⟩, wk (cj2 (Dt ((i1 : Int) + 1)) H1) [0, 1]⟩
  refine Bp <| .H1 H1 ?_
  exact ⟨by omega, (D.1.city.cfg.juns, D.1.city.cfg.ags, D.1.city.cfg.per, D.1.city.cfg.cap, D.1.city.cfg.hold, D.1.city.cfg.lock, D.1.city.ref, D.1.city.now, D.1.city.desks, D.1.city.sigs, D.1.city.svcs, D.1.city.stuck, D.1.city.views, D.1.sess, y1.2.2.2.2.2.2.2.2.2.2.2.2.2.2), ⟨hDq.i, by rw [<- hy1.2.1, hrd]; simp [h32]; rfl, by first | (simp; omega) | (have := hy1.2.2; dsimp only; omega)⟩, wk (cj2 (Dt ((i1 : Int) + 1)) H1) [0, 1]⟩
 refine Bt <| .R ?_
 refine B2 ok0 1 ?_
 exact .ret (fin ok0 y1.2.2.2.2.2.2.2.2.2.2.2.2.2.2 (by have h := hy1.2.1; rw [List.drop_eq_nil_of_le (by omega)] at h; rw [<- hN, hlm, <- hlt]; simpa [Oq] using h))
noncomputable def Xt (c : Fa) (l : List TEv) (hb : Zn c) (hp : Mt c = true) (hJ : ∀ j ∈ c.juns, Mn j /\ j.phs.length <= 8) (hA : ∀ a ∈ c.ags, a.sec.length <= 1000000 /\ a.lims.length <= 1000000 /\ a.rq <= 3) (hl1 : c.juns.length <= 4) (hl2 : c.ags.length <= 4) (hS : ∀ x ∈ c.ags, 1 <= x.se /\ x.se <= 2) (hl : l.length <= 1000000) (hE : ∀ e ∈ l, EvQ e) : List Oz := (got (Sb c l hb hp hJ hA hl1 hl2 hS hl hE)).choose
theorem Xj (c : Fa) (l : List TEv) (hb : Zn c) (hp : Mt c = true) (hJ : ∀ j ∈ c.juns, Mn j /\ j.phs.length <= 8) (hA : ∀ a ∈ c.ags, a.sec.length <= 1000000 /\ a.lims.length <= 1000000 /\ a.rq <= 3) (hl1 : c.juns.length <= 4) (hl2 : c.ags.length <= 4) (hS : ∀ x ∈ c.ags, 1 <= x.se /\ x.se <= 2) (hl : l.length <= 1000000) (hE : ∀ e ∈ l, EvQ e) : PP 22 [] [c.g, .mEv l] [] (.mOut (Xt c l hb hp hJ hA hl1 hl2 hS hl hE)) := (got (Sb c l hb hp hJ hA hl1 hl2 hS hl hE)).choose_spec.1
theorem Xv (c : Fa) (l : List TEv) (hb : Zn c) (hp : Mt c = true) (hJ : ∀ j ∈ c.juns, Mn j /\ j.phs.length <= 8) (hA : ∀ a ∈ c.ags, a.sec.length <= 1000000 /\ a.lims.length <= 1000000 /\ a.rq <= 3) (hl1 : c.juns.length <= 4) (hl2 : c.ags.length <= 4) (hS : ∀ x ∈ c.ags, 1 <= x.se /\ x.se <= 2) (hl : l.length <= 1000000) (hE : ∀ e ∈ l, EvQ e) : (Xt c l hb hp hJ hA hl1 hl2 hS hl hE) = Oq (Fl c hb hp hJ hA hl1 hl2 hS) (l.take 400) := (got (Sb c l hb hp hJ hA hl1 hl2 hS hl hE)).choose_spec.2
theorem Ah9 {b : List Int} (h : By b) (k : Nat) : By (b.take k) := fun x hx => h x (Aq hx)
theorem Anp {b : List Int} (h : By b) (k : Nat) : By (b.drop k) := fun x hx => h x (Ay hx)
theorem Auw {b : List Int} (h : By b) (k : Nat) (v : Int) : By (b.set k (IntKind.u8.wrap v)) := fun x hx => by
 rcases Bi hx with h1 | h1
 ·exact h x h1
 rw [h1]; exact Qq v _ List.mem_cons_self
theorem At1 {α : Type} (b : List α) (K : Nat) (h : K < b.length) : (Jt b K ((b.drop (K + 1)).take (b.length - (K + 1)))).take (K + (b.length - (K + 1))) = b.take K ++ b.drop (K + 1) := by
 refine List.ext_getElem? fun i => ?_
 by_cases hi : i < K + (b.length - (K + 1))
 ·rw [Ag hi, I1]
  by_cases h1 : i < K
  ·rw [if_neg (by omega), Au (by simp; omega), Ag h1]
  rw [if_pos (by simp; omega), Ao (by simp; omega)]
  rw [Ag (by omega)]
  congr 1
  simp
  omega
 rw [List.getElem?_take_eq_none (by omega), Ar (by simp; omega)]
theorem Ij (b : List Int) (ix : Int) (bv : Int) (hl : b.length <= 1000) : Ct 37 [.mY b, .li ix, .li bv] (fun d : List Int => .mY d) (fun d => d.length <= 1001 /\ (By b -> By d)) := by
 refine Ek Tryz.func37 ?_
 refine Bq ?_
 refine Bu ok0 <| .seq ?_
 refine Bq ?_
 refine Br ?_ ?_ <;> intro h13
 ·refine Bq ?_
  refine B2 ok0 1 ?_
  exact .ret (fin ok0 ([IntKind.u8.wrap bv]) (by first | exact ⟨by simp, fun _ => Qq _⟩ | trivial))
 refine Bp ?_
 have hbp : 1 <= b.length := by have := List.length_pos_iff.2 h13; omega
 obtain ⟨Y1, cY1, qY1⟩ := got (Ht ix b.length (by omega) (by omega))
 have hMv := cY1
 have hMq := qY1
 obtain ⟨K, hK⟩ : ∃ K : Nat, Y1 = (K : Int) := ⟨_, (Int.toNat_of_nonneg hMq.1).symm⟩
 rw [hK] at hMv hMq
 have hwk := Dt ((K : Int) + 1)
 obtain ⟨e0, he0⟩ : ∃ e, b[K]? = some e := ⟨_, Aa (by omega)⟩
 refine B8 ok0 (hMv) <| .seq ?_
 refine B3 (fun K kk => by simp [go_sem]; (repeat refine aK ?_); refine .lo (Jf _ 4 (by omega) (by omega)) rfl (by simp [AV.cln, Ez]) ?_; simp [go_sem]; exact kk) <| .block ?_
 refine Bq ?_
 refine Br ?_ ?_ <;> intro h27
 ·obtain ⟨e1, H1⟩ := gx b ((K : Int).toNat)
  refine B0 (cj2 H1 he0) ?_
  refine Bu H1 ?_
  refine B2 he0 0 ?_
  refine Bz (Ex ?_); simp [go_sem, he0]
  exact ⟨b.set K (IntKind.u8.wrap bv), by simp [go_sem, he0, List.map_set], by simp; omega, fun h => Auw h _ _⟩
 refine Bq ?_
 refine Br ?_ ?_ <;> intro h34
 ·refine C8 hwk ?_
  refine B2 ok0 0 ?_
  refine Bz (Ex ?_); simp [go_sem]
  rw [if_pos (by rw [Fb]; simp)]
  refine ⟨b.take K ++ b.drop (K + 1), ?_, by simp; omega, fun h => (Ah9 h _).app (Anp h _)⟩
  have hsp := At1 (tY b) K (by simp; omega)
  simp only [A2] at hsp
  rw [hsp]
  simp [go_sem, List.map_take, List.map_drop]
 refine Bq ?_
 refine Br ?_ ?_ <;> intro h44
 ·refine C8 hwk ?_
  refine B2 ok0 1 ?_
  refine Bz (Ex ?_); simp [go_sem]
  rw [if_pos (by omega)]
  refine ⟨b.take K ++ [IntKind.u8.wrap bv] ++ b.drop K, ?_, by simp; omega, fun h => ((Ah9 h _).app (Qq _)).app (Anp h _)⟩
  have e1 : List.take (b.length - K) (List.drop K (tY b)) = List.drop K (tY b) := Bf (by simp)
  rw [e1]
  simp [go_sem, List.map_take, List.map_drop]
 refine B2 ok0 0 ?_
 refine Bu ok0 ?_
 refine Bz (Ex ?_); simp [go_sem]
 exact ⟨b.take K, by simp [go_sem, List.map_take], by simp; omega, fun h => Ah9 h _⟩
noncomputable def Ge (b : List Int) (ix : Int) (bv : Int) (hl : b.length <= 1000) : List Int := (got (Ij b ix bv hl)).choose
theorem Kq (b : List Int) (ix : Int) (bv : Int) (hl : b.length <= 1000) : PP 37 [] [.mY b, .li ix, .li bv] [] (.mY (Ge b ix bv hl)) := (got (Ij b ix bv hl)).choose_spec.1
theorem Kr (b : List Int) (ix : Int) (bv : Int) (hl : b.length <= 1000) : (Ge b ix bv hl).length <= 1001 /\ (By b -> By (Ge b ix bv hl)) := (got (Ij b ix bv hl)).choose_spec.2
def U9 : List (List (Int × Int)) := [[(0, 0), (0, 0)], [(0, 0), (1, 0), (0, 1), (1, 1)], [(0, 0), (1, 0), (0, 0)], [(0, 0), (0, 0), (1, 0), (1, 0), (0, 1), (0, 1), (1, 1), (1, 1)], [(1, 0), (0, 1), (0, 2)], [(0, 0)]]
theorem Ri (n : Int) : Ct 52 [.li n] (fun d : List (Int × Int) => .imm false 2 (Acg d)) (fun d => d ∈ U9) := by
 refine Ek Tryz.func52 ?_
 refine Bq <| .seq ?_
 refine Bq <| .block ?_
 refine Bq ?_
 refine Br ?_ ?_ <;> intro h4
 ·refine Bq ?_
  refine B2 ok0 0 ?_
  exact .ret (fin ok0 ([(0, 0), (0, 0)]) (by decide))
 refine Bq ?_
 refine Br ?_ ?_ <;> intro h9
 ·refine Bq ?_
  refine B2 ok0 0 ?_
  exact .ret (fin ok0 ([(0, 0), (1, 0), (0, 1), (1, 1)]) (by decide))
 refine Bq ?_
 refine Br ?_ ?_ <;> intro h16
 ·refine Bq ?_
  refine B2 ok0 0 ?_
  exact .ret (fin ok0 ([(0, 0), (1, 0), (0, 0)]) (by decide))
 refine Bq ?_
 refine Br ?_ ?_ <;> intro h22
 ·refine Bq ?_
  refine B2 ok0 0 ?_
  exact .ret (fin ok0 ([(0, 0), (0, 0), (1, 0), (1, 0), (0, 1), (0, 1), (1, 1), (1, 1)]) (by decide))
 refine Bq ?_
 refine Br ?_ ?_ <;> intro h33
 ·refine Bq ?_
  refine B2 ok0 0 ?_
  exact .ret (fin ok0 ([(1, 0), (0, 1), (0, 2)]) (by decide))
 refine Bp <| .R ?_
 refine B2 ok0 0 ?_
 exact .ret (fin ok0 ([(0, 0)]) (by decide))
theorem Am4 {l : List (Int × Int)} (h : l ∈ U9) : 1 <= l.length /\ l.length <= 8 := by
 revert l; decide
def Apt (l : List (Int × Int)) (x : Bool) (i k : Nat) : Bool := i != k && ((l.getD i (0, 0)).1 == (l.getD k (0, 0)).1 || (l.getD i (0, 0)).2 != (l.getD k (0, 0)).2 || x && (i + k) % 2 == 1)
def Ug (l : List (Int × Int)) (x : Bool) (i : Nat) : Nat -> Int
 | 0 => 0
 | k + 1 => Ug l x i k + if Apt l x i k then 2 ^ k else 0
def V9 (l : List (Int × Int)) (ps : List Fk) : Prop := ∀ (i : Nat) (p : Fk), ps[i]? = some p -> ∃ s, l[i]? = some s /\ p.ring = s.1 /\ p.grp = s.2 /\ (1 <= p.mi /\ p.mi <= 3) /\ (1 <= p.ye /\ p.ye <= 2) /\ (0 <= p.re /\ p.re <= 2) /\ ((p.wa = 0 /\ p.cl = 0) \/ (1 <= p.wa /\ p.wa <= 2 /\ 1 <= p.cl /\ p.cl <= 2)) /\ p.mi <= p.ma /\ p.wa + p.cl <= p.ma /\ p.ma <= 7
def Ao8 (j : Fr) : Prop := ∃ s, s ∈ U9 /\ ∃ x : Bool, V9 s j.phs /\ j.phs.length = s.length /\ j.con = ((List.range s.length).map fun t => Ug s x t s.length) /\ 0 <= j.start /\ j.start <= 2
theorem Afe {S : List (Int × Int)} {i k : Nat} {s t : Int × Int} {x : Int} (hs : S[i]? = some s) (ht : S[k]? = some t) (hi : i < 8) (hk : k < 8) : Apt S (x == 3) i k = true <-> (¬ (i : Int) = (k : Int) /\ ((s.1 = t.1 \/ ¬ s.2 = t.2) \/ x = 3 /\ (IntKind.i64.wrap ((i : Int) + (k : Int))).tmod 2 = 1)) := by
 have hm : (IntKind.i64.wrap ((i : Int) + (k : Int))).tmod 2 = (((i + k) % 2 : Nat) : Int) := by
  rw [show IntKind.i64.wrap ((i : Int) + (k : Int)) = Int.ofNat (i + k) from Dt _]
  rfl
 rw [hm]
 unfold Apt
 rw [Ad, Ad, hs, ht]
 simp only [Bh, Ah, Bool.or_eq_true, bne_iff_ne, beq_iff_eq, ne_eq]
 constructor
 ·rintro ⟨h1, h2⟩
  exact ⟨by omega, h2.imp id fun h => ⟨h.1, by omega⟩⟩
 rintro ⟨h1, h2⟩
 exact ⟨by omega, h2.imp id fun h => ⟨h.1, by omega⟩⟩
theorem V9.app {l : List (Int × Int)} {ps : List Fk} {i : Nat} {s : Int × Int} {p : Fk} (h : V9 l ps) (hl : ps.length = i) (hs : l[i]? = some s) (h1 : p.ring = s.1) (h2 : p.grp = s.2) (h3 : 1 <= p.mi /\ p.mi <= 3) (h4 : 1 <= p.ye /\ p.ye <= 2) (h5 : 0 <= p.re /\ p.re <= 2) (h6 : (p.wa = 0 /\ p.cl = 0) \/ (1 <= p.wa /\ p.wa <= 2 /\ 1 <= p.cl /\ p.cl <= 2)) (h7 : p.mi <= p.ma) (h8 : p.wa + p.cl <= p.ma) (h9 : p.ma <= 7) : V9 l (ps ++ [p]) := by
 intro k q hq
 by_cases hk : k < ps.length
 ·rw [Au hk] at hq; exact h k q hq
 rw [Ao (by omega)] at hq
 have hk2 : k = i := by
  have := (Ab.1 hq).1
  simp at this; omega
 subst hk2
 rw [hl, Nat.sub_self] at hq
 simp at hq
 subst hq
 exact ⟨s, hs, h1, h2, h3, h4, h5, h6, h7, h8, h9⟩
theorem Av3 {k : Nat} (h : k < 8) : (2 : Int) ^ k <= 128 := by
 have : ∀ k : Fin 8, (2 : Int) ^ k.val <= 128 := by decide
 exact this ⟨k, h⟩
theorem Avz {k : Nat} (h : k < 8) : IntKind.i64.wrap (2 ^ min (IntKind.u64.wrap (k : Int)).toNat 64) = 2 ^ k := by
 have : ∀ k : Fin 8, IntKind.i64.wrap (2 ^ min (IntKind.u64.wrap (k.val : Int)).toNat 64) = 2 ^ k.val := by decide
 exact this ⟨k, h⟩
theorem Ack (l : List (Int × Int)) (x : Bool) (i : Nat) : ∀ k, 0 <= Ug l x i k /\ Ug l x i k < 2 ^ k
 | 0 => by simp [Ug]
 | k + 1 => by
  have := Ack l x i k
  rw [Ug, Int.pow_succ]
  split <;> omega
theorem Lj (k : Eo) (h : k.l.length <= 300) (h0 : 0 <= k.pos) : Cx 27 [.box 84 (k.a false)] [.ptr 0 0] (fun d : Fr × Eo => [.box 84 (d.2.a false)]) (fun d => d.1.g) (fun d => d.2.l = k.l /\ 0 <= d.2.pos /\ Ao8 d.1) := by
 refine R3 Tryz.func27 ?_
 refine Bq ?_
 obtain ⟨D1, hD1, hd1, hl1, hp1⟩ := dN k 6
 obtain ⟨Y1, cY1, qY1⟩ := got (Ri D1.1)
 have hSq := qY1
 have hSv := cY1
 generalize Y1 = S at hSq hSv
 have hSl := Am4 hSq
 refine B3 (fun K kk => by simp [go_sem]; refine .o [0] (hD1) ?_; simp [go_sem]; refine .l (hSv) ?_; simp [go_sem]; exact kk) ?_
 obtain ⟨D2, hD2, hd2, hl2, hp2⟩ := dN D1.2 3
 refine B3 (fun K kk => by simp [go_sem]; refine .o [0] (hD2) ?_; simp [go_sem]; exact kk) <| .seq ?_
 refine Bq <| .block ?_
 refine Ck 2 0 124 8 (by decide) rfl rfl ?_
 simp [go_sem, -Prod.exists]
 refine Bs S.length (fun i1 (y1 : (List Int) × Int × (List Fk)) => ⟨[(0, .ptr 0 0), (2, .ptr 1 0), (4, .ptr 2 0), (20, .imm false 2 (Acg S)), (21, .li S.length), (22, .li i1)], [.box 84 [.mI y1.1, .li y1.2.1], .box 88 [.nil 8, .nil 1, .li 0], .box 88 [.own 3 y1.2.2.length, .nil 1, .li D2.1], .row 124 8 false false (Ps y1.2.2)]⟩) (fun i1 y1 => y1.1 = k.l /\ 0 <= y1.2.1 /\ y1.2.2.length = i1 /\ V9 S y1.2.2) (D2.2.l, D2.2.pos, []) (wk ok0 [0, 1, 2, 3]) (⟨by rw [hd2.1, hd1.1], hp2, rfl, fun i p h => by simp at h⟩) fun i1 y1 hi1 hy1 => ?_
 refine Bq <| .seq ?_
 refine Br ?_ ?_ <;> intro h23
 ·refine Bp <| .seq <| .block ?_
  obtain ⟨e1, H1⟩ := gx S i1
  refine Bu H1 ?_
  have hyl : (⟨y1.1, y1.2.1⟩ : Eo).l.length <= 300 := by show y1.1.length <= 300; rw [hy1.1]; exact h
  have hyp : 0 <= (⟨y1.1, y1.2.1⟩ : Eo).pos := hy1.2.1
  have hyn := hy1.2.2.1
  obtain ⟨D3, hD3, hd3, hl3, hp3⟩ := dR ⟨y1.1, y1.2.1⟩ 1 3
  obtain ⟨D4, hD4, hd4, hl4, hp4⟩ := dR D3.2 1 2
  obtain ⟨D5, hD5, hd5, hl5, hp5⟩ := dN D4.2 3
  refine Cz (fun K kk => by simp [go_sem, H1]; (repeat refine aK ?_); refine .o [0] (hD3) ?_; simp [go_sem, H1]; refine .o [0] (hD4) ?_; simp [go_sem, H1]; refine .o [0] (hD5) ?_; simp [go_sem, H1]; exact kk) <| .seq ?_
  obtain ⟨D6, hD6, hd6, hl6, hp6⟩ := dN D5.2 3
  refine B3 (fun K kk => by simp [go_sem, H1]; refine .o [0] (hD6) ?_; simp [go_sem, H1]; exact kk) ?_
  refine Br ?_ ?_ <;> intro h39
  ·obtain ⟨D7, hD7, hd7, hl7, hp7⟩ := dR D6.2 1 2
   obtain ⟨D8, hD8, hd8, hl8, hp8⟩ := dR D7.2 1 2
   have hw1 := Dt (D7.1 + D8.1)
   obtain ⟨MX, hMX⟩ : ∃ MX, (if D3.1 < D7.1 + D8.1 then D7.1 + D8.1 else D3.1) = MX := ⟨_, rfl⟩
   have hmb : D3.1 <= MX /\ D7.1 + D8.1 <= MX /\ MX <= 4 := by rw [<- hMX]; split <;> omega
   refine Cb (fun K kk => by simp [go_sem, H1, hw1]; refine .o [0] (hD7) ?_; simp [go_sem, H1, hw1]; refine .o [0] (hD8) ?_; simp [go_sem, H1, hw1]; exact kk) ?_
   obtain ⟨D9, hD9, hd9, hl9, hp9⟩ := dN D8.2 4
   have hw2 := Dt (MX + D9.1)
   refine Cz (fun K kk => by simp [go_sem, H1, hw1, hMX, hw2]; refine .o [0] (hD9) ?_; simp [go_sem, H1, hw1, hMX, hw2]; exact kk) ?_
   refine B0 H1 ?_
   refine B0 H1 ?_
   exact ⟨by omega, (D9.2.l, D9.2.pos, y1.2.2 ++ [⟨e1.1, e1.2, D3.1, MX + D9.1, D4.1, D5.1, D7.1, D8.1⟩]), ⟨by rw [hd9.1, hd8.1, hd7.1, hd6.1, hd5.1, hd4.1, hd3.1]; exact hy1.1, hp9, by simp; omega, V9.app hy1.2.2.2 hyn H1 rfl rfl (by dsimp only; omega) (by dsimp only; omega) (by dsimp only; omega) (by dsimp only; omega) (by dsimp only; omega) (by dsimp only; omega) (by dsimp only; omega)⟩, wk (cj2 (Dt ((i1 : Int) + 1)) H1) [0, 1, 2, 3]⟩
  have hw1 : IntKind.i64.wrap 0 = 0 := by decide
  obtain ⟨MX, hMX⟩ : ∃ MX, (if D3.1 < 0 then 0 else D3.1) = MX := ⟨_, rfl⟩
  have hmb : D3.1 <= MX /\ 0 <= MX /\ MX <= 4 := by rw [<- hMX]; split <;> omega
  refine Bp ?_
  obtain ⟨D9, hD9, hd9, hl9, hp9⟩ := dN D6.2 4
  have hw2 := Dt (MX + D9.1)
  refine Cz (fun K kk => by simp [go_sem, H1, hw1, hMX, hw2]; refine .o [0] (hD9) ?_; simp [go_sem, H1, hw1, hMX, hw2]; exact kk) ?_
  refine B0 H1 ?_
  refine B0 H1 ?_
  exact ⟨by omega, (D9.2.l, D9.2.pos, y1.2.2 ++ [⟨e1.1, e1.2, D3.1, MX + D9.1, D4.1, D5.1, 0, 0⟩]), ⟨by rw [hd9.1, hd6.1, hd5.1, hd4.1, hd3.1]; exact hy1.1, hp9, by simp; omega, V9.app hy1.2.2.2 hyn H1 rfl rfl (by dsimp only; omega) (by dsimp only; omega) (by dsimp only; omega) (by dsimp only; omega) (by dsimp only; omega) (by dsimp only; omega) (by dsimp only; omega)⟩, wk (cj2 (Dt ((i1 : Int) + 1)) H1) [0, 1, 2, 3]⟩
 refine Bt ?_
 have hyl : (⟨y1.1, y1.2.1⟩ : Eo).l.length <= 300 := by show y1.1.length <= 300; rw [hy1.1]; exact h
 have hyp : 0 <= (⟨y1.1, y1.2.1⟩ : Eo).pos := hy1.2.1
 have hyn := hy1.2.2.1
 obtain ⟨D10, hD10, hd10, hl10, hp10⟩ := dN ⟨y1.1, y1.2.1⟩ 4
 have hn8 : y1.2.2.length <= 8 := by omega
 refine B3 (fun K kk => by simp [go_sem]; refine .o [0] (hD10) ?_; simp [go_sem]; exact kk) <| .seq ?_
 refine Bq <| .block ?_
 refine Ck 2 1 3 1 (by decide) rfl rfl ?_
 simp [go_sem, -Prod.exists]
 refine Bs y1.2.2.length (fun i2 (y2 : (List Fk) × (List Int)) => ⟨[(2, .ptr 1 0), (4, .ptr 2 0), (8, .lb ((D10.1 : Int) == 3)), (69, .own 3 y2.1.length), (70, .li y1.2.2.length), (71, .li i2)], [.box 84 [.mI D10.2.l, .li D10.2.pos], .box 88 [.nil 8, .nil 1, .li 0], .box 88 [.own 3 y2.1.length, .own 4 y2.2.length, .li D2.1], .row 124 8 false false (Ps y2.1), .row 3 1 false false (tI y2.2)]⟩) (fun i2 y2 => y2.1 = y1.2.2 /\ y2.2.length = i2 /\ y2.2 = (List.range i2).map fun t => Ug S (D10.1 == 3) t y1.2.2.length) (y1.2.2, []) (wk ok0 [0, 1, 2, 3, 4]) (⟨rfl, rfl, rfl⟩) fun i2 y2 hi2 hy2 => ?_
 refine Bq <| .seq ?_
 refine Br ?_ ?_ <;> intro h72
 ·refine Bp <| .seq <| .block ?_
  have hl2 := hy2.2.1
  have hy21 : y2.1.length = y1.2.2.length := by rw [hy2.1]
  obtain ⟨e2, H2⟩ := gx y2.1 i2
  refine Bu H2 ?_
  refine Bu H2 <| .seq ?_
  refine Bu H2 <| .block ?_
  refine Bs y2.1.length (fun i3 (y3 : Int) => ⟨[(2, .ptr 1 0), (4, .ptr 2 0), (8, .lb ((D10.1 : Int) == 3)), (9, .li i2), (10, .ptr 5 0), (11, .li y3), (69, .own 3 y2.1.length), (70, .li y1.2.2.length), (71, .li i2), (77, .own 3 y2.1.length), (78, .li y2.1.length), (79, .li i3)], [.box 84 [.mI D10.2.l, .li D10.2.pos], .box 88 [.nil 8, .nil 1, .li 0], .box 88 [.own 3 y2.1.length, .own 4 y2.2.length, .li D2.1], .row 124 8 false false (Ps y2.1), .row 3 1 false false (tI y2.2), .box 124 [.li e2.ring, .li e2.grp, .li e2.mi, .li e2.ma, .li e2.ye, .li e2.re, .li e2.wa, .li e2.cl]]⟩) (fun i3 y3 => y3 = Ug S (D10.1 == 3) i2 i3) (0) (wk H2 [0, 1, 2, 3, 4, 5]) (rfl) fun i3 y3 hi3 hy3 => ?_
  refine Bu H2 <| .seq ?_
  refine Br ?_ ?_ <;> intro h80
  ·refine Bp <| .seq <| .block ?_
   obtain ⟨e3, H3⟩ := gx y2.1 i3
   refine Bu (cj2 H2 H3) ?_
   refine Bu (cj2 H2 H3) ?_
   refine Br ?_ ?_ <;> intro h110
   ·have hw3 := Avz (k := i3) (by omega)
    have hw4 := Dt (y3 + 2 ^ i3) (by have := Ack S (D10.1 == 3) i2 i3; have := Av3 (k := i3) (by omega); omega) (by have := Ack S (D10.1 == 3) i2 i3; have := Av3 (k := i3) (by omega); omega)
    refine B0 (cj4 H2 H3 hw3 hw4) ?_
    refine B0 (cj2 H2 H3) ?_
    refine ⟨by omega, ((y3 + 2 ^ i3)), ?_, wk (cj3 (Dt ((i3 : Int) + 1)) H2 H3) [0, 1, 2, 3, 4, 5]⟩
    obtain ⟨s, hs, hs1, hs2, _⟩ := hy1.2.2.2 i2 e2 (by rw [<- hy2.1]; exact H2); obtain ⟨t, ht, ht1, ht2, _⟩ := hy1.2.2.2 i3 e3 (by rw [<- hy2.1]; exact H3); rw [Ug, if_pos ((Afe hs ht (by omega) (by omega)).2 (by rw [<- hs1, <- ht1, <- hs2, <- ht2]; exact h110)), hy3]
   refine Bp <| .H1 (cj2 H2 H3) ?_
   refine ⟨by omega, (y3), ?_, wk (cj3 (Dt ((i3 : Int) + 1)) H2 H3) [0, 1, 2, 3, 4, 5]⟩
   obtain ⟨s, hs, hs1, hs2, _⟩ := hy1.2.2.2 i2 e2 (by rw [<- hy2.1]; exact H2); obtain ⟨t, ht, ht1, ht2, _⟩ := hy1.2.2.2 i3 e3 (by rw [<- hy2.1]; exact H3); rw [Ug, if_neg (fun hb => by obtain ⟨ha, hc⟩ := (Afe hs ht (by omega) (by omega)).1 hb; rw [<- hs1, <- ht1, <- hs2, <- ht2] at hc; have hh := h110 ha; rcases hc with (hc | hc) | hc; exact hh.1.1 hc; exact hc hh.1.2; exact hh.2 hc.1 hc.2), hy3, Int.add_zero]
  refine Bt <| .H1 H2 ?_
  refine B0 H2 ?_
  exact ⟨by omega, (y2.1, y2.2 ++ ([y3])), ⟨hy2.1, by simp; omega, by have h3 : i3 = y1.2.2.length := (by omega); rw [hy2.2.2, List.range_succ, List.map_append, hy3, h3]; rfl⟩, wk (cj2 (Dt ((i2 : Int) + 1)) H2) [0, 1, 2, 3, 4]⟩
 refine Bt <| .R ?_
 refine B2 ok0 3 ?_
 refine B2 ok0 4 ?_
 exact .ret ⟨(⟨y2.1, y2.2, D2.1⟩, D10.2), rW ok0 [0], ⟨by rw [hd10.1]; exact hy1.1, hp10, S, hSq, (D10.1 == 3), by dsimp only; rw [hy2.1]; exact hy1.2.2.2, by dsimp only; rw [hy2.1]; omega, by dsimp only; rw [hy2.2.2, show i2 = S.length from by omega, show y1.2.2.length = S.length from by omega], by dsimp only; omega, by dsimp only; omega⟩⟩
def AgQ (ri : Int) (a : TAg) : Prop := a.sec.length = 8 /\ a.lims.length = 4 /\ (∀ x ∈ a.lims, 0 <= x /\ x <= 3) /\ a.ri = ri /\ a.cls = 3 /\ (1 <= a.rq /\ a.rq <= 3) /\ (1 <= a.se /\ a.se <= 2) /\ (1 <= a.ra /\ a.ra <= 3) /\ a.ra <= a.bu /\ a.bu <= 7
structure Abf (ri : Int) (c : Fa) : Prop where
  per : 1 <= c.per /\ c.per <= 4
  cap : 0 <= c.cap /\ c.cap <= 3
  hold : 1 <= c.hold /\ c.hold <= 3
  lock : 0 <= c.lock /\ c.lock <= 4
  nj : 1 <= c.juns.length /\ c.juns.length <= 2
  na : 1 <= c.ags.length /\ c.ags.length <= 3
  jun : ∀ j ∈ c.juns, Ao8 j
  ag : ∀ a ∈ c.ags, AgQ ri a
theorem ap1 {α : Type} {p : α -> Prop} {l : List α} {x : α} (h : ∀ y ∈ l, p y) (hx : p x) : ∀ y ∈ l ++ [x], p y := fun y hy => by
 rcases A0.1 hy with h1 | h1
 ·exact h y h1
 rw [An.1 h1]; exact hx
theorem Il (k : Eo) (ri : Int) (h : k.l.length <= 300) (h0 : 0 <= k.pos) : Cx 11 [.box 84 (k.a false)] [.ptr 0 0, .li ri] (fun d : Fa × Eo => [.box 84 (d.2.a false)]) (fun d => d.1.g) (fun d => d.2.l = k.l /\ (0 <= d.2.pos /\ (k.l = [] -> d.1.ags.length = 1 /\ ∀ a ∈ d.1.ags, a.se = 1)) /\ Abf ri d.1) := by
 refine R3 Tryz.func11 ?_
 refine Bq ?_
 obtain ⟨D1, hD1, hd1, hl1, hp1⟩ := dR k 1 4
 obtain ⟨D2, hD2, hd2, hl2, hp2⟩ := dN D1.2 4
 obtain ⟨D3, hD3, hd3, hl3, hp3⟩ := dR D2.2 1 3
 obtain ⟨D4, hD4, hd4, hl4, hp4⟩ := dN D3.2 5
 refine B3 (fun K kk => by simp [go_sem]; refine .o [0] (hD1) ?_; simp [go_sem]; refine .o [0] (hD2) ?_; simp [go_sem]; refine .o [0] (hD3) ?_; simp [go_sem]; refine .o [0] (hD4) ?_; simp [go_sem]; exact kk) <| .seq ?_
 obtain ⟨D5, hD5, hd5, hl5, hp5⟩ := dN D4.2 2
 have hw5 := Dt (1 + D5.1)
 refine B3 (fun K kk => by simp [go_sem, hw5]; refine .o [0] (hD5) ?_; simp [go_sem, hw5]; exact kk) <| .block ?_
 refine Ck 2 0 88 3 (by decide) rfl rfl ?_
 simp [go_sem, -Prod.exists]
 refine Cj (fun (y1 : (List Int) × Int × (List Fr) × Int) => ⟨[(0, .ptr 0 0), (1, .li ri), (4, .ptr 1 0), (5, .ptr 2 0), (6, .li y1.2.2.2)], [.box 84 [.mI y1.1, .li y1.2.1], .box 30 [.nil 3, .nil 8, .li 0, .li 0, .li 0, .li 0], .box 30 [.own 3 y1.2.2.1.length, .nil 8, .li D1.1, .li D2.1, .li D3.1, .li D4.1], .row 88 3 false false (Wr y1.2.2.1)]⟩) (fun y1 => y1.1 = k.l /\ 0 <= y1.2.1 /\ 0 <= y1.2.2.2 /\ (y1.2.2.1.length : Int) + y1.2.2.2 = 1 + D5.1 /\ ∀ j ∈ y1.2.2.1, Ao8 j) (fun y1 => y1.2.2.2.toNat) (D5.2.l, D5.2.pos, [], (1 + D5.1)) (wk ok0 [0, 1, 2, 3]) (⟨by rw [hd5.1, hd4.1, hd3.1, hd2.1, hd1.1], hp5, by dsimp only; omega, by simp, fun j hj => by cases hj⟩) fun y1 hy1 => ?_
 refine Ca <| .R ?_
 refine Br ?_ ?_ <;> intro h21
 ·refine Bp <| .seq <| .block ?_
  have hyl : (⟨y1.1, y1.2.1⟩ : Eo).l.length <= 300 := by show y1.1.length <= 300; rw [hy1.1]; exact h
  have hyp : 0 <= (⟨y1.1, y1.2.1⟩ : Eo).pos := hy1.2.1
  have hyn := hy1.2.2
  obtain ⟨J, hJ, hj⟩ := Lj ⟨y1.1, y1.2.1⟩ hyl hyp
  refine De (fun K kk => by simp [go_sem]; refine .o [0] (hJ) ?_; simp [go_sem]; (repeat first | exact kk | refine aK ?_)) ?_
  have hw1 := Dt (y1.2.2.2 - 1 : Int)
  refine B0 hw1 ?_
  refine ⟨(J.2.l, J.2.pos, y1.2.2.1 ++ ([J.1]), (y1.2.2.2 - 1)), ?_, ?_, [0, 1, 2, 3], Ds (by decide) ?_ ?_, by simp⟩
  ·(dsimp only; omega)
  ·exact ⟨by rw [hj.1]; exact hy1.1, hj.2.1, by dsimp only; omega, by simp; omega, ap1 hy1.2.2.2.2 hj.2.2⟩
  all_goals simp [go_sem, hw1]
 refine Bt <| .seq ?_
 have hyl : (⟨y1.1, y1.2.1⟩ : Eo).l.length <= 300 := by show y1.1.length <= 300; rw [hy1.1]; exact h
 have hyp : 0 <= (⟨y1.1, y1.2.1⟩ : Eo).pos := hy1.2.1
 obtain ⟨D6, hD6, hd6, hl6, hp6⟩ := dN ⟨y1.1, y1.2.1⟩ 3
 have hw6 := Dt (1 + D6.1)
 refine B3 (fun K kk => by simp [go_sem, hw6]; refine .o [0] (hD6) ?_; simp [go_sem, hw6]; exact kk) <| .block ?_
 refine Ck 2 1 60 8 (by decide) rfl rfl ?_
 simp [go_sem, -Prod.exists]
 refine Bs ((1 + D6.1).toNat) (fun i2 (y2 : (List Int) × Int × (List Fr) × (List TAg)) => ⟨[(0, .ptr 0 0), (1, .li ri), (4, .ptr 1 0), (5, .ptr 2 0), (33, .li (1 + D6.1)), (34, .li i2)], [.box 84 [.mI y2.1, .li y2.2.1], .box 30 [.nil 3, .nil 8, .li 0, .li 0, .li 0, .li 0], .box 30 [.own 3 y2.2.2.1.length, .own 4 y2.2.2.2.length, .li D1.1, .li D2.1, .li D3.1, .li D4.1], .row 88 3 false false (Wr y2.2.2.1), .row 60 8 false false (tAg y2.2.2.2)]⟩) (fun i2 y2 => y2.1 = k.l /\ 0 <= y2.2.1 /\ y2.2.2.1 = y1.2.2.1 /\ (y2.2.2.2.length = i2 /\ (k.l = [] -> ∀ a ∈ y2.2.2.2, a.se = 1)) /\ ∀ a ∈ y2.2.2.2, AgQ ri a) (D6.2.l, D6.2.pos, y1.2.2.1, []) (wk ok0 [0, 1, 2, 3, 4]) (⟨by rw [hd6.1]; exact hy1.1, hp6, rfl, ⟨rfl, fun _ a ha => by cases ha⟩, fun a ha => by cases ha⟩) fun i2 y2 hi2 hy2 => ?_
 refine Bq <| .seq ?_
 refine Br ?_ ?_ <;> intro h35
 ·refine Bp <| .seq <| .block <| .R ?_
  have hyl : (⟨y2.1, y2.2.1⟩ : Eo).l.length <= 300 := by show y2.1.length <= 300; rw [hy2.1]; exact h
  have hyp : 0 <= (⟨y2.1, y2.2.1⟩ : Eo).pos := hy2.2.1
  obtain ⟨G, hG, hg⟩ := L5 ⟨y2.1, y2.2.1⟩ i2 ri hyl hyp
  refine De (fun K kk => by simp [go_sem]; refine .o [0] (hG) ?_; simp [go_sem]; (repeat first | exact kk | refine aK ?_)) ?_
  refine Ci ?_
  exact ⟨by omega, (G.2.l, G.2.pos, y2.2.2.1, y2.2.2.2 ++ ([G.1])), ⟨by rw [hg.1]; exact hy2.1, hg.2.1.1, hy2.2.2.1, ⟨by simp; omega, fun e => ap1 (hy2.2.2.2.1.2 e) (hg.2.1.2 (hy2.1.trans e))⟩, ap1 hy2.2.2.2.2 hg.2.2⟩, wk (Dt ((i2 : Int) + 1)) [0, 1, 2, 3, 4]⟩
 refine Bt <| .R ?_
 refine B2 ok0 3 ?_
 refine B2 ok0 4 ?_
 exact .ret ⟨(⟨y2.2.2.1, y2.2.2.2, D1.1, D2.1, D3.1, D4.1⟩, ⟨y2.1, y2.2.1⟩), rW ok0 [0], ⟨hy2.1, ⟨hy2.2.1, fun e => ⟨by have := hd6.2.2.2.2 (hy1.1.trans e); dsimp only; omega, hy2.2.2.2.1.2 e⟩⟩, ⟨by dsimp only; omega, by dsimp only; omega, by dsimp only; omega, by dsimp only; omega, by dsimp only; rw [hy2.2.2.1]; omega, by dsimp only; omega, by dsimp only; rw [hy2.2.2.1]; exact hy1.2.2.2.2, hy2.2.2.2.2⟩⟩⟩
end Go.Proofs.YtkkimgjinbaemaaGreat
