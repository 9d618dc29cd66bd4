/- The walk. -/
import Derived.Test.YtkkimgjinbaemaaGreatKbp
namespace Go.Proofs.YtkkimgjinbaemaaGreat
open Go.RowKit
set_option linter.unusedVariables false
set_option linter.unusedSimpArgs false
set_option maxRecDepth 100000
set_option maxHeartbeats 4000000
theorem Ot (c : Ed) (k : Int) (hd : c.desks.length <= 1000) (hr : ∀ d ∈ c.desks, d.reqs.length <= 1000 /\ ∀ r ∈ d.reqs, r.legs.length <= 1000000) : ∃ d : List Cj, PP 128 [] [c.g, .li k] [.row 287 5 false false (R0 d)] (.own 0 d.length) /\ (d.length <= 1000000) := by
 refine Km (D := List Cj) (F := fun d => .own 0 d.length) (S := fun d => [.row 287 5 false false (R0 d)]) (Q := fun d => d.length <= 1000000) Tryz.func128 rfl rfl rfl (by simp [Tryz.ntmps128]) ?_
 refine VX.R ?_
 refine VX.R <| .seq ?_
 refine VX.R <| .block ?_
 refine VX.own0 5 287 5 (by decide) (k' := 5) (by simp [go_sem]) ?_
 simp [go_sem, -Prod.exists]
 refine VX.rangeE c.desks.length (fun i1 (y1 : (List Cj)) => ⟨[(1, .li k), (5, .own 0 y1.length), (9, .mDesk c.desks), (10, .li c.desks.length), (11, .li i1)], [.row 287 5 false false (R0 y1)]⟩) (fun i1 y1 => y1.length <= 1000 * i1) ([]) (wk ok0 [1]) (by simp) fun i1 y1 hi1 hy1 => ?_
 refine VX.R <| .seq ?_
 refine VX.C ?_ ?_ <;> intro h12 <;> simp [go_sem] at h12
 ·refine VX.skip <| .seq <| .block ?_
  obtain ⟨e1, H1⟩ := gx c.desks i1
  refine VX.H H1 ?_
  have hr1 := hr e1 (Ac H1)
  have hr2 : e1.reqs.length <= 1000000 := by omega
  obtain ⟨Y1, cY1, qY1⟩ := got (V1 e1.reqs e1.reg.num k hr2 hr1.2)
  have hq1 := qY1
  refine VX.L1 H1 cY1 ?_
  refine VX.H1 H1 ?_
  refine ⟨by omega, (y1 ++ Y1), ?_, wk (cj2 (Bq ((i1 : Int) + 1)) H1) [0]⟩
  simp; omega
 refine VX.exit <| .R ?_
 exact .ret ⟨y1, rW ok0 [0], (by omega)⟩
noncomputable def Jv (c : Ed) (k : Int) (hd : c.desks.length <= 1000) (hr : ∀ d ∈ c.desks, d.reqs.length <= 1000 /\ ∀ r ∈ d.reqs, r.legs.length <= 1000000) : List Cj := (Ot c k hd hr).choose
theorem Abw (c : Ed) (k : Int) (hd : c.desks.length <= 1000) (hr : ∀ d ∈ c.desks, d.reqs.length <= 1000 /\ ∀ r ∈ d.reqs, r.legs.length <= 1000000) : PP 128 [] [c.g, .li k] [.row 287 5 false false (R0 (Jv c k hd hr))] (.own 0 (Jv c k hd hr).length) := (Ot c k hd hr).choose_spec.1
theorem Agt (c : Ed) (k : Int) (hd : c.desks.length <= 1000) (hr : ∀ d ∈ c.desks, d.reqs.length <= 1000 /\ ∀ r ∈ d.reqs, r.legs.length <= 1000000) : (Jv c k hd hr).length <= 1000000 := (Ot c k hd hr).choose_spec.2
theorem Abv (c : Ed) (k : Int) (hd : c.desks.length <= 1000) (hr : ∀ d ∈ c.desks, d.reqs.length <= 1000 /\ ∀ r ∈ d.reqs, r.legs.length <= 1000000) : PP 128 [] [c.g, .li k] [] (.imm true 5 (R0 (Jv c k hd hr))) := by
 have h := (Abw c k hd hr).fresh (by simp [T.plain, Cj.t])
 refine B8.froz (es := R0 (Jv c k hd hr)) (fz := false) (ty := 287) ?_
 simpa using h
structure At9 (c : Ed) (y : List Fl × List C8 × List Int × List E7) : Prop where
  sigs : y.1.length = c.cfg.juns.length
  sig : ∀ g ∈ y.1, g.ctl.lights.length <= 8 /\ g.ctl.nxt.length <= 2
  svcs : y.2.1.length = c.cfg.juns.length
  svc : ∀ g ∈ y.2.1, g.ended.length <= 1000
  stuck : y.2.2.1.length = c.cfg.juns.length
  views : y.2.2.2.length = c.cfg.juns.length
  view : ∀ v ∈ y.2.2.2, v.col.length <= 8 /\ v.cnt.length <= 8
theorem Aey {α : Type} {p : α -> Prop} {l : List α} {i : Nat} {x : α} (h : ∀ y ∈ l, p y) (hx : p x) : ∀ y ∈ l.set i x, p y := fun y hy => by
 rcases Bi hy with h1 | h1
 ·exact h y h1
 rw [h1]; exact hx
theorem Xt (c : Ed) (hc : Hj c) : Cx 97 [.box 37 [.mJun c.cfg.juns, .mAg c.cfg.ags, .li c.cfg.per, .li c.cfg.cap, .li c.cfg.hold, .li c.cfg.lock, .lb c.ref, .li c.now, .mDesk c.desks, .own 1 c.sigs.length, .own 2 c.svcs.length, .own 3 c.stuck.length, .mView c.views], .row 135 5 false false (Nj c.sigs), .row 138 3 false false (O0 c.svcs), .row 3 1 false false (tI c.stuck)] [.ptr 0 0] (fun d : Ed => [.box 37 [.mJun d.cfg.juns, .mAg d.cfg.ags, .li d.cfg.per, .li d.cfg.cap, .li d.cfg.hold, .li d.cfg.lock, .lb d.ref, .li d.now, .mDesk d.desks, .own 1 d.sigs.length, .own 2 d.svcs.length, .own 3 d.stuck.length, .own 4 d.views.length], .row 135 5 false false (Nj d.sigs), .row 138 3 false false (O0 d.svcs), .row 3 1 false false (tI d.stuck), .row 128 4 false false (Uz d.views)]) (fun d => .tup []) (fun d => Hj d /\ d.cfg = c.cfg /\ d.now = c.now /\ d.desks = c.desks) := by
 refine Pr Tryz.func97 ?_
 have hj4 := hc.nj
 have hsg := hc.sigs
 have hsv := hc.svcs
 have hst := hc.stuck
 have hdl : c.desks.length <= 1000 := by have := hc.desks; have := hc.na; omega
 have hdr : ∀ d ∈ c.desks, d.reqs.length <= 1000 /\ ∀ r ∈ d.reqs, r.legs.length <= 1000000 := fun d hd => ⟨Ak (hc.desk d hd).1.reqs (by decide), (hc.desk d hd).1.b.legs⟩
 refine VX.E (fun K kk => by simp [go_sem, hsg, hsv]; exact kk) ?_
 refine VX.S (fun K kk => by simp [go_sem, hsg, hsv]; repeat first | exact kk | refine aK ?_) ?_
 refine VX.R <| .block ?_
 refine VX.rangeE c.cfg.juns.length (fun i1 (y1 : (List Fl) × (List C8) × (List Int) × (List E7)) => ⟨[(0, .ptr 0 0), (28, .li c.cfg.juns.length), (29, .li i1)], [.box 37 [.mJun c.cfg.juns, .mAg c.cfg.ags, .li c.cfg.per, .li c.cfg.cap, .li c.cfg.hold, .li c.cfg.lock, .lb c.ref, .li c.now, .mDesk c.desks, .own 1 y1.1.length, .own 2 y1.2.1.length, .own 3 y1.2.2.1.length, .own 4 y1.2.2.2.length], .row 135 5 false false (Nj y1.1), .row 138 3 false false (O0 y1.2.1), .row 3 1 false false (tI y1.2.2.1), .row 128 4 false false (Uz y1.2.2.2)]⟩) (fun i1 y1 => At9 c y1) (c.sigs, c.svcs, c.stuck, List.replicate c.cfg.juns.length ⟨false, false, [], []⟩) ⟨[0, 1, 2, 3, 4], Bp (by decide) ?_ ?_, Dd rfl⟩ (⟨hc.sigs, hc.sig, hc.svcs, hc.svc, hc.stuck, by simp, fun v hv => by have := List.eq_of_mem_replicate hv; subst this; exact ⟨Ae _, Ae _⟩⟩) fun i1 y1 hi1 hy1 => ?_
 ·repeat' (first | exact .nil | refine .cons (by simp [go_sem, hsg, hsv]) ?_)
 ·repeat' (first | exact .nil | refine .cons (by simp [go_sem, hsg, hsv]) ?_)
 refine VX.R <| .seq ?_
 refine VX.C ?_ ?_ <;> intro h30 <;> simp [go_sem] at h30
 ·refine VX.skip <| .seq <| .block ?_
  have hl1 := hy1.sigs
  have hl2 := hy1.svcs
  have hl3 := hy1.stuck
  have hl4 := hy1.views
  refine VX.R ?_
  obtain ⟨e1, H1⟩ := gx c.cfg.juns i1
  refine VX.S (fun K kk => by simp [go_sem, H1]; repeat first | exact kk | refine aK ?_) ?_
  refine VX.S (fun K kk => by simp [go_sem, H1]; exact kk) <| .seq ?_
  refine VX.S (fun K kk => by simp [go_sem, H1]; exact kk) ?_
  refine VX.C ?_ ?_ <;> intro h46 <;> simp [go_sem] at h46
  obtain ⟨e2, H2⟩ := gx y1.2.2.1 i1
  refine VX.S (fun K kk => by simp [go_sem, H1, H2]; repeat first | exact kk | refine aK ?_) ?_
  refine VX.S1 (fun K kk => by simp [go_sem, H1, H2]; repeat first | exact kk | refine aK ?_) ?_
  obtain ⟨gk, hgk⟩ : ∃ e, y1.1[i1]? = some e := ⟨_, Aa (by omega)⟩
  obtain ⟨vk, hvk⟩ : ∃ e, y1.2.1[i1]? = some e := ⟨_, Aa (by omega)⟩
  have hjb := hc.jun e1 (Ac H1)
  have hsb := hy1.sig gk (Ac hgk)
  have hvb : vk.ended.length <= 1000000 := Ak (hy1.svc vk (Ac hvk)) (by decide)
  have hCv := Abv ⟨c.cfg, c.ref, c.now, c.desks, y1.1, y1.2.1, (y1.2.2.1).set i1 (-1), y1.2.2.2⟩ i1 hdl hdr
  have hCl := Agt ⟨c.cfg, c.ref, c.now, c.desks, y1.1, y1.2.1, (y1.2.2.1).set i1 (-1), y1.2.2.2⟩ i1 hdl hdr
  generalize Jv ⟨c.cfg, c.ref, c.now, c.desks, y1.1, y1.2.1, (y1.2.2.1).set i1 (-1), y1.2.2.2⟩ i1 hdl hdr = CL at hCv hCl
  have hQ := Aeo c.cfg e1 gk vk CL e2 c.now hjb.2 hjb.1.con hsb.1 hsb.2 hvb hCl
  have hDv := Ad4 c.cfg e1 gk vk CL e2 c.now hjb.2 hjb.1.con hsb.1 hsb.2 hvb hCl
  generalize Im c.cfg e1 gk vk CL e2 c.now hjb.2 hjb.1.con hsb.1 hsb.2 hvb hCl = D at hQ hDv
  refine VX.draw_seq (by kernel_rfl) (by rfl) (by kernel_rfl) fun K1 hK1 => ?_
  simp [go_sem, H1, H2, hgk, hvk]
  repeat' with_reducible refine Ax ?_ ?_
  all_goals try (intros; (repeat' refine Ax ?_ ?_) <;> omega)
  refine .lo (hCv) (by simp [go_sem, AV.low, Gk, List.map_set]) (by simp [AV.cln, Cp]) ?_
  simp [go_sem, H1, H2, hgk, hvk]
  refine .l (hDv) ?_
  simp [go_sem, H1, H2, hgk, hvk]
  repeat' with_reducible refine Ax ?_ ?_
  all_goals try (intros; (repeat' refine Ax ?_ ?_) <;> omega)
  refine hK1 _ _ (by kernel_rfl) ?_; clear hK1
  have hs1 : ∀ v, ((Nj y1.1).set i1 v)[i1]? = some v := fun v => Bg (by simp; omega)
  have hs2 : ∀ v, ((O0 y1.2.1).set i1 v)[i1]? = some v := fun v => Bg (by simp; omega)
  have hWv := W6 e1 D.1 D.2 hjb.2 hQ.1
  have hW := Xi e1 D.1 D.2 hjb.2 hQ.1
  generalize Fb e1 D.1 D.2 hjb.2 hQ.1 = W at hWv hW
  obtain ⟨e3, H3⟩ := gx ((y1.1).set i1 D.1) i1
  obtain ⟨e4, H4⟩ := gx ((y1.2.1).set i1 D.2) i1
  obtain ⟨e5, H5⟩ := gx y1.2.2.2 i1
  refine VX.draw1 (by kernel_rfl) (by rfl) (by kernel_rfl) fun K1 hK1 => ?_
  simp [go_sem, H1, H2, H3, H4, H5, hs1, hs2]
  repeat' with_reducible refine Ax ?_ ?_
  all_goals try (intros; (repeat' refine Ax ?_ ?_) <;> omega)
  refine .l (hWv) ?_
  simp [go_sem, H1, H2, H3, H4, H5, hs1, hs2]
  repeat' with_reducible refine Ax ?_ ?_
  all_goals try (intros; (repeat' refine Ax ?_ ?_) <;> omega)
  refine hK1 _ _ (by kernel_rfl) ?_; clear hK1
  refine VX.S1 (fun K kk => by simp [go_sem, H1, H2, H3, H4, H5]; exact kk) ?_
  refine ⟨by omega, ((y1.1).set i1 D.1, (y1.2.1).set i1 D.2, (y1.2.2.1).set i1 (-1), (y1.2.2.2).set i1 W), ?_, [0, 1, 2, 3, 4], Bp (by decide) ?_ ?_, Dd rfl⟩
  ·exact ⟨by simpa using hl1, Aey hy1.sig ⟨hQ.1, hQ.2.1⟩, by simpa using hl2, Aey hy1.svc (by rw [hQ.2.2]; exact hy1.svc vk (Ac hvk)), by simpa using hl3, by simpa using hl4, Aey hy1.view hW⟩
  all_goals repeat' (first | exact .nil | refine .cons (by simp [go_sem, Bq ((i1 : Int) + 1), H1, H2, H3, H4, H5]) ?_)
 refine VX.exit ?_
 refine ⟨⟨c.cfg, c.ref, c.now, c.desks, y1.1, y1.2.1, y1.2.2.1, y1.2.2.2⟩, Aeh [0, 1, 2, 3, 4] (by simp [go_sem]) (by decide) (Dd rfl) (by simp [go_sem]) ?_, ⟨⟨hc.ref, hc.jun, hc.nj, hc.na, hc.desks, hc.desk, hy1.sigs, hy1.sig, hy1.svcs, hy1.svc, hy1.stuck, hy1.views, hy1.view⟩, rfl, rfl, rfl⟩⟩
 repeat' (first | exact .nil | refine .cons (by simp [go_sem]) ?_)
theorem Ak7 {P : Program} {E : Ent} {β : Nat -> Option Nat} {st : St} {a : Act} {w : World} (r : Rel E β st a w) {nid : Nat} (hn : st.o nid = .gone) {t : TypeId} {l c : AV} {ul uc : Value} (hl : Br (E.C β st w) l ul) (hcc : Br (E.C β st w) c uc) (hc : (Qu P t l c nid).c) (hs1 : tsz P (Bs P t) = 1) (hz1 : J4 P (Bs P t) = [.slice none 0 0]) :
 ∃ u w' β', (Instr.makeSlice t ul uc).run P w = .ok u w' /\ Rel E β' (st.set nid (.row (Bs P t) 1 true false (List.replicate (C3 l).toNat [.lit (.slice none 0 0)]))) a w' /\ Br (E.C β' (st.set nid (.row (Bs P t) 1 true false (List.replicate (C3 l).toNat [.lit (.slice none 0 0)]))) w') (.own nid (C3 l).toNat) u := by
 obtain ⟨h1, h2, h3, h4, h5, h6, h7, h8, h9⟩ := hc
 obtain ⟨kl, rfl⟩ := Fg h1 hl
 obtain ⟨kc, rfl⟩ := Fg h2 hcc
 obtain ⟨i, z, hi, hz, hsz, hzs, htl, hcell⟩ := Mr h4
 have hby : i.bytes <= 1000000 := by simpa [Gp, hi] using h9
 have hmul : (i.bytes : Int) * C3 c <= 281474976710656 := by
  have a1 : (i.bytes : Int) <= 1000000 := by omega
  have a2 := Int.mul_le_mul a1 h8 (by omega) (by omega)
  omega
 have hrun := run_make (P := P) w t _ i z (Cy h3) hi hz kl kc (C3 l) (C3 c) h6 h7 hmul (by omega)
 have hms := size_madeCells z.cells ((C3 c).toNat * i.size)
 rw [hsz] at hrun hms
 have hzc : z.cells.toList = [.slice none 0 0] := by rw [<- hz1]; simp [J4, hi, hz]
 have hz0 : z.cells = #[.slice none 0 0] := by rw [<- hzc]
 obtain ⟨q1, q2⟩ := Aee (ty := Bs P t) (fr := true) r hn (es := List.replicate (C3 l).toNat [.lit (.slice none 0 0)]) (k := 1) (cur := madeCells z.cells ((C3 c).toNat * tsz P (Bs P t))) (c := (C3 c).toNat) (by decide)
  (fun i e he => by rw [List.getElem?_replicate] at he; split at he <;> simp at he; rw [<- he]; rfl) (by rw [hms, hs1]) (by rw [List.length_replicate]; omega) (by simp only [maxLen]; omega) (fun i' e j x he hx => by
   rw [List.getElem?_replicate] at he
   split at he
   ·rename_i hlt
    simp at he
    subst he
    have hj : j = 0 := by
     have := (Ab.1 hx).1
     simp at this; omega
    subst hj
    simp at hx
    subst hx
    refine ⟨.slice none 0 0, ?_, .lit _ rfl⟩
    have hlt2 : i' * 1 + 0 < (C3 c).toNat * tsz P (Bs P t) := by rw [hs1]; omega
    have h0 : (0 : Nat) < z.cells.size := by rw [hz0]; decide
    simp only [madeCells]
    rw [Array.getElem?_map, Array.getElem?_range, if_pos hlt2]
    have hmod : (i' * 1 + 0) % z.cells.size = 0 := by rw [hz0]; show _ % 1 = 0; omega
    simp only [Ai, hmod]
    rw [getElem!_pos z.cells 0 h0]
    simp [hz0]
   cases he)
 rw [List.length_replicate] at q2
 exact ⟨_, _, _, hrun, q1, q2⟩
section
variable {P : Program} {n m : Nat} {st : St} {K : Exit -> St -> Prop} {c : Code}
theorem VW.region_mk {id0 : Nat} {l : List Oper} (j : Nat) (o : Oper) (t : TypeId) (x y : Operand) (hd : Cw n l = true) (hj : l.drop j = o :: l.drop (j + 1)) (hop : o.op = .makeSlice t x y) (hg : Kn l.toArray o = .no) (hs1 : tsz P (Bs P t) = 1) (hz1 : J4 P (Bs P t) = [.slice none 0 0])
 (h : runs P ((Dg l).take j) st (fun s => (s.raw x).sb = true /\ (s.raw y).sb = true /\ (Qu P t (s.raw x).sv (s.raw y).sv s.ob.length).c /\
  runs P ((Dg l).drop (j + 1)) ((s.put o.dst (.own s.ob.length (C3 (s.raw x).sv).toNat)).set s.ob.length (.row (Bs P t) 1 true false (List.replicate (C3 (s.raw x).sv).toNat [.lit (.slice none 0 0)]))) (K .normal))) : VW P n m (.region id0 l.toArray false) st K := fun E F hE hF β a w r => by
 have hd' : ∀ o ∈ l, ∀ x, o.dst = some x -> x < E.n := fun o ho x hx => by rw [hE.1]; exact Lm hd o ho x hx
 refine wpIn_region_lit ?_
 have key := R7 (P := P) (Q := Uj E K) hF (ops := l.toArray) (l.drop j) (fun s β a w hs r => ?_) (l.take j) (fun o ho => hd' o (Aq ho)) st β a w (by
  have := h
  simp only [Dg, <- List.map_take] at this
  exact this) r
 ·rwa [List.take_append_drop] at key
 obtain ⟨h1, h2, h3, h4⟩ := hs
 rw [hj]
 unfold wpListIn
 rw [So r l.toArray o (by rw [hg]; trivial), hg]
 rw [if_pos (by rfl)]
 obtain ⟨u, w', β', g1, g2, g3⟩ := Ak7 (P := P) r (Dx s _ (Aj _)) ((Jl r x).sv.1 h1) ((Jl r y).sv.1 h2) h3 hs1 hz1
 refine Na hF (by rw [hop]; intro c e; cases e) ?_
 have ho : o ∈ l := Ay (by rw [hj]; exact List.mem_cons_self)
 unfold Oper.wp
 simp only [execOp, hop, Sem.run_bind, g1, Result.andThen_ok]
 have key2 : Rel E β' ((s.put o.dst (.own s.ob.length (C3 (s.raw x).sv).toNat)).set s.ob.length (.row (Bs P t) 1 true false (List.replicate (C3 (s.raw x).sv).toNat [.lit (.slice none 0 0)]))) (a.put o.dst u) w' := by
  rw [St.put_set]
  exact g2.put g3 o.dst (hd' o ho)
 refine U1 hF (fun s β a w h1 h2 => ⟨E, s, β, Ej.refl E, h1, h2⟩) (l.drop (j + 1)) (fun o ho => hd' o (Ay ho)) _ β' _ w' ?_ key2
 rw [List.map_drop]
 exact h4
theorem VX.region_mk {id0 : Nat} {l : List Oper} (j : Nat) (o : Oper) (t : TypeId) (x y : Operand) (hd : Cw n l = true) (hj : l.drop j = o :: l.drop (j + 1)) (hop : o.op = .makeSlice t x y) (hg : Kn l.toArray o = .no) (hs1 : tsz P (Bs P t) = 1) (hz1 : J4 P (Bs P t) = [.slice none 0 0])
 (h : ∀ K1 : St -> Prop, (∀ s, K .normal s -> K1 s) -> runs P ((Dg l).take j) st (fun s => (s.raw x).sb = true /\ (s.raw y).sb = true /\ (Qu P t (s.raw x).sv (s.raw y).sv s.ob.length).c /\
  runs P ((Dg l).drop (j + 1)) ((s.put o.dst (.own s.ob.length (C3 (s.raw x).sv).toNat)).set s.ob.length (.row (Bs P t) 1 true false (List.replicate (C3 (s.raw x).sv).toNat [.lit (.slice none 0 0)]))) K1)) : VX P n m (.region id0 l.toArray false) st K := by
 obtain ⟨s, h1, h2, h3, h4, h5⟩ := Mu _ _ (h _ fun _ h => h)
 obtain ⟨s2, h6, h7⟩ := Mu _ _ h5
 refine ⟨.normal, s2, .region_mk j o t x y hd hj hop hg hs1 hz1 (Ic _ _ ?_ h1), h7⟩
 rintro s' rfl
 exact ⟨h2, h3, h4, Ic _ _ (by rintro s' rfl; exact ⟨rfl, rfl⟩) h6⟩
theorem VX.region_mk_seq {id0 : Nat} {l : List Oper} {y0 : Code} (j : Nat) (o : Oper) (t : TypeId) (x y : Operand) (hd : Cw n l = true) (hj : l.drop j = o :: l.drop (j + 1)) (hop : o.op = .makeSlice t x y) (hg : Kn l.toArray o = .no) (hs1 : tsz P (Bs P t) = 1) (hz1 : J4 P (Bs P t) = [.slice none 0 0])
 (h : ∀ K1 : St -> Prop, (∀ s, VX P n m y0 s K -> K1 s) -> runs P ((Dg l).take j) st (fun s => (s.raw x).sb = true /\ (s.raw y).sb = true /\ (Qu P t (s.raw x).sv (s.raw y).sv s.ob.length).c /\
  runs P ((Dg l).drop (j + 1)) ((s.put o.dst (.own s.ob.length (C3 (s.raw x).sv).toNat)).set s.ob.length (.row (Bs P t) 1 true false (List.replicate (C3 (s.raw x).sv).toNat [.lit (.slice none 0 0)]))) K1)) : VX P n m (.seq (.region id0 l.toArray false) y0) st K :=
 .seq (.region_mk j o t x y hd hj hop hg hs1 hz1 fun K1 hK1 => h K1 hK1)
end
theorem Rel.cellTo {E : Ent} {β : Nat -> Option Nat} {st : St} {a : Act} {w : World} (r : Rel E β st a w) {b i : Nat} {c0 c1 : AV} {ty : TypeId} {cs : List AV} (hb : st.o b = .box ty cs) (hi : cs[i]? = some c0) (hn : ∀ u, Br (E.C β st w) c0 u -> Br (E.C β st w) c1 u) :
 Rel E β (st.set b (.box ty (cs.set i (c1)))) a w := by
 have ho' : ∀ j, j ≠ b -> (st.set b (.box ty (cs.set i (c1)))).o j = st.o j := fun j hj => by rw [St.set_o, if_neg hj]
 have ho : (st.set b (.box ty (cs.set i (c1)))).o b = .box ty (cs.set i (c1)) := by rw [St.set_o, if_pos rfl]
 have hng : ∀ j, (st.set b (.box ty (cs.set i (c1)))).o j ≠ .gone -> st.o j ≠ .gone := fun j hj => by
  by_cases e : j = b
  ·subst e; rw [hb]; simp
  rw [ho' j e] at hj; exact hj
 have s : Ks (E.C β st w) (E.C β (st.set b (.box ty (cs.set i (c1)))) w) := by
  refine ⟨rfl, fun _ h => h, fun _ h => h, fun _ h => h, Aj _, ?_, fun _ _ _ => rfl, ?_, ?_⟩
  ·rintro x hx ⟨j, h1, h2⟩
   have h2 : ((st.set b (.box ty (cs.set i (c1)))).o j).live := h2
   by_cases e : j = b
   ·subst e; exact ⟨j, h1, by show (st.o j).live; rw [hb]; trivial⟩
   rw [ho' j e] at h2; exact ⟨j, h1, h2⟩
  ·intro j ty' cs' hj
   have hj : st.o j = .box ty' cs' := hj
   by_cases e : j = b
   ·subst e
    rw [hb] at hj
    injection hj with e1 e2
    subst e1
    exact ⟨⟨_, ho⟩, rfl⟩
   exact ⟨⟨cs', (ho' j e).trans hj⟩, rfl⟩
  intro j ty' k' fr' fz' es' hj
  have hj : st.o j = .row ty' k' fr' fz' es' := hj
  have e : j ≠ b := fun e => by subst e; rw [hb] at hj; cases hj
  exact ⟨_, _, _, (ho' j e).trans hj, Aj _, fun _ => ⟨rfl, fun b cc hb hc => ⟨cc, hc, rfl⟩⟩⟩
 refine r.move s rfl (fun j => ?_) (fun i j x hi hj => r.inj i j x (hng i hi) (hng j hj)) (fun j x hj => r.rng j x (hng j hj)) r.kp
 by_cases e : j = b
 ·subst e
  rw [ho]
  have h := r.ob j
  rw [hb] at h
  obtain ⟨x, cur, h1, h2, h3, h4⟩ := h
  refine ⟨x, cur, h1, h2, by rw [List.length_set]; exact h3, fun q c u hc hu => ?_⟩
  rw [List.getElem?_set] at hc
  split at hc
  ·rename_i e
   subst e
   split at hc
   ·injection hc with hc
    subst hc
    obtain ⟨g1, g2⟩ := h4 i _ u hi hu
    exact ⟨(hn u g1).step s, g2⟩
   cases hc
  exact ⟨(h4 q c u hc hu).1.step s, (h4 q c u hc hu).2⟩
 rw [ho' j e]
 exact (r.ob j).step s rfl fun _ _ => rfl
section
variable {P : Program} {n m : Nat} {st : St} {K : Exit -> St -> Prop} {c : Code}
theorem VW.own0l (b i : Nat) (ty k : Nat) (hk : 0 < k) {bt : TypeId} {cs : List AV} (hb : st.o b = .box bt cs) (hi : cs[i]? = some (.lit (.slice none 0 0))) (hv : VW P n m c ((st.set st.ob.length (.row ty k true false [])).set b (.box bt (cs.set i (.own st.ob.length 0)))) K) : VW P n m c st K := fun E F hE hF β a w r => by
 obtain ⟨r1, h1⟩ := r.empty (Dx st st.ob.length (Aj _)) ty hk true
 have hne : b ≠ st.ob.length := fun e => by
  have := Dx st st.ob.length (Aj _)
  rw [<- e, hb] at this
  cases this
 exact hv E F hE hF _ a w (r1.cellTo (by rw [St.set_o, if_neg hne]; exact hb) hi fun u hu => by cases hu; exact h1 none)
theorem VX.own0l (b i : Nat) (ty k : Nat) (hk : 0 < k) {bt : TypeId} {cs : List AV} (hb : st.o b = .box bt cs) (hi : cs[i]? = some (.lit (.slice none 0 0))) (hv : VX P n m c ((st.set st.ob.length (.row ty k true false [])).set b (.box bt (cs.set i (.own st.ob.length 0)))) K) : VX P n m c st K := by
 obtain ⟨e, s, h1, h2⟩ := hv
 exact ⟨e, s, .own0l b i ty k hk hb hi h1, h2⟩
end
end Go.Proofs.YtkkimgjinbaemaaGreat
