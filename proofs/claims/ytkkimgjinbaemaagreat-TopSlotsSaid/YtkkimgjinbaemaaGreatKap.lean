/- The walk. -/
import Derived.Test.YtkkimgjinbaemaaGreatKam
namespace Go.Proofs.YtkkimgjinbaemaaGreat
open Go.RowKit
set_option linter.unusedVariables false
set_option linter.unusedSimpArgs false
set_option maxRecDepth 100000
set_option maxHeartbeats 4000000
def Ajy (φ : AV -> AV) : Ob -> Ob
 | .box ty cs => .box ty (cs.map φ)
 | x => x
def Aoa (φ : AV -> AV) : List (Nat × AV) -> List (Nat × AV)
 | [] => []
 | p :: l => (p.1, φ p.2) :: Aoa φ l
theorem Afw {φ : AV -> AV} (h : φ .any = .any) : ∀ (l : List (Nat × AV)) (t : Nat), El (Aoa φ l) t = φ (El l t)
 | [], t => h.symm
 | p :: l, t => by
  simp only [Aoa, El]
  cases p.1 == t
  ·exact Afw h l t
  rfl
def Z6 (φ : AV -> AV) : List Ob -> List Ob
 | [] => []
 | x :: l => Ajy φ x :: Z6 φ l
theorem Aft (φ : AV -> AV) : ∀ (l : List Ob) (i : Nat), (Z6 φ l).getD i .gone = Ajy φ (l.getD i .gone)
 | [], i => by simp [Z6, Ajy]
 | x :: l, 0 => by simp [Z6]
 | x :: l, i + 1 => by have := Aft φ l i; simp [Z6] at this ⊢; exact this
def St.remap (st : St) (φ : AV -> AV) (id : Nat) (x : Ob) : St := ⟨Aoa φ st.sl, Nw (Z6 φ st.ob) id x⟩
theorem Qi (st : St) (φ : AV -> AV) (id : Nat) (x : Ob) (i : Nat) : (st.remap φ id x).o i = if i = id then x else Ajy φ (st.o i) := by
 show (Nw (Z6 φ st.ob) id x).getD i .gone = _
 rw [Uh, Aft]
 rfl
theorem Zb {φ : AV -> AV} {o : Ob} : (Ajy φ o).live <-> o.live := by cases o <;> exact Iff.rfl
theorem Rel.remap {E : Ent} {β : Nat -> Option Nat} {st : St} {a : Act} {w : World} (r : Rel E β st a w) {φ : AV -> AV} (hany : φ .any = .any) {id : Nat} {x : Ob} (hng : st.o id ≠ .gone) (hlv : x.live -> (st.o id).live) (hE : E.o0 id = .gone)
 (hV : ∀ (c : AV) (u : Value), Dv (E.C β st w) c u -> Dv (E.C β (st.remap φ id x) w) (φ c) u) (hO : Jo (E.C β (st.remap φ id x) w) id x) : Rel E β (st.remap φ id x) a w := by
 have hS : ∀ fr b, (E.C β st w).S fr b -> (E.C β (st.remap φ id x) w).S fr b := fun fr b ⟨h1, h2, h3⟩ => ⟨h1, fun ⟨i, g1, g2⟩ => h2 ⟨i, g1, by
  have g2 : ((st.remap φ id x).o i).live := g2
  rw [Qi] at g2
  show (st.o i).live
  by_cases e : i = id
  ·rw [if_pos e] at g2; rw [e]; exact hlv g2
  rw [if_neg e] at g2; exact Zb.1 g2⟩, h3⟩
 have hT : ∀ fr t u, F3 w.heap ((E.C β st w).S fr) t u -> F3 w.heap ((E.C β (st.remap φ id x) w).S fr) t u := fun fr t u h => h.keep (fun _ _ => rfl) (hS fr)
 have hg : ∀ i, (st.remap φ id x).o i ≠ .gone -> st.o i ≠ .gone := fun i h e => by
  rw [Qi] at h
  by_cases e' : i = id
  ·subst e'; exact hng e
  rw [if_neg e', e] at h; exact h rfl
 refine ⟨r.sz, fun t => ?_, r.df, fun i => ?_, fun i j b hi hj => r.inj i j b (hg i hi) (hg j hj), fun i b hi => r.rng i b (hg i hi), r.kp, ⟨fun i ty' cs' h => ?_, fun i ty' k fr fz es h => ?_⟩, r.kb, r.dk⟩
 ·show Dv _ (El (Aoa φ st.sl) t) _
  rw [Afw hany]
  exact hV _ _ (r.sl t)
 ·by_cases e : i = id
  ·rw [Qi, if_pos e, e]; exact hO
  rw [Qi, if_neg e]
  have := r.ob i
  cases hq : st.o i with
  | gone => trivial
  | row ty' k fr fz es =>
   rw [hq] at this
   obtain ⟨h1, h2⟩ := this
   refine ⟨h1, ?_⟩
   cases hb : (E.C β (st.remap φ id x) w).β i with
   | none =>
    have hb : β i = none := hb
    have h2 : (match β i with | none => es = [] | some b => _) := h2
    rw [hb] at h2; exact h2
   | some b =>
    have hb : β i = some b := hb
    have h2 : (match β i with | none => es = [] | some b => _) := h2
    rw [hb] at h2
    obtain ⟨cur, c, g1, g2, g3, g4, g5⟩ := h2
    exact ⟨cur, c, g1, g2, g3, g4, fun i e j x he hx => let ⟨u, p1, p2⟩ := g5 i e j x he hx; ⟨u, p1, hT _ _ _ p2⟩⟩
  | box ty' cs' =>
   rw [hq] at this
   obtain ⟨b, cur, g1, g2, g3, g4⟩ := this
   refine ⟨b, cur, g1, g2, by rw [A2]; exact g3, fun j c u hc hu => ?_⟩
   rw [Ap] at hc
   cases hx : cs'[j]? with
   | none => rw [hx] at hc; cases hc
   | some x =>
    rw [hx] at hc
    simp only [Ai, Option.some.injEq] at hc
    subst hc
    exact ⟨hV _ _ (g4 j x u hx hu).1, (g4 j x u hx hu).2⟩
 ·obtain ⟨⟨cs2, h1⟩, h2⟩ := r.ct.box i ty' cs' h
  have e : i ≠ id := fun e => by subst e; rw [hE] at h; cases h
  have h1 : st.o i = _ := h1
  exact ⟨⟨_, by show (st.remap φ id x).o i = _; rw [Qi, if_neg e, h1]; rfl⟩, h2⟩
 obtain ⟨fr', fz', es', h1, h2⟩ := r.ct.row i ty' k fr fz es h
 have e : i ≠ id := fun e => by subst e; rw [hE] at h; cases h
 have h1 : st.o i = _ := h1
 exact ⟨fr', fz', es', by show (st.remap φ id x).o i = _; rw [Qi, if_neg e, h1]; rfl, h2⟩
def N4 (fr : Bool) : List (List T) -> List AV
 | [] => []
 | e :: es => e.map (T.av fr) ++ N4 fr es
theorem X5 {fr : Bool} {k : Nat} : ∀ {es : List (List T)}, (∀ (i : Nat) (e : List T), es[i]? = some e -> e.length = k) -> (N4 fr es).length = es.length * k
 | [], _ => by simp [N4]
 | e :: es, h => by
  have h0 := h 0 e rfl
  have := X5 (fr := fr) (es := es) fun i e' he => h (i + 1) e' he
  simp [N4, h0, this, Be]; omega
theorem Af3 {fr : Bool} {k : Nat} : ∀ {es : List (List T)}, (∀ (i : Nat) (e : List T), es[i]? = some e -> e.length = k) -> ∀ {p : Nat} {c : AV}, (N4 fr es)[p]? = some c -> ∃ (i : Nat) (e : List T) (j : Nat) (x : T), es[i]? = some e /\ e[j]? = some x /\ p = i * k + j /\ c = T.av fr x
 | [], _, p, c, h => by simp [N4] at h
 | e :: es, h0, p, c, h => by
  have hl : (e.map (T.av fr)).length = k := by rw [A2]; exact h0 0 e rfl
  by_cases hp : p < k
  ·simp only [N4] at h
   rw [Au (by omega), Ap] at h
   cases hx : e[p]? with
   | none => rw [hx] at h; cases h
   | some x =>
    rw [hx] at h
    simp only [Ai, Option.some.injEq] at h
    exact ⟨0, e, p, x, rfl, hx, by omega, h.symm⟩
  simp only [N4] at h
  rw [Ao (by omega), hl] at h
  obtain ⟨i, e', j, x, h1, h2, h3, h4⟩ := Af3 (es := es) (fun i e' he => h0 (i + 1) e' he) h
  exact ⟨i + 1, e', j, x, h1, h2, by rw [Be]; omega, h4⟩
mutual
def AV.tb (id n0 : Nat) : AV -> AV
 | .own i n => bif i == id then (bif n == n0 then .bsl i n else .any) else .own i n
 | .sub i n lo m => bif i == id then .any else .sub i n lo m
 | .rptr i n j off => bif i == id then .any else .rptr i n j off
 | .agg cs => .agg (tbL id n0 cs)
 | .tup cs => .tup (tbL id n0 cs)
 | .fn f cs => .fn f (tbL id n0 cs)
 | .gd t v => .gd t (v.tb id n0)
 | .any => .any
 | .lit v => .lit v
 | .nil k => .nil k
 | .imm fr k es => .imm fr k es
 | .ptr i off => .ptr i off
 | .bsl i n => .bsl i n
 | .iptr fr cs off => .iptr fr cs off
def tbL (id n0 : Nat) : List AV -> List AV
 | [] => []
 | c :: cs => c.tb id n0 :: tbL id n0 cs
end
theorem Ag1 (id n0 : Nat) : ∀ (cs : List AV), tbL id n0 cs = cs.map (AV.tb id n0)
 | [] => rfl
 | c :: cs => by simp [tbL, Ag1 id n0 cs]
def St.toBox (st : St) (id : Nat) : St := st.remap (AV.tb id (Kj (st.o id)).length) id (.box (Xq (st.o id)) (N4 (An5 (st.o id)) (Kj (st.o id))))
theorem O8 {α β : Type} {φ : α -> β} {l : List α} {i : Nat} {c : β} (h : (l.map φ)[i]? = some c) : ∃ x, l[i]? = some x /\ c = φ x := by
 rw [Ap] at h
 cases hx : l[i]? with
 | none => rw [hx] at h; cases h
 | some x =>
  rw [hx] at h
  simp only [Ai, Option.some.injEq] at h
  exact ⟨x, rfl, h.symm⟩
theorem Rel.toBox {E : Ent} {β : Nat -> Option Nat} {st : St} {a : Act} {w : World} (r : Rel E β st a w) {id : Nat} {ty k : Nat} {fr : Bool} {es : List (List T)} (ho : st.o id = .row ty k fr false es) (hne : es ≠ []) (hE : E.o0 id = .gone) : Rel E β (st.toBox id) a w := by
 have hdef : st.toBox id = st.remap (AV.tb id es.length) id (.box ty (N4 fr es)) := by unfold St.toBox; rw [ho]; rfl
 rw [hdef]
 generalize hst' : st.remap (AV.tb id es.length) id (.box ty (N4 fr es)) = st'
 have hob : ∀ i, st'.o i = if i = id then .box ty (N4 fr es) else Ajy (AV.tb id es.length) (st.o i) := fun i => by rw [<- hst', Qi]
 have hS : ∀ f b, (E.C β st w).S f b -> (E.C β st' w).S f b := fun f b ⟨h1, h2, h3⟩ => ⟨h1, fun ⟨i, g1, g2⟩ => h2 ⟨i, g1, by
  have g2 : (st'.o i).live := g2
  rw [hob] at g2
  show (st.o i).live
  by_cases e : i = id
  ·rw [e, ho]; rfl
  rw [if_neg e] at g2; exact Zb.1 g2⟩, h3⟩
 have hT : ∀ f t u, F3 w.heap ((E.C β st w).S f) t u -> F3 w.heap ((E.C β st' w).S f) t u := fun f t u h => h.keep (fun _ _ => rfl) (hS f)
 obtain ⟨hk, hel, hcell⟩ := r.row_cells ho
 obtain ⟨b, cur, c0, q1, q2, q3, q4, q5, q6⟩ : ∃ b cur c, β id = some b /\ w.heap[b]? = some (.cells cur ty (0, 0)) /\ cur.size = c * k /\ es.length <= c /\ c <= maxLen /\ ∀ (i : Nat) (e : List T) (j : Nat) (x : T), es[i]? = some e -> e[j]? = some x -> ∃ u, cur[i * k + j]? = some u /\ F3 w.heap ((E.C β st w).S fr) x u := by
  rcases hcell with ⟨_, h⟩ | ⟨b, cur, c, h⟩
  ·exact absurd h hne
  exact ⟨b, cur, c, h⟩
 have hrow : ∀ i ty' k fr fz es', i ≠ id -> st.o i = .row ty' k fr fz es' -> st'.o i = .row ty' k fr fz es' := fun i ty' k fr fz es' e h => by
  rw [hob, if_neg e, h]; rfl
 have hbox : ∀ i ty' cs, st.o i = .box ty' cs -> st'.o i = .box ty' (cs.map (AV.tb id es.length)) := fun i ty' cs h => by
  rw [hob, if_neg (fun e => by subst e; rw [ho] at h; cases h), h]; rfl
 have hL : ∀ (cs : List AV) (us : Array Value), (∀ (i : Nat) (c : AV) (u : Value), cs[i]? = some c -> us[i]? = some u -> Dv (E.C β st' w) (c.tb id es.length) u) -> ∀ (i : Nat) (c : AV) (u : Value), (tbL id es.length cs)[i]? = some c -> us[i]? = some u -> Dv (E.C β st' w) c u := fun cs us ih i c u hc hu => by
  rw [Ag1] at hc
  obtain ⟨x, hx, rfl⟩ := O8 hc
  exact ih i x u hx hu
 have hLl : ∀ cs : List AV, (tbL id es.length cs).length = cs.length := fun cs => by rw [Ag1, A2]
 have hV : ∀ (c : AV) (u : Value), Dv (E.C β st w) c u -> Dv (E.C β st' w) (c.tb id es.length) u := by
  intro c u h
  induction h with
  | any u => exact .any u
  | lit v => exact .lit v
  | nil k A => exact .nil k A
  | imm fr k es u h => exact .imm _ _ _ _ (hT fr _ _ h)
  | own i n u h =>
   by_cases e : i = id
   ·subst e
    by_cases en : n = es.length
    ·simp only [AV.tb, beq_self_eq_true, cond_true, show (n == es.length) = true by simpa using en]
     rcases r.own_val ho h en with ⟨_, he, _⟩ | ⟨b', cur', c, hb, _, _, g3, _, rfl, _⟩
     ·exact absurd he hne
     exact .bsl _ _ _ ⟨ty, _, b', c, by show st'.o i = _; rw [hob, if_pos rfl], hb, by rw [en], by omega⟩
    simp only [AV.tb, beq_self_eq_true, cond_true, show (n == es.length) = false by simpa using en, cond_false]
    exact .any _
   simp only [AV.tb, show (i == id) = false by simpa using e, cond_false]
   obtain ⟨h1, ty', k, fr, fz, es, h2, h3⟩ := h
   exact .own i n u ⟨h1, ty', k, fr, fz, es, hrow _ _ _ _ _ _ e h2, h3⟩
  | sub i n lo m u h =>
   by_cases e : i = id
   ·simp only [AV.tb, show (i == id) = true by simpa using e, cond_true]; exact .any _
   simp only [AV.tb, show (i == id) = false by simpa using e, cond_false]
   obtain ⟨h1, ty', k, fr, fz, es, h2, h3⟩ := h
   exact .sub i n lo m u ⟨h1, ty', k, fr, fz, es, hrow _ _ _ _ _ _ e h2, h3⟩
  | rptr i n j off u h =>
   by_cases e : i = id
   ·simp only [AV.tb, show (i == id) = true by simpa using e, cond_true]; exact .any _
   simp only [AV.tb, show (i == id) = false by simpa using e, cond_false]
   obtain ⟨h1, ty', k, fr, fz, es, h2, h3⟩ := h
   exact .rptr i n j off u ⟨h1, ty', k, fr, fz, es, hrow _ _ _ _ _ _ e h2, h3⟩
  | ptr i off u h =>
   obtain ⟨ty', cs', b', h1, h2, h3⟩ := h
   exact .ptr i off _ ⟨ty', _, b', hbox _ _ _ h1, h2, h3⟩
  | bsl i n u h =>
   obtain ⟨ty', cs', b', c', h1, h2, h3⟩ := h
   exact .bsl i n _ ⟨ty', _, b', c', hbox _ _ _ h1, h2, h3⟩
  | iptr fr cs off b o cur ty fz us h1 h2 h3 => exact .iptr fr cs off b o cur ty fz us h1 (hS fr b h2) fun j x hx => ⟨(h3 j x hx).1, hT fr _ _ (h3 j x hx).2⟩
  | agg cs us h1 h2 ih => exact .agg _ _ (by rw [hLl]; exact h1) (hL cs us ih)
  | tup cs us h1 h2 ih => exact .tup _ _ (by rw [hLl]; exact h1) (hL cs us ih)
  | fn f cs us h1 h2 ih => exact .fn f _ _ (by rw [hLl]; exact h1) (hL cs us ih)
  | gd t v u h1 h2 ih => exact .gd t _ u (fun e => ih e) h2
 have hO : Jo (E.C β st' w) id (.box ty (N4 fr es)) := by
  refine ⟨b, cur, q1, q2, ?_, fun p c u hc hu => ?_⟩
  ·rw [X5 hel, q3]; exact A1 k q4
  obtain ⟨i, e, j, x, h1, h2, rfl, rfl⟩ := Af3 hel hc
  obtain ⟨u', h3, h4⟩ := q6 i e j x h1 h2
  rw [hu] at h3
  injection h3 with h3
  subst h3
  exact ⟨T.rel (hT _ _ _ h4), h4.one⟩
 subst hst'
 exact r.remap rfl (by rw [ho]; simp) (fun _ => by rw [ho]; rfl) hE hV hO
section
variable {P : Program} {n m : Nat} {st : St} {K : Exit -> St -> Prop} {c : Code}
theorem VW.toBox (id : Nat) {ty k : Nat} {fr : Bool} {es : List (List T)} (ho : st.o id = .row ty k fr false es) (hne : es ≠ []) (hm : m <= id) (hv : VW P n m c (st.toBox id) K) : VW P n m c st K := fun E F hE hF β a w r =>
 hv E F hE hF β a w (r.toBox ho hne (hE.2 id hm))
theorem VX.toBox (id : Nat) {ty k : Nat} {fr : Bool} {es : List (List T)} (ho : st.o id = .row ty k fr false es) (hne : es ≠ []) (hm : m <= id) (hv : VX P n m c (st.toBox id) K) : VX P n m c st K := by
 obtain ⟨e, s, h1, h2⟩ := hv
 exact ⟨e, s, .toBox id ho hne hm h1, h2⟩
end
mutual
def AV.sb' (id k : Nat) (es : List (List T)) : AV -> AV
 | .bsl i n => bif i == id then (bif n == es.length then .imm false k es else .any) else .bsl i n
 | .ptr i off => bif i == id then .any else .ptr i off
 | .agg cs => .agg (sbL id k es cs)
 | .tup cs => .tup (sbL id k es cs)
 | .fn f cs => .fn f (sbL id k es cs)
 | .gd t v => .gd t (v.sb' id k es)
 | .any => .any
 | .lit v => .lit v
 | .nil k => .nil k
 | .imm fr k es => .imm fr k es
 | .own i n => .own i n
 | .sub i n lo m => .sub i n lo m
 | .rptr i n j off => .rptr i n j off
 | .iptr fr cs off => .iptr fr cs off
def sbL (id k : Nat) (es : List (List T)) : List AV -> List AV
 | [] => []
 | c :: cs => c.sb' id k es :: sbL id k es cs
end
theorem Ag4 (id k : Nat) (es : List (List T)) : ∀ (cs : List AV), sbL id k es cs = cs.map (AV.sb' id k es)
 | [] => rfl
 | c :: cs => by simp [sbL, Ag4 id k es cs]
def St.sealB (st : St) (id k : Nat) (es : List (List T)) : St := st.remap (AV.sb' id k es) id .gone
theorem Uw {k : Nat} : ∀ {es : List (List T)}, (∀ e ∈ es, e.length = k) -> ∀ {i j : Nat} {e : List T} {x : T}, es[i]? = some e -> e[j]? = some x -> es.flatten[i * k + j]? = some x
 | [], _, i, j, e, x, h, _ => by simp at h
 | e0 :: es, h0, 0, j, e, x, h, hx => by
  simp at h
  subst h
  have hj := (Ab.1 hx).1
  rw [List.flatten_cons, Nat.zero_mul, Bm, Au hj, hx]
 | e0 :: es, h0, i + 1, j, e, x, h, hx => by
  have hl : e0.length = k := h0 e0 (by simp)
  have h : es[i]? = some e := by simpa using h
  have := Uw (es := es) (fun e' he => h0 e' (by simp [he])) h hx
  rw [List.flatten_cons, Ao (by rw [hl, Be]; omega), hl, show (i + 1) * k + j - k = i * k + j by rw [Be]; omega]
  exact this
theorem Rel.sealB {E : Ent} {β : Nat -> Option Nat} {st : St} {a : Act} {w : World} (r : Rel E β st a w) {id : Nat} {ty : TypeId} {cs : List AV} {k : Nat} {es : List (List T)} (ho : st.o id = .box ty cs) (ht : ttL cs = some es.flatten) (hk : ∀ e ∈ es, e.length = k) (hE : E.o0 id = .gone) : Rel E β (st.sealB id k es) a w := by
 unfold St.sealB
 generalize hst' : st.remap (AV.sb' id k es) id .gone = st'
 have hob : ∀ i, st'.o i = if i = id then .gone else Ajy (AV.sb' id k es) (st.o i) := fun i => by rw [<- hst', Qi]
 have hS : ∀ f b, (E.C β st w).S f b -> (E.C β st' w).S f b := fun f b ⟨h1, h2, h3⟩ => ⟨h1, fun ⟨i, g1, g2⟩ => h2 ⟨i, g1, by
  have g2 : (st'.o i).live := g2
  rw [hob] at g2
  show (st.o i).live
  by_cases e : i = id
  ·rw [if_pos e] at g2; exact g2.elim
  rw [if_neg e] at g2; exact Zb.1 g2⟩, h3⟩
 have hT : ∀ f t u, F3 w.heap ((E.C β st w).S f) t u -> F3 w.heap ((E.C β st' w).S f) t u := fun f t u h => h.keep (fun _ _ => rfl) (hS f)
 obtain ⟨b, cur, q1, q2, q3, q4⟩ : Jo (E.C β st w) id (.box ty cs) := by have := r.ob id; rwa [ho] at this
 have q1 : β id = some b := q1
 have hSb : (E.C β st' w).S false b := by
  obtain ⟨g1, g2⟩ := r.rng id b (by rw [ho]; simp) q1
  refine ⟨g1, ?_, g2.elim .inl fun h => .inr (.inl h)⟩
  rintro ⟨i, h1, h2⟩
  have h1 : β i = some b := h1
  have h2 : (st'.o i).live := h2
  rw [hob] at h2
  by_cases e : i = id
  ·rw [if_pos e] at h2; exact h2
  rw [if_neg e] at h2
  refine e (r.inj i id b (fun hg => ?_) (by rw [ho]; simp) h1 q1)
  rw [hg] at h2
  exact h2
 have hrow : ∀ i ty' k' fr fz es', st.o i = .row ty' k' fr fz es' -> st'.o i = .row ty' k' fr fz es' := fun i ty' k' fr fz es' h => by
  rw [hob, if_neg (fun e => by subst e; rw [ho] at h; cases h), h]; rfl
 have hcell : ∀ (j : Nat) (x : T), es.flatten[j]? = some x -> cur[j]? = some ((cur[j]?).getD undef) /\ F3 w.heap ((E.C β st' w).S false) x ((cur[j]?).getD undef) := fun j x hx => by
  obtain ⟨c, g1, g2⟩ := Abh ht j x hx
  have hj : j < cur.size := Nat.lt_of_lt_of_le (Ab.1 g1).1 q3
  have g3 : cur[j]? = some cur[j] := Al hj
  obtain ⟨g4, g5⟩ := q4 j c _ g1 g3
  rw [g3]
  refine ⟨rfl, ?_⟩
  simp only [Bh]
  generalize cur[j] = u at g4 g5
  cases g4 with
  | lit v => simp only [Wo, Option.some.injEq] at g2; subst g2; exact .lit _ g5
  | nil k A => simp only [Wo, Option.some.injEq] at g2; subst g2; exact .nil _ _ _
  | imm fr k es u h => simp only [Wo, Option.some.injEq] at g2; subst g2; exact VC.T_weak (C := E.C β st' w) (g := false) (hT fr _ _ h) fun e => by cases e
  | fn f cs us k1 k2 =>
   obtain ⟨fr, ts', off', rfl, rfl⟩ := Ag0 g2
   exact VC.T_weak (C := E.C β st' w) (g := false) (hT fr _ _ (Dv.fn1 (.fn f _ us k1 k2))) fun e => by cases e
  | _ => cases g2
 have hL : ∀ (cs : List AV) (us : Array Value), (∀ (i : Nat) (c : AV) (u : Value), cs[i]? = some c -> us[i]? = some u -> Dv (E.C β st' w) (c.sb' id k es) u) -> ∀ (i : Nat) (c : AV) (u : Value), (sbL id k es cs)[i]? = some c -> us[i]? = some u -> Dv (E.C β st' w) c u := fun cs us ih i c u hc hu => by
  rw [Ag4] at hc
  obtain ⟨x, hx, rfl⟩ := O8 hc
  exact ih i x u hx hu
 have hLl : ∀ cs : List AV, (sbL id k es cs).length = cs.length := fun cs => by rw [Ag4, A2]
 have hV : ∀ (c : AV) (u : Value), Dv (E.C β st w) c u -> Dv (E.C β st' w) (c.sb' id k es) u := by
  intro c u h
  induction h with
  | any u => exact .any u
  | lit v => exact .lit v
  | nil k A => exact .nil k A
  | imm fr k es u h => exact .imm _ _ _ _ (hT fr _ _ h)
  | own i n u h =>
   obtain ⟨h1, ty', k, fr, fz, es, h2, h3⟩ := h
   exact .own i n u ⟨h1, ty', k, fr, fz, es, hrow _ _ _ _ _ _ h2, h3⟩
  | sub i n lo m u h =>
   obtain ⟨h1, ty', k, fr, fz, es, h2, h3⟩ := h
   exact .sub i n lo m u ⟨h1, ty', k, fr, fz, es, hrow _ _ _ _ _ _ h2, h3⟩
  | rptr i n j off u h =>
   obtain ⟨h1, ty', k, fr, fz, es, h2, h3⟩ := h
   exact .rptr i n j off u ⟨h1, ty', k, fr, fz, es, hrow _ _ _ _ _ _ h2, h3⟩
  | ptr i off u h =>
   by_cases e : i = id
   ·simp only [AV.sb', show (i == id) = true by simpa using e, cond_true]; exact .any _
   simp only [AV.sb', show (i == id) = false by simpa using e, cond_false]
   obtain ⟨ty', cs', b', h1, h2, h3⟩ := h
   have h1 : st.o i = _ := h1
   exact .ptr i off _ ⟨ty', _, b', by show st'.o i = _; rw [hob, if_neg e, h1]; rfl, h2, h3⟩
  | bsl i n u h =>
   obtain ⟨ty', cs', b', c', h1, h2, h3, h4⟩ := h
   have h1 : st.o i = _ := h1
   have h2 : β i = some b' := h2
   by_cases e : i = id
   ·subst e
    simp only [AV.sb', beq_self_eq_true, cond_true]
    rw [q1] at h2
    injection h2 with h2
    subst h2
    subst h3
    by_cases en : n = es.length
    ·subst en
     simp only [beq_self_eq_true, cond_true]
     refine .imm _ _ _ _ (.sl k es b 0 c' cur ty (0, 0) (fun i j => (cur[i * k + j]?).getD undef) q2 hSb h4 (fun i e he => hk e (Ac he)) (fun i e j x he hx => ?_) fun i e j x he hx => ?_)
     ·rw [Bm]; exact (hcell _ x (Uw hk he hx)).1
     exact (hcell _ x (Uw hk he hx)).2
    simp only [show (n == es.length) = false by simpa using en, cond_false]
    exact .any _
   simp only [AV.sb', show (i == id) = false by simpa using e, cond_false]
   exact .bsl i n _ ⟨ty', _, b', c', by show st'.o i = _; rw [hob, if_neg e, h1]; rfl, h2, h3, h4⟩
  | iptr fr cs off b o cur ty fz us h1 h2 h3 => exact .iptr fr cs off b o cur ty fz us h1 (hS fr b h2) fun j x hx => ⟨(h3 j x hx).1, hT fr _ _ (h3 j x hx).2⟩
  | agg cs us h1 h2 ih => exact .agg _ _ (by rw [hLl]; exact h1) (hL cs us ih)
  | tup cs us h1 h2 ih => exact .tup _ _ (by rw [hLl]; exact h1) (hL cs us ih)
  | fn f cs us h1 h2 ih => exact .fn f _ _ (by rw [hLl]; exact h1) (hL cs us ih)
  | gd t v u h1 h2 ih => exact .gd t _ u (fun e => ih e) h2
 subst hst'
 exact r.remap rfl (by rw [ho]; simp) (fun h => h.elim) hE hV trivial
section
variable {P : Program} {n m : Nat} {st : St} {K : Exit -> St -> Prop} {c : Code}
theorem VW.sealB (id : Nat) {ty : TypeId} {cs : List AV} (k : Nat) (es : List (List T)) (ho : st.o id = .box ty cs) (ht : ttL cs = some es.flatten) (hk : ∀ e ∈ es, e.length = k) (hm : m <= id) (hv : VW P n m c (st.sealB id k es) K) : VW P n m c st K := fun E F hE hF β a w r =>
 hv E F hE hF β a w (r.sealB ho ht hk (hE.2 id hm))
theorem VX.sealB (id : Nat) {ty : TypeId} {cs : List AV} (k : Nat) (es : List (List T)) (ho : st.o id = .box ty cs) (ht : ttL cs = some es.flatten) (hk : ∀ e ∈ es, e.length = k) (hm : m <= id) (hv : VX P n m c (st.sealB id k es) K) : VX P n m c st K := by
 obtain ⟨e, s, h1, h2⟩ := hv
 exact ⟨e, s, .sealB id k es ho ht hk hm h1, h2⟩
abbrev C6 := @VX.sealB
end
attribute [go_sem] St.toBox St.sealB St.remap Aoa Z6 Ajy AV.tb tbL AV.sb' sbL
section
variable {P : Program}
def Ent.base (E : Ent) (β : Nat -> Option Nat) (st : St) (w : World) : Ent := { E with w0 := w, o0 := st.o, β0 := β, im := (E.C β st w).S false, fr := (E.C β st w).S true }
theorem Rel.base_in {E : Ent} {β : Nat -> Option Nat} {st : St} {a : Act} {w : World} (r : Rel E β st a w) (hds : E.ds = []) : Rel (E.base β st w) β st a w := by
 have hS : ∀ fr b, (E.C β st w).S fr b -> ((E.base β st w).C β st w).S fr b := fun fr b h => ⟨h.1, h.2.1, .inr (.inr ⟨VC.S_weak h, fun e => by rw [e] at h; exact h⟩)⟩
 refine ⟨r.sz, fun t => Dv.same (C := E.C β st w) (C' := (E.base β st w).C β st w) rfl rfl rfl hS (r.sl t), r.df, fun id => Jo.same (C := E.C β st w) (C' := (E.base β st w).C β st w) rfl rfl rfl hS (r.ob id), r.inj, fun i b hi hb => ⟨(r.rng i b hi hb).1, .inr ⟨i, hi, hb⟩⟩, Kp.refl _ _, ⟨fun id ty cs h => ⟨⟨cs, h⟩, rfl⟩, fun id ty k fr fz es h => ⟨fr, fz, es, h, Aj _, fun _ => ⟨rfl, fun b cur _ hc => ⟨cur, hc, rfl⟩⟩⟩⟩, r.kb, ?_⟩
 show E.ds.Nodup /\ ∀ D ∈ E.ds, _
 rw [hds]
 exact ⟨List.nodup_nil, fun D h => by cases h⟩
theorem Rel.base_out {E : Ent} {β β' : Nat -> Option Nat} {st s : St} {a a' : Act} {w w' : World} (r : Rel E β st a w) (hds : E.ds = []) (r1 : Rel (E.base β st w) β' s a' w') : Rel E β' s a' w' := by
 have hM : ∀ b, (E.base β st w).M b -> E.w0.heap.size <= b \/ E.M b := fun b ⟨id, h1, h2⟩ => (r.rng id b h1 h2).2
 have hS : ∀ fr b, ((E.base β st w).C β' s w').S fr b -> (E.C β' s w').S fr b := fun fr b ⟨h1, h2, h3⟩ => ⟨h1, h2, by
  rcases h3 with h3 | h3 | ⟨h3, h4⟩
  ·exact .inl (Ak r.kp.size h3)
  ·exact (hM b h3).elim .inl fun h => .inr (.inl h)
  cases fr with
  | true =>
   have h5 : (E.C β st w).S true b := h4 rfl
   exact h5.2.2
  | false =>
   have h5 : (E.C β st w).S false b := h3
   rcases h5.2.2 with h | h | ⟨h, _⟩
   ·exact .inl h
   ·exact .inr (.inl h)
   exact .inr (.inr ⟨h, fun e => by cases e⟩)⟩
 refine ⟨r1.sz, fun t => Dv.same (C := (E.base β st w).C β' s w') (C' := E.C β' s w') rfl rfl rfl hS (r1.sl t), r1.df, fun id => Jo.same (C := (E.base β st w).C β' s w') (C' := E.C β' s w') rfl rfl rfl hS (r1.ob id), r1.inj, fun i b hi hb => ⟨(r1.rng i b hi hb).1, (r1.rng i b hi hb).2.elim (fun h => .inl (Ak r.kp.size h)) (hM b)⟩, ?_, ?_, r1.kb, ?_⟩
 ·refine ⟨r1.kp.os.trans r.kp.os, r1.kp.tape.trans r.kp.tape, r1.kp.output.trans r.kp.output, Ak r.kp.size r1.kp.size, fun b hb hm => ?_⟩
  have hbw : b < w.heap.size := Nat.lt_of_lt_of_le hb r.kp.size
  refine (r1.kp.block b hbw fun h => ?_).trans (r.kp.block b hb hm)
  rcases hM b h with h | h
  ·omega
  exact hm h
 ·have c1 := r1.ct
  have c0 := r.ct
  refine ⟨fun id ty cs h => ?_, fun id ty k fr fz es h => ?_⟩
  ·obtain ⟨⟨cs', h1⟩, h2⟩ := c0.box id ty cs h
   obtain ⟨h3, h4⟩ := c1.box id ty cs' h1
   exact ⟨h3, h4.trans h2⟩
  obtain ⟨fr', fz', es', h1, h2, h3⟩ := c0.row id ty k fr fz es h
  obtain ⟨fr2, fz2, es2, h4, h5, h6⟩ := c1.row id ty k fr' fz' es' h1
  refine ⟨fr2, fz2, es2, h4, by omega, fun e => ?_⟩
  obtain ⟨h7, h8⟩ := h3 (by omega)
  obtain ⟨h9, h10⟩ := h6 (by omega)
  refine ⟨h9.trans h7, fun b cur hb hc => ?_⟩
  obtain ⟨cur', q1, q2⟩ := h8 b cur hb hc
  obtain ⟨cur2, q3, q4⟩ := h10 b cur' (h7.trans hb) q1
  exact ⟨cur2, q3, q4.trans q2⟩
 show E.ds.Nodup /\ ∀ D ∈ E.ds, _
 rw [hds]
 exact ⟨List.nodup_nil, fun D h => by cases h⟩
def Atv (C C' : VC) : Prop := ∀ id ty k fr fz es fr' fz' es' n u, C.ob id = .row ty k fr fz es -> C'.ob id = .row ty k fr' fz' es' -> es'.length = es.length -> Adx C id n u -> Adx C' id n u
theorem As1 {E : Ent} {β β' : Nat -> Option Nat} {st s : St} {a' : Act} {w w' : World} (r1 : Rel (E.base β st w) β' s a' w') : Atv (E.C β st w) (E.C β' s w') := by
 intro id ty k fr fz es fr' fz' es' n u h1 h2 h3 ⟨h4, ty', k', fr0, fz0, es0, h5, h6, h7⟩
 rw [h1] at h5
 injection h5 with e1 e2 e3 e4 e5
 subst e1 e2 e3 e4 e5
 have h1 : (E.base β st w).o0 id = .row ty k fr fz es := h1
 obtain ⟨fr2, fz2, es2, g1, g2, g3⟩ := r1.ct.row id ty k fr fz es h1
 have h2' : s.o id = .row ty k fr' fz' es' := h2
 have g1' : s.o id = .row ty k fr2 fz2 es2 := g1
 rw [h2'] at g1'
 injection g1' with e1 e2 e3 e4 e5
 subst e5
 obtain ⟨g4, g5⟩ := g3 h3.symm
 refine ⟨h4, ty, k, fr', fz', es', h2, by omega, fun e => ?_⟩
 have h7 := h7 (by omega)
 have g4 : β' id = β id := g4
 show match β' id with | none => _ | some b => _
 have hb0 : (E.C β st w).β id = β id := rfl
 rw [hb0] at h7
 rw [g4]
 cases hb : β id with
 | none => rw [hb] at h7; exact h7
 | some b =>
  rw [hb] at h7
  obtain ⟨c, cur, q1, q2, q3⟩ := h7
  obtain ⟨cur', p1, p2⟩ := g5 b cur hb q1
  exact ⟨c, cur', p1, by rw [p2, q2], q3⟩
def Own (β : Nat -> Option Nat) (st : St) (b : Nat) : Prop := ∃ id, st.o id ≠ .gone /\ β id = some b
structure Frm (E : Ent) (β : Nat -> Option Nat) (st : St) (w : World) (β' : Nat -> Option Nat) (s : St) (w' : World) : Prop where
  keep : Atv (E.C β st w) (E.C β' s w')
  kp : Kp (Own β st) w w'
  rng : ∀ b, Own β' s b -> w.heap.size <= b \/ Own β st b
  box : ∀ id ty cs, st.o id = .box ty cs -> β' id = β id
  row : ∀ id ty k fr fz es fr' fz' es', st.o id = .row ty k fr fz es -> s.o id = .row ty k fr' fz' es' -> es'.length = es.length -> β' id = β id
theorem Auf {E : Ent} {β β' : Nat -> Option Nat} {st s : St} {a' : Act} {w w' : World} (r1 : Rel (E.base β st w) β' s a' w') : Frm E β st w β' s w' := by
 refine ⟨As1 r1, r1.kp, fun b ⟨i, h1, h2⟩ => (r1.rng i b h1 h2).2, fun id ty cs h => (r1.ct.box id ty cs h).2, fun id ty k fr fz es fr' fz' es' h1 h2 h3 => ?_⟩
 obtain ⟨fr2, fz2, es2, g1, g2, g3⟩ := r1.ct.row id ty k fr fz es h1
 have g1' : s.o id = .row ty k fr2 fz2 es2 := g1
 rw [h2] at g1'
 injection g1' with e1 e2 e3 e4 e5
 subst e5
 exact (g3 h3.symm).1
structure Ae7 (β : Nat -> Option Nat) (st : St) (w : World) (β' : Nat -> Option Nat) (s : St) (w' : World) : Prop where
  kp : Kp (Own β st) w w'
  rng : ∀ b, Own β' s b -> w.heap.size <= b \/ Own β st b
theorem Frm.grew {E : Ent} {β β' : Nat -> Option Nat} {st s : St} {w w' : World} (f : Frm E β st w β' s w') : Ae7 β st w β' s w' := ⟨f.kp, f.rng⟩
theorem Ae7.trans {β β1 β2 : Nat -> Option Nat} {st s1 s2 : St} {w w1 w2 : World} (g : Ae7 β st w β1 s1 w1) (g' : Ae7 β1 s1 w1 β2 s2 w2) : Ae7 β st w β2 s2 w2 := by
 refine ⟨⟨g'.kp.os.trans g.kp.os, g'.kp.tape.trans g.kp.tape, g'.kp.output.trans g.kp.output, Ak g.kp.size g'.kp.size, fun b hb hn => ?_⟩, fun b hb => ?_⟩
 ·refine (g'.kp.block b (Nat.lt_of_lt_of_le hb g.kp.size) fun h => ?_).trans (g.kp.block b hb hn)
  rcases g.rng b h with h | h
  ·omega
  exact hn h
 rcases g'.rng b hb with h | h
 ·exact .inl (Ak g.kp.size h)
 exact g.rng b h
theorem Ae7.trans2 {β β1 β2 : Nat -> Option Nat} {st s1 s1' s2 : St} {w w1 w2 : World} (g : Ae7 β st w β1 s1 w1) (g' : Ae7 β1 s1' w1 β2 s2 w2) (h : s1'.ob = s1.ob) : Ae7 β st w β2 s2 w2 := by
 have e : s1'.o = s1.o := by unfold St.o; rw [h]
 have e2 : Own β1 s1' = Own β1 s1 := by unfold Own; rw [e]
 exact g.trans ⟨by rw [<- e2]; exact g'.kp, by rw [<- e2]; exact g'.rng⟩
theorem Aco {E : Ent} {F : Fence} (hF : FOk E F) (hds : E.ds = []) {ops : Array Oper} {K : St -> Prop} {Q : Exit -> Act -> World -> Prop} (l2 l : List Oper) (hd : ∀ o ∈ l, ∀ x, o.dst = some x -> x < E.n) {st : St} {β : Nat -> Option Nat} {a : Act} {w : World}
 (h : runs P (l.map fun o => ⟨o.dst, o.op, o.type, Mj ops o⟩) st K) (r : Rel E β st a w)
  (hQ : ∀ s β' a' w', K s -> Rel E β' s a' w' -> Frm E β st w β' s w' -> wpListIn F 0 P ops Q l2 a' w') : wpListIn F 0 P ops Q (l ++ l2) a w :=
 Ul (E := E.base β st w) (F := F) hF l2 (fun s β' a' w' hk r1 => hQ s β' a' w' hk (r.base_out hds r1) (Auf r1)) l hd st β a w h (r.base_in hds)
section
variable {E : Ent} {F : Fence} {id : Nat} {l : List Oper} {st : St} {Q : Exit -> Act -> World -> Prop} {β : Nat -> Option Nat} {a : Act} {w : World}
theorem Aig (hF : FOk E F) (hds : E.ds = []) (j : Nat) (hd : Ff E.n l = true) (r : Rel E β st a w)
 (h : ∀ K1 : St -> Prop, (∀ s, (∀ β' a' w', Rel E β' s a' w' -> Frm E β st w β' s w' -> wpListIn F 0 P l.toArray Q (l.drop j) a' w') -> K1 s) -> runs P ((Fy l).take j) st K1) : (Code.region id l.toArray false).wpIn F 0 P Q a w := by
 refine wpIn_region_lit ?_
 have key := Aco (P := P) (Q := Q) hF hds (ops := l.toArray) (l.drop j) (l.take j) (fun o ho => Nk hd o (Aq ho)) (K := fun s => ∀ β' a' w', Rel E β' s a' w' -> Frm E β st w β' s w' -> wpListIn F 0 P l.toArray Q (l.drop j) a' w') (by
  have := h _ fun s hs => hs
  simp only [Fy, <- List.map_take] at this
  exact this) r (fun s β' a' w' hk r' f => hk β' a' w' r' f)
 rwa [List.take_append_drop] at key
theorem Zp (hF : FOk E F) (hds : E.ds = []) {j : Nat} (hd : Ff E.n l = true) (r : Rel E β st a w)
 (h : ∀ K1 : St -> Prop, (∀ s, (∀ β' a' w', Rel E β' s a' w' -> Frm E β st w β' s w' -> Q .normal a' w') -> K1 s) -> runs P ((Fy l).drop j) st K1) : wpListIn F 0 P l.toArray Q (l.drop j) a w := by
 have key := Aco (P := P) (Q := Q) hF hds (ops := l.toArray) [] (l.drop j) (fun o ho => Nk hd o (Ay ho)) (K := fun s => ∀ β' a' w', Rel E β' s a' w' -> Frm E β st w β' s w' -> Q .normal a' w') (by
  have := h _ fun s hs => hs
  simp only [Fy, <- List.map_drop] at this
  exact this) r (fun s β' a' w' hk r' f => hk β' a' w' r' f)
 rwa [List.append_nil] at key
theorem Apb (hF : FOk E F) (hds : E.ds = []) (hd : Ff E.n l = true) (r : Rel E β st a w)
 (h : ∀ K1 : St -> Prop, (∀ s, (∀ β' a' w', Rel E β' s a' w' -> Frm E β st w β' s w' -> Q .normal a' w') -> K1 s) -> runs P (Fy l) st K1) : (Code.region id l.toArray false).wpIn F 0 P Q a w := by
 refine wpIn_region_lit ?_
 have := Zp (P := P) (Q := Q) (j := 0) hF hds hd r h
 exact this
theorem Ll {y : Code} (hF : FOk E F) (hds : E.ds = []) (hd : Ff E.n l = true) (r : Rel E β st a w)
 (h : ∀ K1 : St -> Prop, (∀ s, (∀ β' a' w', Rel E β' s a' w' -> Frm E β st w β' s w' -> y.wpIn F 0 P Q a' w') -> K1 s) -> runs P (Fy l) st K1) : (Code.seq (.region id l.toArray false) y).wpIn F 0 P Q a w :=
 wpIn_seq (Apb hF hds hd r h)
end
theorem Rel.say {E : Ent} {β : Nat -> Option Nat} {st : St} {a : Act} {w : World} (r : Rel E β st a w) {sl : List (Nat × AV)} (h : ∀ t, Dv (E.C β st w) (El st.sl t) (a.tmps.getD t undef) -> Dv (E.C β st w) (El sl t) (a.tmps.getD t undef)) : Rel E β ⟨sl, st.ob⟩ a w :=
 ⟨r.sz, fun t => h t (r.sl t), r.df, r.ob, r.inj, r.rng, r.kp, r.ct, r.kb, r.dk⟩
theorem Rel.own0 {E : Ent} {β : Nat -> Option Nat} {st : St} {a : Act} {w : World} (r : Rel E β st a w) (t : Nat) (ty k : Nat) (hk : 0 < k) {k' : Nat} (ht : El st.sl t = .nil k') : Rel E (fun i => if i = st.ob.length then none else β i) ((st.put (some t) (.own st.ob.length 0)).set st.ob.length (.row ty k true false [])) a w := by
 obtain ⟨r1, h1⟩ := r.empty (Gr st st.ob.length (Aj _)) ty hk true
 rw [St.put_set]
 have hr := r.sl t
 rw [ht] at hr
 refine ⟨r1.sz, fun x => ?_, r1.df, ?_, ?_, ?_, r1.kp, ?_, r1.kb, r1.dk⟩
 ·rw [Aab]
  show Dv _ (bif t == x then _ else El _ x) _
  cases hb : t == x with
  | true =>
   have : t = x := by simpa using hb
   subst this
   generalize a.tmps.getD t undef = u at hr
   cases hr with
   | nil k A => exact h1 A
  | false => exact r1.sl x
 ·rw [Aab, St.put_o]; exact r1.ob
 ·rw [St.put_o]; exact r1.inj
 ·rw [St.put_o]; exact r1.rng
 rw [Aab]; exact r1.ct
def VW0 (P : Program) (n m : Nat) (c : Code) (st : St) (K : Exit -> St -> Prop) : Prop :=
 ∀ (E : Ent) (F : Fence), (E.n = n /\ ∀ id, m <= id -> E.o0 id = .gone) -> FOk E F -> E.ds = [] -> ∀ β a w, Rel E β st a w -> c.wpIn F 0 P (Adw E K) a w
theorem Aqj {f : FuncId} {fn : Func} {c : Code} {args : List AV} {σa σr : List Ob} {res : AV} (hf : P.funcs[f]? = some fn) (hb : fn.body = some c) (hn : (fn.name == "runtime.NumGoroutine") = false) {rs : List ResultVar} (hrs : fn.results = rs.toArray) (hk : args.length <= fn.ntmps)
 (h : VW0 P fn.ntmps σa.length c ⟨Hc 0 args, σa⟩ (P0 P σa.length rs σr res)) : Ei P f σa args σr res := by
 refine ⟨⟨fn, hf, by rw [hb]; rfl, hn⟩, fun E β us hen ho hβ r => ?_⟩
 have hsz : us.size = args.length := r.sz.trans hen
 have hds : E.ds = [] := by
  have := r.df
  cases hq : E.ds with
  | nil => rfl
  | cons x xs => rw [hq] at this; cases this
 refine (callsIn_wide (n := 0)).1 (callsIn_of_wp_marks hf hb trivial ?_)
 have r' : Rel { E with n := fn.ntmps } β ⟨Hc 0 args, σa⟩ ⟨us ++ Array.replicate (fn.ntmps - us.size) undef, []⟩ E.w0 := by
  refine ⟨by simp [hsz]; omega, fun t => ?_, r.df, r.ob, r.inj, r.rng, r.kp, r.ct, r.kb, r.dk⟩
  have hr := r.sl t
  by_cases ht : t < us.size
  ·show Dv _ _ ((us ++ Array.replicate (fn.ntmps - us.size) undef).getD t undef)
   rw [Av, Bk ht, <- Av]
   exact hr
  have : El (Hc 0 args) t = .any := by
   rw [Kn, Nat.sub_zero, if_pos (Ae _), Ad, Ar (by omega)]; rfl
  show Dv _ (El (Hc 0 args) t) _
  rw [this]
  exact .any _
 have hE : ∀ id, σa.length <= id -> E.o0 id = .gone := fun id hid => by
  rw [ho]
  exact Gr ⟨[], σa⟩ id hid
 have h0 : ∀ b o, E.kb b = some o -> b < E.w0.heap.size := fun b o h => (Aw.1 (r.kb b o h).1).1
 refine wpIn_mono (h { E with n := fn.ntmps } Fence.wide ⟨rfl, hE⟩ (.inl rfl) hds β _ _ r') fun e a w ⟨E', s, β1, hle, h1, h2⟩ => ?_
 obtain ⟨he, hc, hw⟩ := h1
 have key : LeavesInM Fence.wide 0 P fn a.tmps (fun e w' => ∃ v β', e = .returned v /\ Rel { E with n := 1 } β' ⟨[(0, res)], σr⟩ ⟨#[v], []⟩ w') a.defers .returning w := by
  rw [h2.df]
  exact Zc (E0 := E) hrs hE h0 hds (fun v β' w' h => ⟨v, β', rfl, h⟩) E'.ds E' β1 s a w hle rfl h2 hc hw
 rcases he with rfl | rfl <;> exact key
end
def Amn (lo : Nat) (w : World) (es : List (List T)) (u : Value) (ob : Option Nat) : Prop :=
 u.oneCell' = true /\ match ob with
 | none => es = [] /\ ∃ A, u = .slice A 0 0
 | some b => lo <= b /\ b < w.heap.size /\ ∃ c cur, u = .slice (some ⟨b, 0, none⟩) es.length c /\ w.heap[b]? = some (.cells cur 166 (0, 0)) /\ cur.size = c * 5 /\ es.length <= c /\ c <= maxLen /\ ∀ (i : Nat) (e : List T) (j : Nat) (x : T), es[i]? = some e -> e[j]? = some x -> ∃ v, x = .lit v /\ v.oneCell' = true /\ cur[i * 5 + j]? = some v
theorem Amn.kept {lo : Nat} {w w' : World} {es : List (List T)} {u : Value} {ob : Option Nat} (h : Amn lo w es u ob) (hs : w.heap.size <= w'.heap.size) (hb : ∀ b, ob = some b -> w'.heap[b]? = w.heap[b]?) : Amn lo w' es u ob := by
 obtain ⟨h0, h⟩ := h
 refine ⟨h0, ?_⟩
 cases ob with
 | none => exact h
 | some b =>
  obtain ⟨h1, h2, c, cur, h3, h4, h5⟩ := h
  exact ⟨h1, by omega, c, cur, h3, by rw [hb b rfl]; exact h4, h5⟩
def Acw (r : Em) (u : Value) : List T := [.li r.id, .li r.veh, .li r.cls, .li r.unt, .lit u]
def Gt : List Em -> List Value -> List (List T)
 | r :: l, u :: us => Acw r u :: Gt l us
 | _, _ => []
theorem Ajj : ∀ (l : List Em) (us : List Value) (r : Em) (u : Value), us.length = l.length -> Gt (l ++ [r]) (us ++ [u]) = Gt l us ++ [Acw r u]
 | [], [], r, u, _ => rfl
 | x :: l, v :: us, r, u, h => by simp only [List.cons_append, Gt]; rw [Ajj l us r u (by simpa using h)]
 | [], _ :: _, r, u, h => by simp at h
 | _ :: _, [], r, u, h => by simp at h
theorem Um : ∀ (l : List Em) (us : List Value), us.length = l.length -> (Gt l us).length = l.length
 | [], [], _ => rfl
 | x :: l, v :: us, h => by simp only [Gt, A6]; rw [Um l us (by simpa using h)]
 | [], _ :: _, h => by simp at h
 | _ :: _, [], h => by simp at h
theorem Aji : ∀ {l : List Em} {us : List Value}, us.length = l.length -> ∀ {i : Nat} {r : Em}, l[i]? = some r -> ∃ u, us[i]? = some u /\ (Gt l us)[i]? = some (Acw r u)
 | x :: l, v :: us, h, 0, r, hr => by simp at hr; subst hr; exact ⟨v, rfl, rfl⟩
 | x :: l, v :: us, h, i + 1, r, hr => by
  obtain ⟨u, h1, h2⟩ := Aji (l := l) (us := us) (by simpa using h) (i := i) (by simpa using hr)
  exact ⟨u, by simpa using h1, by simpa [Gt] using h2⟩
 | [], _, h, i, r, hr => by simp at hr
 | _ :: _, [], h, i, r, hr => by simp at h
theorem Apo {legs : List Gf} {i j : Nat} {e : List T} {x : T} (he : (He legs)[i]? = some e) (hx : e[j]? = some x) : ∃ v, x = .lit v /\ v.oneCell' = true := by
 obtain ⟨g, hg, rfl⟩ := O8 he
 match j, hx with
 | 0, hx => simp [Gf.t] at hx; subst hx; exact ⟨_, rfl, rfl⟩
 | 1, hx => simp [Gf.t] at hx; subst hx; exact ⟨_, rfl, rfl⟩
 | 2, hx => simp [Gf.t] at hx; subst hx; exact ⟨_, rfl, rfl⟩
 | 3, hx => simp [Gf.t] at hx; subst hx; exact ⟨_, rfl, rfl⟩
 | 4, hx => simp [Gf.t] at hx; subst hx; exact ⟨_, rfl, rfl⟩
 | j + 5, hx => simp [Gf.t] at hx
structure Ar8 (lo : Nat) (w : World) (l : List Em) (us : List Value) (bs : List (Option Nat)) : Prop where
  len : bs.length = us.length
  leg : ∀ (j : Nat) (r : Em) (u : Value) (b : Option Nat), l[j]? = some r -> us[j]? = some u -> bs[j]? = some b -> Amn lo w (He r.legs) u b
  apart : ∀ (i j b : Nat), i < j -> bs[i]? = some (some b) -> bs[j]? ≠ some (some b)
theorem Xb (r : Em) (h : r.legs.length <= 1000000) : PP 186 [] [r.g] [.row 166 5 true false (He r.legs)] (.agg [.li r.id, .li r.veh, .li r.cls, .li r.unt, .own 0 r.legs.length]) := by
 refine Eb Tryz.func186 ?_
 refine Bw ?_
 refine Ce (fun K kk => by simp [go_sem]; refine .lo (Lq _ (by simpa using h) (by simp [T.plain, Gf.t])) rfl (by simp) ?_; simp [go_sem]; exact kk) ?_
 refine Bw ?_
 exact .ret (rW ok0 [2])
def Fv : Nat -> List Em -> List AV
 | _, [] => []
 | k, r :: l => .li r.id :: .li r.veh :: .li r.cls :: .li r.unt :: .own k r.legs.length :: Fv (k + 1) l
theorem V8 : ∀ (k : Nat) (l : List Em), (Fv k l).length = l.length * 5
 | _, [] => rfl
 | k, r :: l => by simp [Fv, V8 (k + 1) l]; omega
theorem Adk : ∀ {k : Nat} {l : List Em} {p : Nat} {c : AV}, (Fv k l)[p]? = some c -> ∃ i r, l[i]? = some r /\ ((∃ j, j < 4 /\ p = i * 5 + j /\ ∀ u, ∃ v, c = .lit v /\ (Acw r u)[j]? = some (.lit v)) \/ (p = i * 5 + 4 /\ c = .own (k + i) r.legs.length))
 | _, [], p, c, h => by simp [Fv] at h
 | k, r :: l, 0, c, h => by simp [Fv] at h; exact ⟨0, r, rfl, .inl ⟨0, by omega, by omega, fun u => ⟨_, h.symm, rfl⟩⟩⟩
 | k, r :: l, 1, c, h => by simp [Fv] at h; exact ⟨0, r, rfl, .inl ⟨1, by omega, by omega, fun u => ⟨_, h.symm, rfl⟩⟩⟩
 | k, r :: l, 2, c, h => by simp [Fv] at h; exact ⟨0, r, rfl, .inl ⟨2, by omega, by omega, fun u => ⟨_, h.symm, rfl⟩⟩⟩
 | k, r :: l, 3, c, h => by simp [Fv] at h; exact ⟨0, r, rfl, .inl ⟨3, by omega, by omega, fun u => ⟨_, h.symm, rfl⟩⟩⟩
 | k, r :: l, 4, c, h => by simp [Fv] at h; exact ⟨0, r, rfl, .inr ⟨by omega, by rw [<- h]; rfl⟩⟩
 | k, r :: l, p + 5, c, h => by
  simp only [Fv, Bb] at h
  obtain ⟨i, r', h1, h2⟩ := Adk h
  refine ⟨i + 1, r', by simpa using h1, ?_⟩
  rcases h2 with ⟨j, h3, h4, h5⟩ | ⟨h3, h4⟩
  ·exact .inl ⟨j, h3, by omega, h5⟩
  exact .inr ⟨by omega, by rw [h4]; congr 1; omega⟩
def Ip (l : List Em) : List Ob := l.map fun r => .row 166 5 true false (He r.legs)
def G7 (l : List Em) : List Ob := .box 164 (Fv 1 l) :: Ip l
theorem Rel.deep {E : Ent} {β : Nat -> Option Nat} {a : Act} {w : World} {l : List Em} {us : List Value} {bs : List (Option Nat)} {fr : Bool} {t : Nat} (r : Rel E β ⟨[(t, .own 0 l.length)], [.row 164 5 fr false (Gt l us)]⟩ a w) (hE : ∀ id, E.o0 id = .gone) (hne : l ≠ []) (hus : us.length = l.length)
 (hf : Ar8 E.w0.heap.size w l us bs) (hb0 : ∀ b j : Nat, β 0 = some b -> bs[j]? ≠ some (some b)) : ∃ β', Rel E β' ⟨[(t, .bsl 0 l.length)], G7 l⟩ a w := by
 have ho : (St.mk [(t, .own 0 l.length)] [.row 164 5 fr false (Gt l us)]).o 0 = .row 164 5 fr false (Gt l us) := rfl
 have hlen : l.length = (Gt l us).length := (Um l us hus).symm
 have hv := r.sl t
 simp only [El, beq_self_eq_true, cond_true] at hv
 obtain ⟨u0, hu0⟩ : ∃ u0, u0 = a.tmps.getD t undef := ⟨_, rfl⟩
 rw [<- hu0] at hv
 cases hv with
 | own id n u hown =>
 rcases r.own_val ho hown hlen with ⟨_, he, _⟩ | ⟨b0, cur, c, hb, g1, g2, g3, g4, hu, g5⟩
 ·rw [he] at hlen
  cases l with
  | nil => exact absurd rfl hne
  | cons => simp at hlen
 obtain ⟨βF, hβF⟩ : ∃ βF : Nat -> Option Nat, βF = fun i => if i = 0 then some b0 else (bs[i - 1]?).join := ⟨_, rfl⟩
 have hβ0 : βF 0 = some b0 := by rw [hβF]; rfl
 have hβ1 : ∀ i, βF (i + 1) = (bs[i]?).join := fun i => by rw [hβF]; rfl
 have hob : ∀ i, (St.mk [(t, .bsl 0 l.length)] (G7 l)).o (i + 1) = match l[i]? with | some r => .row 166 5 true false (He r.legs) | none => .gone := fun i => by
  show (G7 l).getD (i + 1) .gone = _
  simp only [G7, Ip, Ad, Bb, Ap]
  cases l[i]? <;> rfl
 have hob0 : (St.mk [(t, .bsl 0 l.length)] (G7 l)).o 0 = .box 164 (Fv 1 l) := rfl
 have hleg : ∀ (i : Nat) (r : Em), l[i]? = some r -> ∃ u b, us[i]? = some u /\ bs[i]? = some b /\ Amn E.w0.heap.size w (He r.legs) u b := fun i r hi => by
  have h1 := (Ab.1 hi).1
  have h2 : us[i]? = some us[i] := Aa (by omega)
  have h4 : i < bs.length := by rw [hf.len]; omega
  have h3 : bs[i]? = some bs[i] := Aa h4
  exact ⟨_, _, h2, h3, hf.leg i r _ _ hi h2 h3⟩
 have hlt0 : b0 < w.heap.size := (r.rng 0 b0 (by rw [ho]; simp) hb).1
 have hin : ∀ (i b : Nat), βF (i + 1) = some b -> ∃ r u, l[i]? = some r /\ Amn E.w0.heap.size w (He r.legs) u (some b) /\ bs[i]? = some (some b) := fun i b h => by
  rw [hβ1] at h
  cases hq : bs[i]? with
  | none => rw [hq] at h; cases h
  | some ob =>
   rw [hq] at h
   have h : ob = some b := h
   subst h
   have h1 := (Ab.1 hq).1
   have h1' : i < l.length := by rw [hf.len] at h1; omega
   have h2 : l[i]? = some l[i] := Aa h1'
   obtain ⟨u, b', q1, q2, q3⟩ := hleg i _ h2
   rw [hq] at q2
   injection q2 with q2
   subst q2
   exact ⟨_, u, h2, q3, rfl⟩
 have hV : ∀ (i : Nat) (r : Em) (u : Value), l[i]? = some r -> us[i]? = some u -> Adx (E.C βF ⟨[(t, .bsl 0 l.length)], G7 l⟩ w) (1 + i) r.legs.length u := fun i r u hi hu => by
  obtain ⟨u', b, h1, h2, h3⟩ := hleg i r hi
  rw [hu] at h1
  injection h1 with h1
  subst h1
  refine ⟨h3.1, 166, 5, true, false, He r.legs, by show (St.mk _ (G7 l)).o (1 + i) = _; rw [Ba, hob, hi], by simp, fun _ => ?_⟩
  have : (E.C βF ⟨[(t, .bsl 0 l.length)], G7 l⟩ w).β (1 + i) = b := by show βF (1 + i) = b; rw [Ba, hβ1, h2]; rfl
  rw [this]
  cases b with
  | none => exact h3.2.2
  | some b =>
   obtain ⟨_, _, _, c, cur, k1, k2, k3, k4, k5, k6⟩ := h3
   exact ⟨c, cur, k2, k3, by rw [k1]; simp⟩
 refine ⟨βF, r.sz, fun x => ?_, r.df, fun i => ?_, fun i j b hi hj h1 h2 => ?_, fun i b hi h => ?_, r.kp, ⟨fun id ty cs h => ?_, fun id ty k fr fz es h => ?_⟩, r.kb, r.dk⟩
 ·simp only [El]
  cases hx : t == x with
  | true =>
   have : t = x := by simpa using hx
   subst this
   rw [<- hu0, hu, <- hlen]
   exact .bsl _ _ _ ⟨164, _, b0, c, hob0, hβ0, rfl, by omega⟩
  | false => exact .any _
 ·cases i with
  | zero =>
   rw [hob0]
   refine ⟨b0, cur, hβ0, g1, ?_, fun p cc u hc hu' => ?_⟩
   ·rw [V8, g2, hlen]; exact A1 5 g3
   obtain ⟨i, r', h1, h2⟩ := Adk hc
   obtain ⟨ui, h3, h4⟩ := Aji hus h1
   rcases h2 with ⟨j, hj, rfl, h5⟩ | ⟨rfl, rfl⟩
   ·obtain ⟨v, rfl, h6⟩ := h5 ui
    obtain ⟨u', k1, k2⟩ := g5 i _ j _ h4 h6
    rw [hu'] at k1
    injection k1 with k1
    subst k1
    cases k2 with
    | lit v h => exact ⟨.lit _, h⟩
   obtain ⟨u', k1, k2⟩ := g5 i _ 4 _ h4 rfl
   rw [hu'] at k1
   injection k1 with k1
   subst k1
   cases k2 with
   | lit v h => exact ⟨.own _ _ _ (hV i r' _ h1 h3), h⟩
  | succ i =>
   rw [hob]
   cases hi : l[i]? with
   | none => trivial
   | some r' =>
    obtain ⟨u, b, h1, h2, h3⟩ := hleg i r' hi
    refine ⟨⟨by omega, fun i e he => ?_⟩, ?_⟩
    ·obtain ⟨g, _, rfl⟩ := O8 he
     rfl
    have : (E.C βF ⟨[(t, .bsl 0 l.length)], G7 l⟩ w).β (i + 1) = b := by show βF (i + 1) = b; rw [hβ1, h2]; rfl
    rw [this]
    cases b with
    | none => exact h3.2.1
    | some b =>
     obtain ⟨_, _, _, c, cur, k1, k2, k3, k4, k5, k6⟩ := h3
     refine ⟨cur, c, k2, k3, k4, k5, fun i e j x he hx => ?_⟩
     obtain ⟨v, rfl, hv1, hv2⟩ := k6 i e j x he hx
     exact ⟨v, hv2, .lit v hv1⟩
 ·cases i with
  | zero =>
   cases j with
   | zero => rfl
   | succ j =>
    rw [hβ0] at h1
    injection h1 with h1
    subst h1
    obtain ⟨_, _, _, _, q⟩ := hin j _ h2
    exact absurd q (hb0 _ j hb)
  | succ i =>
   cases j with
   | zero =>
    rw [hβ0] at h2
    injection h2 with h2
    subst h2
    obtain ⟨_, _, _, _, q⟩ := hin i _ h1
    exact absurd q (hb0 _ i hb)
   | succ j =>
    obtain ⟨_, _, _, _, q1⟩ := hin i _ h1
    obtain ⟨_, _, _, _, q2⟩ := hin j _ h2
    rcases Nat.lt_trichotomy i j with h | h | h
    ·exact absurd q2 (hf.apart i j b h q1)
    ·rw [h]
    exact absurd q1 (hf.apart j i b h q2)
 ·cases i with
  | zero =>
   rw [hβ0] at h
   injection h with h
   subst h
   exact r.rng 0 _ (by rw [ho]; simp) hb
  | succ i =>
   obtain ⟨_, _, _, q, _⟩ := hin i _ h
   exact ⟨q.2.2.1, .inl q.2.1⟩
 ·rw [hE] at h; cases h
 rw [hE] at h; cases h
section
variable {P : Program} {E : Ent} {F : Fence} {st : St} {Q : Exit -> Act -> World -> Prop} {β : Nat -> Option Nat} {a : Act} {w : World}
theorem Amq (r : Rel E β st a w) {c : Operand} {x y : Code} (hb : Hh (st.raw c).sv = true) (hs : (st.raw c).sb = true) (ht : Ew (st.raw c).sv = true -> x.wpIn F 0 P Q a w) (hf : Ew (st.raw c).sv = false -> y.wpIn F 0 P Q a w) : (Code.cond c x y).wpIn F 0 P Q a w := by
 obtain ⟨_, e2⟩ := Ln hb ((Lm r c).sv.1 hs)
 exact wpIn_cond_split e2 ht hf
theorem Rel.say1 (r : Rel E β st a w) (t : Nat) {v : AV} (h : Dv (E.C β st w) v (a.tmps.getD t undef)) : Rel E β ⟨(t, v) :: st.sl, st.ob⟩ a w :=
 r.say fun x hx => by
  simp only [El]
  cases hb : t == x with
  | true =>
   have : t = x := by simpa using hb
   subst this
   exact h
  | false => exact hx
theorem Ate {C : VC} {cs : List AV} {c : AV} {v : Value} (h : Dv C (.agg (cs ++ [c])) v) : ∃ u, Dv C c u /\ Dv C (.agg (cs ++ [.lit u])) v := by
 cases h with
 | agg cs' us h1 h2 =>
  have hl : us.size = cs.length + 1 := by rw [<- h1]; simp
  refine ⟨us[cs.length], h2 cs.length c _ (by simp) (Al (by omega)), .agg _ _ (by simpa using hl.symm) fun i x u hx hu => ?_⟩
  by_cases hi : i < cs.length
  ·refine h2 i x u ?_ hu
   rw [Au hi] at hx ⊢
   exact hx
  rw [Ao (by omega)] at hx
  have hi' : i = cs.length := by
   have := (Ab.1 hx).1
   simp at this; omega
  subst hi'
  simp at hx
  subst hx
  rw [Al (by omega)] at hu
  injection hu with hu
  subst hu
  exact .lit _
theorem Aeb {c : Code} (I : Nat -> Act -> World -> Prop) (z : Nat) (h0 : I z a w) (round : ∀ z a w, I z a w -> c.wpIn F 0 P (Exit.then (fun a' w' => ∃ z', z' < z /\ I z' a' w') Q) a w) : (Code.loop c).wpIn F 0 P Q a w := by
 have hleast : ∀ a w, (∃ n, I n a w) -> ∃ n, I n a w /\ ∀ n', I n' a w -> n <= n' := by
  rintro a w ⟨n, h⟩
  induction n using Nat.strongRecOn with
  | _ n ih =>
   by_cases hm : ∃ n', n' < n /\ I n' a w
   ·obtain ⟨n', hlt, h'⟩ := hm
    exact ih n' hlt h'
   exact ⟨n, h, fun n' h' => Nat.le_of_not_lt fun hlt => hm ⟨n', hlt, h'⟩⟩
 refine wpIn_loop (fun a w => ∃ n, I n a w) (fun a w => Classical.epsilon fun n => I n a w /\ ∀ n', I n' a w -> n <= n') ⟨z, h0⟩ ?_
 intro a w hI
 obtain ⟨h1, hmin⟩ := Classical.epsilon_spec (hleast a w hI)
 refine wpIn_mono (round _ a w h1) fun e a' w' hq => ?_
 cases e with
 | normal =>
  obtain ⟨n', hlt, hI'⟩ := hq
  refine ⟨⟨n', hI'⟩, ?_⟩
  have := Classical.epsilon_spec (hleast a' w' ⟨n', hI'⟩)
  exact Nat.lt_of_le_of_lt (this.2 n' hI') hlt
 | _ => exact hq
end
def Adb (l : List Em) (i : Nat) (us : List Value) : St := ⟨[(1, .fn 193 []), (5, .own 0 i), (8, .mReq l), (9, .li l.length), (10, .li i)], [.row 164 5 true false (Gt (l.take i) us)]⟩
theorem As0 {lo : Nat} {E : Ent} {β : Nat -> Option Nat} {st : St} {a : Act} {w : World} (r : Rel E β st a w) {id : Nat} {fr fz : Bool} {q : Em} (ho : st.o id = .row 166 5 fr fz (He q.legs)) {u : Value} (hu : Adx (E.C β st w) id q.legs.length u) (hlo : ∀ b, β id = some b -> lo <= b) : Amn lo w (He q.legs) u (β id) := by
 refine ⟨hu.1, ?_⟩
 rcases r.own_val ho hu (by simp) with ⟨h1, h2, h3⟩ | ⟨b, cur, c, h1, h2, h3, h4, h5, h6, h7⟩
 ·rw [h1]; exact ⟨h2, h3⟩
 rw [h1]
 refine ⟨hlo b h1, (r.rng id b (by rw [ho]; simp) h1).1, c, cur, h6, h2, h3, h4, h5, fun i e j x he hx => ?_⟩
 obtain ⟨v, rfl, hv⟩ := Apo he hx
 obtain ⟨u', k1, k2⟩ := h7 i e j _ he hx
 cases k2 with
 | lit v h => exact ⟨v, rfl, h, k1⟩
theorem Aiq (l : List Em) (hne : l ≠ []) (hl : l.length <= 3) (hg : ∀ r ∈ l, r.legs.length <= 1000000) : PP 168 [] [.mReq l, .fn 193 []] (G7 l) (.bsl 0 l.length) := by
 refine Aqj Tryz.func168 rfl rfl rfl (by simp [Tryz.ntmps168]) ?_
 rintro E F ⟨hn, hE0⟩ hF hds β a w r
 have hE : ∀ id, E.o0 id = .gone := fun id => hE0 id (Ae _)
 have hn : E.n = 24 := hn
 refine Ll hF hds (by rw [hn]; rfl) r fun K1 hK1 => ?_
 simp [go_sem]
 refine hK1 _ ?_; clear hK1
 intro β1 a1 w1 r1 f1
 refine Ll hF hds (by rw [hn]; rfl) r1 fun K1 hK1 => ?_
 simp [go_sem]
 refine hK1 _ ?_; clear hK1
 intro β2 a2 w2 r2 f2
 refine wpIn_seq ?_
 refine Ll hF hds (by rw [hn]; rfl) r2 fun K1 hK1 => ?_
 simp [go_sem]
 refine hK1 _ ?_; clear hK1
 intro β3 a3 w3 r3 f3
 refine wpIn_block ?_
 have r4 := (r3.own0 5 164 5 (by decide) (k' := 5) (by simp [go_sem])).weakE (sel := [0]) (st' := Adb l 0 []) (by
  refine Ds (by decide) ?_ ?_
  ·repeat' (first | exact .nil | refine .cons (by simp [go_sem]) ?_)
  repeat' (first | exact .nil | refine .cons (by simp [go_sem, Gt]) ?_)) (fun id h => absurd (hE id) h)
 clear r r1 r2 r3 f1 f2 f3
 refine Aeb (fun z a w => ∃ i us bs β, i <= l.length /\ z = l.length - i /\ us.length = i /\ Rel E β (Adb l i us) a w /\ Ar8 E.w0.heap.size w (l.take i) us bs /\ ∀ b j : Nat, β 0 = some b -> bs[j]? ≠ some (some b)) l.length ⟨0, [], [], _, Ae _, rfl, rfl, r4, ⟨rfl, fun j r u b h => by simp at h, fun i j b _ h => by simp at h⟩, fun b j _ h => by simp at h⟩ ?_
 clear r4
 rintro z a w ⟨i, us, bs, β, hi, hz, hus, r, hf, hb0⟩
 refine Ll hF hds (by rw [hn]; rfl) r fun K1 hK1 => ?_
 simp [go_sem, Adb]
 refine hK1 _ ?_; clear hK1
 intro β1 a1 w1 r1 f1
 refine wpIn_seq ?_
 refine Amq r1 (by simp [go_sem]) (by simp [go_sem]) (fun h11 => ?_) (fun h11 => ?_) <;> simp [go_sem] at h11
 ·
  refine wpIn_skip ?_
  have hx : l[i]? = some l[i] := Aa (by omega)
  generalize l[i] = e at hx
  have ht : List.take (i + 1) l = List.take i l ++ [e] := by rw [List.take_add_one, hx]; rfl
  have hi4 : i < 4 := by omega
  have hlr : (Gt (l.take i) us).length = i := by rw [Um _ _ (by simp; omega)]; simp; omega
  refine wpIn_seq ?_
  refine wpIn_block ?_
  refine Ll hF hds (by rw [hn]; rfl) r1 fun K1 hK1 => ?_
  simp [go_sem, hx]
  repeat' with_reducible refine Ax ?_ ?_
  all_goals try (intros; (repeat' refine Ax ?_ ?_) <;> omega)
  refine hK1 _ ?_; clear hK1
  intro β2 a2 w2 r2 f2
  refine Ll hF hds (by rw [hn]; rfl) r2 fun K1 hK1 => ?_
  simp [go_sem]
  refine .lo (Jy e) (by simp [go_sem]) (by simp [AV.cln, Ez]) ?_
  simp [go_sem]
  refine hK1 _ ?_; clear hK1
  intro β3 a3 w3 r3 f3
  refine Amq r3 (by simp [go_sem]) (by simp [go_sem]) (fun h16 => ?_) (fun h16 => ?_) <;> simp [go_sem] at h16
  refine Aig hF hds 3 (by rw [hn]; rfl) r3 fun K1 hK1 => ?_
  simp [go_sem]
  refine .l (Xb e (hg e (Ac hx))) ?_
  simp [go_sem]
  refine hK1 _ ?_; clear hK1
  intro β4 a4 w4 r4 f4
  have hv := r4.sl 19
  simp only [El] at hv
  obtain ⟨u, hu1, hu2⟩ := Ate (cs := [_, _, _, _]) hv
  have r4' := r4.say1 19 hu2
  cases hu1 with
  | own _ _ _ hu1 =>
  have h1u := hu1.1
  refine Zp hF hds (by rw [hn]; rfl) r4' fun K1 hK1 => ?_
  simp [go_sem, h1u, hlr]
  repeat' with_reducible refine Ax ?_ ?_
  all_goals try exact h1u
  all_goals try (intros; (repeat' refine Ax ?_ ?_) <;> omega)
  refine hK1 _ ?_; clear hK1
  intro β5 a5 w5 r5 f5
  refine Apb hF hds (by rw [hn]; rfl) r5 fun K1 hK1 => ?_
  simp [go_sem]
  refine hK1 _ ?_; clear hK1
  intro β6 a6 w6 r6 f6
  have g12 := f1.grew.trans f2.grew
  have g13 := g12.trans f3.grew
  have g14 := g13.trans f4.grew
  have g15 := g14.trans2 f5.grew rfl
  have g := g15.trans f6.grew
  have hown : ∀ (b : Nat), Own β (Adb l i us) b -> β 0 = some b := fun b ⟨id, h1, h2⟩ => by
   cases id with
   | zero => exact h2
   | succ id => exact absurd rfl h1
  have ho6 : β6 2 = β4 2 := (f6.row 2 166 5 _ _ (He e.legs) _ _ (He e.legs) rfl rfl rfl).trans (f5.row 2 166 5 _ _ (He e.legs) _ _ (He e.legs) rfl rfl rfl)
  have hv5 := f5.keep 2 166 5 _ _ (He e.legs) _ _ (He e.legs) _ _ rfl rfl rfl hu1
  have hv6 := f6.keep 2 166 5 _ _ (He e.legs) _ _ (He e.legs) _ _ rfl rfl rfl hv5
  have hnew : ∀ b, β4 2 = some b -> w.heap.size <= b := fun b hb => by
   rcases f4.rng b ⟨2, by simp [St.o], hb⟩ with h | ⟨id, h1, h2⟩
   ·exact Ak g13.kp.size h
   exfalso
   match id, h1, h2 with
   | 0, h1, h2 =>
    have := f4.row 0 164 5 _ _ (Gt (l.take i) us) _ _ (Gt (l.take i) us) rfl rfl rfl
    have := r4.inj 0 2 b (by simp [St.o]) (by simp [St.o]) (by rw [this]; exact h2) hb
    omega
   | 1, h1, h2 =>
    have := f4.box 1 164 _ rfl
    have := r4.inj 1 2 b (by simp [St.o]) (by simp [St.o]) (by rw [this]; exact h2) hb
    omega
   | id + 2, h1, h2 => exact h1 rfl
  have hleg := As0 (lo := E.w0.heap.size) r6 (id := 2) (q := e) rfl hv6 (fun b hb => by
   rw [ho6] at hb
   exact Ak r.kp.size (hnew b hb))
  have hold : ∀ (j b : Nat), bs[j]? = some (some b) -> b < w.heap.size /\ w6.heap[b]? = w.heap[b]? := fun j b hj => by
   have h1 := (Ab.1 hj).1
   rw [hf.len] at h1
   have h2 : us[j]? = some us[j] := Aa h1
   have h3' : j < (l.take i).length := by simp; omega
   have h3 : (l.take i)[j]? = some (l.take i)[j] := Aa h3'
   have h4 := hf.leg j _ _ _ h3 h2 hj
   refine ⟨h4.2.2.1, g.kp.block b h4.2.2.1 fun h => ?_⟩
   exact hb0 b j (hown b h) hj
  refine ⟨z - 1, by omega, i + 1, us ++ [u], bs ++ [β6 2], _, by omega, by omega, by simp [hus], r6.weakE (sel := [0]) (st' := Adb l (i + 1) (us ++ [u])) (Ds (by decide) ?_ ?_) (fun id h => absurd (hE id) h), ⟨by simp [hf.len], ?_, ?_⟩, ?_⟩
  ·repeat' (first | exact .nil | refine .cons (by simp [go_sem, Dt ((i : Int) + 1)]) ?_)
  ·refine .cons ?_ .nil
   rw [ht, Ajj _ _ _ _ (by simp; omega)]
   simp [go_sem, Acw]
  ·intro j r' u' b h1 h2 h3
   by_cases hj : j < i
   ·have hj2 : j < us.length := by omega
    have hj3 : j < bs.length := by rw [hf.len]; omega
    rw [Au hj2] at h2
    rw [Au hj3] at h3
    rw [ht, Au (by simp; omega)] at h1
    exact (hf.leg j r' u' b h1 h2 h3).kept g.kp.size fun b' hb' => by
     subst hb'
     exact (hold j b' h3).2
   have hj2 : j = i := by
    have := (Ab.1 h2).1
    simp at this; omega
   subst hj2
   rw [Ao (by omega), show j - us.length = 0 by omega] at h2
   rw [Ao (by rw [hf.len]; omega), show j - bs.length = 0 by rw [hf.len]; omega] at h3
   rw [ht, Ao (by simp; omega), show j - (l.take j).length = 0 by simp; omega] at h1
   simp at h1 h2 h3
   subst h1 h2 h3
   exact hleg
  ·intro i' j b hij h1 h2
   have hj2 := (Ab.1 h2).1
   have hbl := hf.len
   simp at hj2
   rw [Au (by omega)] at h1
   by_cases hj : j < bs.length
   ·rw [Au hj] at h2
    exact hf.apart i' j b hij h1 h2
   rw [Ao (by omega), show j - bs.length = 0 by omega] at h2
   simp at h2
   rw [ho6] at h2
   have := hnew b h2
   have := (hold i' b h1).1
   omega
  intro b j h1 h2
  have h1 : β6 0 = some b := h1
  have hj2 := (Ab.1 h2).1
  have hbl := hf.len
  simp at hj2
  by_cases hj : j < bs.length
  ·rw [Au hj] at h2
   rcases g.rng b ⟨0, by simp [St.o], h1⟩ with h | h
   ·have := (hold j b h2).1
    omega
   exact hb0 b j (hown b h) h2
  rw [Ao (by omega), show j - bs.length = 0 by omega] at h2
  simp at h2
  have := r6.inj 0 2 b (by simp [St.o]) (by simp [St.o]) h1 h2
  omega
 -- the end
 have hi : i = l.length := by omega
 subst hi
 refine wpIn_exit ?_
 refine Ll (y := .ret) hF hds (by rw [hn]; rfl) r1 fun K1 hK1 => ?_
 simp [go_sem]
 refine hK1 _ ?_; clear hK1
 intro β2 a2 w2 r2 f2
 rw [List.take_length] at hf
 have g : Ae7 β (Adb l l.length us) w β2 _ w2 := f1.grew.trans f2.grew
 have hβ2 : β2 0 = β 0 := (f2.row 0 164 5 _ _ (Gt (l.take l.length) us) _ _ (Gt l us) rfl rfl (by rw [List.take_length])).trans (f1.row 0 164 5 _ _ (Gt (l.take l.length) us) _ _ (Gt (l.take l.length) us) rfl rfl rfl)
 have hown : ∀ (b : Nat), Own β (Adb l l.length us) b -> β 0 = some b := fun b ⟨id, h1, h2⟩ => by
  cases id with
  | zero => exact h2
  | succ id => exact absurd rfl h1
 have hf2 : Ar8 E.w0.heap.size w2 l us bs := ⟨hf.len, fun j r' u b h1 h2 h3 => (hf.leg j r' u b h1 h2 h3).kept g.kp.size fun b' hb' => by
  subst hb'
  exact g.kp.block b' (hf.leg j r' u _ h1 h2 h3).2.2.1 fun h => hb0 b' j (hown b' h) h3, hf.apart⟩
 have r3 := r2.weakE (sel := [0]) (st' := ⟨[(4, .own 0 l.length)], [.row 164 5 true false (Gt l us)]⟩) (Ds (by decide) (by
  repeat' (first | exact .nil | refine .cons (by simp [go_sem]) ?_)) (by
  repeat' (first | exact .nil | refine .cons (by simp [go_sem]) ?_))) (fun id h => absurd (hE id) h)
 obtain ⟨β4, r4⟩ := r3.deep hE hne hus hf2 fun b j h => hb0 b j (by rw [<- hβ2]; exact h)
 refine wpIn_ret ⟨E, _, β4, G4.refl E, ?_, r4⟩
 clear r4 r3 r2 r1 r f1 f2 hf2 hf g hown hβ2 hb0 hus hz hg h11
 match l, hl, hne with
 | [], _, hne => exact absurd rfl hne
 | [q0], _, _ =>
  refine Ry [0, 1] (by simp [go_sem]) (by decide) (by simp) (by simp [go_sem]) ?_
  simp only [G7, Fv, Ip, List.map]
  repeat' (first | exact .nil | refine .cons (by simp [go_sem]) ?_)
 | [q0, q1], _, _ =>
  refine Ry [0, 1, 2] (by simp [go_sem]) (by decide) (by simp) (by simp [go_sem]) ?_
  simp only [G7, Fv, Ip, List.map]
  repeat' (first | exact .nil | refine .cons (by simp [go_sem]) ?_)
 | [q0, q1, q2], _, _ =>
  refine Ry [0, 1, 2, 3] (by simp [go_sem]) (by decide) (by simp) (by simp [go_sem]) ?_
  simp only [G7, Fv, Ip, List.map]
  repeat' (first | exact .nil | refine .cons (by simp [go_sem]) ?_)
 | _ :: _ :: _ :: _ :: l, h, _ => simp at h
theorem Lc (l : List Em) (hne : l ≠ []) (hl : l.length <= 3) (hg : ∀ r ∈ l, r.legs.length <= 1000000) : PP 171 [] [.mReq l] (G7 l) (.bsl 0 l.length) := by
 refine Eb Tryz.func171 ?_
 refine Bw ?_
 refine Bx (by rfl) fun K1 hK1 => ?_
 simp [go_sem]
 have hk := Aiq l hne hl hg
 match l, hl, hne, hk with
 | [], _, hne, _ => exact absurd rfl hne
 | [q0], _, _, hk =>
  refine .by hk (LeL.refl _) (by simp) ?_
  simp [go_sem, G7, Fv, Ip]
  refine hK1 _ ?_; clear hK1
  refine VW.ret (Ry [0, 1] (by simp [go_sem]) (by decide) (by simp) (by simp [go_sem]) ?_)
  simp only [G7, Fv, Ip, List.map]
  repeat' (first | exact .nil | refine .cons (by simp [go_sem]) ?_)
 | [q0, q1], _, _, hk =>
  refine .by hk (LeL.refl _) (by simp) ?_
  simp [go_sem, G7, Fv, Ip]
  refine hK1 _ ?_; clear hK1
  refine VW.ret (Ry [0, 1, 2] (by simp [go_sem]) (by decide) (by simp) (by simp [go_sem]) ?_)
  simp only [G7, Fv, Ip, List.map]
  repeat' (first | exact .nil | refine .cons (by simp [go_sem]) ?_)
 | [q0, q1, q2], _, _, hk =>
  refine .by hk (LeL.refl _) (by simp) ?_
  simp [go_sem, G7, Fv, Ip]
  refine hK1 _ ?_; clear hK1
  refine VW.ret (Ry [0, 1, 2, 3] (by simp [go_sem]) (by decide) (by simp) (by simp [go_sem]) ?_)
  simp only [G7, Fv, Ip, List.map]
  repeat' (first | exact .nil | refine .cons (by simp [go_sem]) ?_)
 | _ :: _ :: _ :: _ :: l, h, _, _ => simp at h
theorem Yg (q0 : Em) (now : Int) (hg : ∀ r ∈ [q0], r.legs.length <= 1000000) : Ct 150 [.imm false 5 (Gz [q0]), .li now] (fun d : List Em => .mReq d) (fun d => d.length = 1 /\ ∀ r ∈ d, r.legs.length <= 1000000) := by
 refine Ek Tryz.func150 ?_
 have hk := Lc [q0] (by simp) (by simp) hg
 have hg0 : q0.legs.length <= 1000000 := hg q0 (by simp)
 refine Bq ?_
 refine B3 (fun K kk => by simp [go_sem, G7, Fv, Ip]; refine .by hk (LeL.refl _) (by simp) ?_; simp [go_sem, G7, Fv, Ip]; exact kk) <| .seq ?_
 refine Bq <| .block ?_
 refine Bs 1 (fun i1 (y1 : List Gf) => ⟨[(1, .li now), (5, .bsl 0 1), (11, .bsl 0 1), (12, .li 1), (13, .li i1)], [.box 164 [.li q0.id, .li q0.veh, .li q0.cls, .li q0.unt, .own 1 q0.legs.length], .row 166 5 false false (He y1)]⟩) (fun i1 y1 => y1.length = q0.legs.length) q0.legs (wk ok0 [0, 1]) (rfl) fun i1 y1 hi1 hy1 => ?_
 refine Bq <| .seq ?_
 refine Br ?_ ?_ <;> intro h14
 ·
  refine Bp ?_
  have hi : i1 = 0 := by omega
  subst hi
  -- element 0
  refine Ca <| .block <| .H hy1 ?_
  refine Bu hy1 <| .block ?_
  refine Bs q0.legs.length (fun i2 (y2 : List Gf) => ⟨[(1, .li now), (5, .bsl 0 1), (7, .ptr 2 0), (11, .bsl 0 1), (12, .li 1), (13, .li 0), (19, .li q0.legs.length), (20, .li i2)], [.box 164 [.li q0.id, .li q0.veh, .li q0.cls, .li q0.unt, .own 1 q0.legs.length], .row 166 5 false false (He y2), .box 164 [.li q0.id, .li q0.veh, .li q0.cls, .li q0.unt, .own 1 q0.legs.length]]⟩) (fun i2 y2 => y2.length = q0.legs.length) y1 (wk hy1 [0, 1, 2]) hy1 fun i2 y2 hi2 hy2 => ?_
  refine Bq <| .seq ?_
  refine Br ?_ ?_ <;> intro h21
  ·refine Bp <| .seq <| .block <| .R ?_
   obtain ⟨e, hx⟩ : ∃ e, y2[i2]? = some e := ⟨_, Aa (by omega)⟩
   refine Co (cj2 hx hy2) (Jq e now) ?_
   refine Ci ?_
   refine ⟨by omega, y2.set i2 (Ku e now), ?_, [0, 1, 2], Ds (by decide) ?_ ?_, by simp⟩
   ·simpa using hy2
   ·simp [go_sem, Dt ((i2 : Int) + 1)]
   simp [go_sem, hy1, hy2, List.map_set]
  refine Bt <| .R1 ?_
  refine ⟨by omega, y2, ?_, [0, 1], Ds (by decide) ?_ ?_, by simp⟩
  ·exact hy2
  ·simp [go_sem, Dt (1 : Int)]
  simp [go_sem]
 -- the end
 refine Bt <| .R ?_
 refine B2 hy1 1 ?_
 refine C6 0 5 (Gz [{ q0 with legs := y1 }]) rfl rfl (by simp [Em.t]) (by simp) ?_
 simp [go_sem]
 refine Bz (Ex ?_); simp [go_sem]
 exact ⟨[{ q0 with legs := y1 }], rfl, ⟨rfl, by simp only [List.mem_cons, A8, or_false, forall_eq_or_imp, forall_eq]; (repeat' refine Ax ?_ ?_) <;> first | omega | (dsimp only; omega)⟩⟩
theorem Yf (q0 q1 : Em) (now : Int) (hg : ∀ r ∈ [q0, q1], r.legs.length <= 1000000) : Ct 150 [.imm false 5 (Gz [q0, q1]), .li now] (fun d : List Em => .mReq d) (fun d => d.length = 2 /\ ∀ r ∈ d, r.legs.length <= 1000000) := by
 refine Ek Tryz.func150 ?_
 have hk := Lc [q0, q1] (by simp) (by simp) hg
 have hg0 : q0.legs.length <= 1000000 := hg q0 (by simp)
 have hg1 : q1.legs.length <= 1000000 := hg q1 (by simp)
 refine Bq ?_
 refine B3 (fun K kk => by simp [go_sem, G7, Fv, Ip]; refine .by hk (LeL.refl _) (by simp) ?_; simp [go_sem, G7, Fv, Ip]; exact kk) <| .seq ?_
 refine Bq <| .block ?_
 refine Bs 2 (fun i1 (y1 : List Gf × List Gf) => ⟨[(1, .li now), (5, .bsl 0 2), (11, .bsl 0 2), (12, .li 2), (13, .li i1)], [.box 164 [.li q0.id, .li q0.veh, .li q0.cls, .li q0.unt, .own 1 q0.legs.length, .li q1.id, .li q1.veh, .li q1.cls, .li q1.unt, .own 2 q1.legs.length], .row 166 5 false false (He y1.1), .row 166 5 false false (He y1.2)]⟩) (fun i1 y1 => y1.1.length = q0.legs.length /\ y1.2.length = q1.legs.length) (q0.legs, q1.legs) (wk ok0 [0, 1, 2]) (⟨rfl, rfl⟩) fun i1 y1 hi1 hy1 => ?_
 refine Bq <| .seq ?_
 refine Br ?_ ?_ <;> intro h14
 ·
  refine Bp ?_
  have hi : i1 = 0 \/ i1 = 1 := by omega
  rcases hi with rfl | rfl
  ·
   refine Ca <| .block <| .H hy1 ?_
   refine Bu hy1 <| .block ?_
   refine Bs q0.legs.length (fun i2 (y2 : List Gf) => ⟨[(1, .li now), (5, .bsl 0 2), (7, .ptr 3 0), (11, .bsl 0 2), (12, .li 2), (13, .li 0), (19, .li q0.legs.length), (20, .li i2)], [.box 164 [.li q0.id, .li q0.veh, .li q0.cls, .li q0.unt, .own 1 q0.legs.length, .li q1.id, .li q1.veh, .li q1.cls, .li q1.unt, .own 2 q1.legs.length], .row 166 5 false false (He y2), .row 166 5 false false (He y1.2), .box 164 [.li q0.id, .li q0.veh, .li q0.cls, .li q0.unt, .own 1 q0.legs.length]]⟩) (fun i2 y2 => y2.length = q0.legs.length) y1.1 (wk hy1 [0, 1, 2, 3]) hy1.1 fun i2 y2 hi2 hy2 => ?_
   refine Bq <| .seq ?_
   refine Br ?_ ?_ <;> intro h21
   ·refine Bp <| .seq <| .block <| .R ?_
    obtain ⟨e, hx⟩ : ∃ e, y2[i2]? = some e := ⟨_, Aa (by omega)⟩
    refine Co (cj2 hx hy2) (Jq e now) ?_
    refine Ci ?_
    refine ⟨by omega, y2.set i2 (Ku e now), ?_, [0, 1, 2, 3], Ds (by decide) ?_ ?_, by simp⟩
    ·simpa using hy2
    ·simp [go_sem, Dt ((i2 : Int) + 1)]
    simp [go_sem, hy1, hy2, List.map_set]
   refine Bt <| .R1 ?_
   refine ⟨by omega, (y2, y1.2), ?_, [0, 1, 2], Ds (by decide) ?_ ?_, by simp⟩
   ·exact ⟨hy2, hy1.2⟩
   ·simp [go_sem, Dt (1 : Int)]
   simp [go_sem]
  -- element 1
  refine Ca <| .block <| .H hy1 ?_
  refine Bu hy1 <| .block ?_
  refine Bs q1.legs.length (fun i2 (y2 : List Gf) => ⟨[(1, .li now), (5, .bsl 0 2), (7, .ptr 3 0), (11, .bsl 0 2), (12, .li 2), (13, .li 1), (19, .li q1.legs.length), (20, .li i2)], [.box 164 [.li q0.id, .li q0.veh, .li q0.cls, .li q0.unt, .own 1 q0.legs.length, .li q1.id, .li q1.veh, .li q1.cls, .li q1.unt, .own 2 q1.legs.length], .row 166 5 false false (He y1.1), .row 166 5 false false (He y2), .box 164 [.li q1.id, .li q1.veh, .li q1.cls, .li q1.unt, .own 2 q1.legs.length]]⟩) (fun i2 y2 => y2.length = q1.legs.length) y1.2 (wk hy1 [0, 1, 2, 3]) hy1.2 fun i2 y2 hi2 hy2 => ?_
  refine Bq <| .seq ?_
  refine Br ?_ ?_ <;> intro h21
  ·refine Bp <| .seq <| .block <| .R ?_
   obtain ⟨e, hx⟩ : ∃ e, y2[i2]? = some e := ⟨_, Aa (by omega)⟩
   refine Co (cj2 hx hy2) (Jq e now) ?_
   refine Ci ?_
   refine ⟨by omega, y2.set i2 (Ku e now), ?_, [0, 1, 2, 3], Ds (by decide) ?_ ?_, by simp⟩
   ·simpa using hy2
   ·simp [go_sem, Dt ((i2 : Int) + 1)]
   simp [go_sem, hy1, hy2, List.map_set]
  refine Bt <| .R1 ?_
  refine ⟨by omega, (y1.1, y2), ?_, [0, 1, 2], Ds (by decide) ?_ ?_, by simp⟩
  ·exact ⟨hy1.1, hy2⟩
  ·simp [go_sem, Dt (2 : Int)]
  simp [go_sem]
 -- the end
 refine Bt <| .R ?_
 refine B2 hy1 1 ?_
 refine B2 hy1 2 ?_
 refine C6 0 5 (Gz [{ q0 with legs := y1.1 }, { q1 with legs := y1.2 }]) rfl rfl (by simp [Em.t]) (by simp) ?_
 simp [go_sem]
 refine Bz (Ex ?_); simp [go_sem]
 exact ⟨[{ q0 with legs := y1.1 }, { q1 with legs := y1.2 }], rfl, ⟨rfl, by simp only [List.mem_cons, A8, or_false, forall_eq_or_imp, forall_eq]; (repeat' refine Ax ?_ ?_) <;> first | omega | (dsimp only; omega)⟩⟩
theorem Ye (q0 q1 q2 : Em) (now : Int) (hg : ∀ r ∈ [q0, q1, q2], r.legs.length <= 1000000) : Ct 150 [.imm false 5 (Gz [q0, q1, q2]), .li now] (fun d : List Em => .mReq d) (fun d => d.length = 3 /\ ∀ r ∈ d, r.legs.length <= 1000000) := by
 refine Ek Tryz.func150 ?_
 have hk := Lc [q0, q1, q2] (by simp) (by simp) hg
 have hg0 : q0.legs.length <= 1000000 := hg q0 (by simp)
 have hg1 : q1.legs.length <= 1000000 := hg q1 (by simp)
 have hg2 : q2.legs.length <= 1000000 := hg q2 (by simp)
 refine Bq ?_
 refine B3 (fun K kk => by simp [go_sem, G7, Fv, Ip]; refine .by hk (LeL.refl _) (by simp) ?_; simp [go_sem, G7, Fv, Ip]; exact kk) <| .seq ?_
 refine Bq <| .block ?_
 refine Bs 3 (fun i1 (y1 : List Gf × List Gf × List Gf) => ⟨[(1, .li now), (5, .bsl 0 3), (11, .bsl 0 3), (12, .li 3), (13, .li i1)], [.box 164 [.li q0.id, .li q0.veh, .li q0.cls, .li q0.unt, .own 1 q0.legs.length, .li q1.id, .li q1.veh, .li q1.cls, .li q1.unt, .own 2 q1.legs.length, .li q2.id, .li q2.veh, .li q2.cls, .li q2.unt, .own 3 q2.legs.length], .row 166 5 false false (He y1.1), .row 166 5 false false (He y1.2.1), .row 166 5 false false (He y1.2.2)]⟩) (fun i1 y1 => y1.1.length = q0.legs.length /\ y1.2.1.length = q1.legs.length /\ y1.2.2.length = q2.legs.length) (q0.legs, q1.legs, q2.legs) (wk ok0 [0, 1, 2, 3]) (⟨rfl, rfl, rfl⟩) fun i1 y1 hi1 hy1 => ?_
 refine Bq <| .seq ?_
 refine Br ?_ ?_ <;> intro h14
 ·
  refine Bp ?_
  have hi : i1 = 0 \/ i1 = 1 \/ i1 = 2 := by omega
  rcases hi with rfl | rfl | rfl
  ·
   refine Ca <| .block <| .H hy1 ?_
   refine Bu hy1 <| .block ?_
   refine Bs q0.legs.length (fun i2 (y2 : List Gf) => ⟨[(1, .li now), (5, .bsl 0 3), (7, .ptr 4 0), (11, .bsl 0 3), (12, .li 3), (13, .li 0), (19, .li q0.legs.length), (20, .li i2)], [.box 164 [.li q0.id, .li q0.veh, .li q0.cls, .li q0.unt, .own 1 q0.legs.length, .li q1.id, .li q1.veh, .li q1.cls, .li q1.unt, .own 2 q1.legs.length, .li q2.id, .li q2.veh, .li q2.cls, .li q2.unt, .own 3 q2.legs.length], .row 166 5 false false (He y2), .row 166 5 false false (He y1.2.1), .row 166 5 false false (He y1.2.2), .box 164 [.li q0.id, .li q0.veh, .li q0.cls, .li q0.unt, .own 1 q0.legs.length]]⟩) (fun i2 y2 => y2.length = q0.legs.length) y1.1 (wk hy1 [0, 1, 2, 3, 4]) hy1.1 fun i2 y2 hi2 hy2 => ?_
   refine Bq <| .seq ?_
   refine Br ?_ ?_ <;> intro h21
   ·refine Bp <| .seq <| .block <| .R ?_
    obtain ⟨e, hx⟩ : ∃ e, y2[i2]? = some e := ⟨_, Aa (by omega)⟩
    refine Co (cj2 hx hy2) (Jq e now) ?_
    refine Ci ?_
    refine ⟨by omega, y2.set i2 (Ku e now), ?_, [0, 1, 2, 3, 4], Ds (by decide) ?_ ?_, by simp⟩
    ·simpa using hy2
    ·simp [go_sem, Dt ((i2 : Int) + 1)]
    simp [go_sem, hy1, hy2, List.map_set]
   refine Bt <| .R1 ?_
   refine ⟨by omega, (y2, y1.2.1, y1.2.2), ?_, [0, 1, 2, 3], Ds (by decide) ?_ ?_, by simp⟩
   ·exact ⟨hy2, hy1.2.1, hy1.2.2⟩
   ·simp [go_sem, Dt (1 : Int)]
   simp [go_sem]
  ·
   refine Ca <| .block <| .H hy1 ?_
   refine Bu hy1 <| .block ?_
   refine Bs q1.legs.length (fun i2 (y2 : List Gf) => ⟨[(1, .li now), (5, .bsl 0 3), (7, .ptr 4 0), (11, .bsl 0 3), (12, .li 3), (13, .li 1), (19, .li q1.legs.length), (20, .li i2)], [.box 164 [.li q0.id, .li q0.veh, .li q0.cls, .li q0.unt, .own 1 q0.legs.length, .li q1.id, .li q1.veh, .li q1.cls, .li q1.unt, .own 2 q1.legs.length, .li q2.id, .li q2.veh, .li q2.cls, .li q2.unt, .own 3 q2.legs.length], .row 166 5 false false (He y1.1), .row 166 5 false false (He y2), .row 166 5 false false (He y1.2.2), .box 164 [.li q1.id, .li q1.veh, .li q1.cls, .li q1.unt, .own 2 q1.legs.length]]⟩) (fun i2 y2 => y2.length = q1.legs.length) y1.2.1 (wk hy1 [0, 1, 2, 3, 4]) hy1.2.1 fun i2 y2 hi2 hy2 => ?_
   refine Bq <| .seq ?_
   refine Br ?_ ?_ <;> intro h21
   ·refine Bp <| .seq <| .block <| .R ?_
    obtain ⟨e, hx⟩ : ∃ e, y2[i2]? = some e := ⟨_, Aa (by omega)⟩
    refine Co (cj2 hx hy2) (Jq e now) ?_
    refine Ci ?_
    refine ⟨by omega, y2.set i2 (Ku e now), ?_, [0, 1, 2, 3, 4], Ds (by decide) ?_ ?_, by simp⟩
    ·simpa using hy2
    ·simp [go_sem, Dt ((i2 : Int) + 1)]
    simp [go_sem, hy1, hy2, List.map_set]
   refine Bt <| .R1 ?_
   refine ⟨by omega, (y1.1, y2, y1.2.2), ?_, [0, 1, 2, 3], Ds (by decide) ?_ ?_, by simp⟩
   ·exact ⟨hy1.1, hy2, hy1.2.2⟩
   ·simp [go_sem, Dt (2 : Int)]
   simp [go_sem]
  -- element 2
  refine Ca <| .block <| .H hy1 ?_
  refine Bu hy1 <| .block ?_
  refine Bs q2.legs.length (fun i2 (y2 : List Gf) => ⟨[(1, .li now), (5, .bsl 0 3), (7, .ptr 4 0), (11, .bsl 0 3), (12, .li 3), (13, .li 2), (19, .li q2.legs.length), (20, .li i2)], [.box 164 [.li q0.id, .li q0.veh, .li q0.cls, .li q0.unt, .own 1 q0.legs.length, .li q1.id, .li q1.veh, .li q1.cls, .li q1.unt, .own 2 q1.legs.length, .li q2.id, .li q2.veh, .li q2.cls, .li q2.unt, .own 3 q2.legs.length], .row 166 5 false false (He y1.1), .row 166 5 false false (He y1.2.1), .row 166 5 false false (He y2), .box 164 [.li q2.id, .li q2.veh, .li q2.cls, .li q2.unt, .own 3 q2.legs.length]]⟩) (fun i2 y2 => y2.length = q2.legs.length) y1.2.2 (wk hy1 [0, 1, 2, 3, 4]) hy1.2.2 fun i2 y2 hi2 hy2 => ?_
  refine Bq <| .seq ?_
  refine Br ?_ ?_ <;> intro h21
  ·refine Bp <| .seq <| .block <| .R ?_
   obtain ⟨e, hx⟩ : ∃ e, y2[i2]? = some e := ⟨_, Aa (by omega)⟩
   refine Co (cj2 hx hy2) (Jq e now) ?_
   refine Ci ?_
   refine ⟨by omega, y2.set i2 (Ku e now), ?_, [0, 1, 2, 3, 4], Ds (by decide) ?_ ?_, by simp⟩
   ·simpa using hy2
   ·simp [go_sem, Dt ((i2 : Int) + 1)]
   simp [go_sem, hy1, hy2, List.map_set]
  refine Bt <| .R1 ?_
  refine ⟨by omega, (y1.1, y1.2.1, y2), ?_, [0, 1, 2, 3], Ds (by decide) ?_ ?_, by simp⟩
  ·exact ⟨hy1.1, hy1.2.1, hy2⟩
  ·simp [go_sem, Dt (3 : Int)]
  simp [go_sem]
 -- the end
 refine Bt <| .R ?_
 refine B2 hy1 1 ?_
 refine B2 hy1 2 ?_
 refine B2 hy1 3 ?_
 refine C6 0 5 (Gz [{ q0 with legs := y1.1 }, { q1 with legs := y1.2.1 }, { q2 with legs := y1.2.2 }]) rfl rfl (by simp [Em.t]) (by simp) ?_
 simp [go_sem]
 refine Bz (Ex ?_); simp [go_sem]
 exact ⟨[{ q0 with legs := y1.1 }, { q1 with legs := y1.2.1 }, { q2 with legs := y1.2.2 }], rfl, ⟨rfl, by simp only [List.mem_cons, A8, or_false, forall_eq_or_imp, forall_eq]; (repeat' refine Ax ?_ ?_) <;> first | omega | (dsimp only; omega)⟩⟩
end Go.Proofs.YtkkimgjinbaemaaGreat
