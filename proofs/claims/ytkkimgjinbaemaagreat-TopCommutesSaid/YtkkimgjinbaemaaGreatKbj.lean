/- The walk. -/
import Derived.Test.YtkkimgjinbaemaaGreatKbd
namespace Go.Proofs.YtkkimgjinbaemaaGreat
open Go.RowKit
set_option linter.unusedVariables false
set_option linter.unusedSimpArgs false
set_option maxRecDepth 100000
set_option maxHeartbeats 4000000
def Ag4 (φ : AV -> AV) : Ob -> Ob
 | .box ty cs => .box ty (cs.map φ)
 | x => x
def Ak6 (φ : AV -> AV) : List (Nat × AV) -> List (Nat × AV)
 | [] => []
 | p :: l => (p.1, φ p.2) :: Ak6 φ l
theorem Ac5 {φ : AV -> AV} (h : φ .any = .any) : ∀ (l : List (Nat × AV)) (t : Nat), Ce (Ak6 φ l) t = φ (Ce l t)
 | [], t => h.symm
 | p :: l, t => by
  simp only [Ak6, Ce]
  cases p.1 == t
  ·exact Ac5 h l t
  rfl
def Xn (φ : AV -> AV) : List Ob -> List Ob
 | [] => []
 | x :: l => Ag4 φ x :: Xn φ l
theorem Ac2 (φ : AV -> AV) : ∀ (l : List Ob) (i : Nat), (Xn φ l).getD i .gone = Ag4 φ (l.getD i .gone)
 | [], i => by simp [Xn, Ag4]
 | x :: l, 0 => by simp [Xn]
 | x :: l, i + 1 => by have := Ac2 φ l i; simp [Xn] at this ⊢; exact this
def St.remap (st : St) (φ : AV -> AV) (id : Nat) (x : Ob) : St := ⟨Ak6 φ st.sl, Ly (Xn φ st.ob) id x⟩
theorem Oa (st : St) (φ : AV -> AV) (id : Nat) (x : Ob) (i : Nat) : (st.remap φ id x).o i = if i = id then x else Ag4 φ (st.o i) := by
 show (Ly (Xn φ st.ob) id x).getD i .gone = _
 rw [R4, Ac2]
 rfl
theorem Wl {φ : AV -> AV} {o : Ob} : (Ag4 φ o).live <-> o.live := by cases o <;> exact Iff.rfl
theorem Rel.remap {E : Ent} {β : Nat -> Option Nat} {st : St} {a : Act} {w : World} (r : Rel E β st a w) {φ : AV -> AV} (hany : φ .any = .any) {id : Nat} {x : Ob} (hng : st.o id ≠ .gone) (hlv : x.live -> (st.o id).live) (hE : E.o0 id = .gone)
 (hV : ∀ (c : AV) (u : Value), Br (E.C β st w) c u -> Br (E.C β (st.remap φ id x) w) (φ c) u) (hO : Hi (E.C β (st.remap φ id x) w) id x) : Rel E β (st.remap φ id x) a w := by
 have hS : ∀ fr b, (E.C β st w).S fr b -> (E.C β (st.remap φ id x) w).S fr b := fun fr b ⟨h1, h2, h3⟩ => ⟨h1, fun ⟨i, g1, g2⟩ => h2 ⟨i, g1, by
  have g2 : ((st.remap φ id x).o i).live := g2
  rw [Oa] at g2
  show (st.o i).live
  by_cases e : i = id
  ·rw [if_pos e] at g2; rw [e]; exact hlv g2
  rw [if_neg e] at g2; exact Wl.1 g2⟩, h3⟩
 have hT : ∀ fr t u, Do w.heap ((E.C β st w).S fr) t u -> Do w.heap ((E.C β (st.remap φ id x) w).S fr) t u := fun fr t u h => h.keep (fun _ _ => rfl) (hS fr)
 have hg : ∀ i, (st.remap φ id x).o i ≠ .gone -> st.o i ≠ .gone := fun i h e => by
  rw [Oa] at h
  by_cases e' : i = id
  ·subst e'; exact hng e
  rw [if_neg e', e] at h; exact h rfl
 refine ⟨r.sz, fun t => ?_, r.df, fun i => ?_, fun i j b hi hj => r.inj i j b (hg i hi) (hg j hj), fun i b hi => r.rng i b (hg i hi), r.kp, ⟨fun i ty' cs' h => ?_, fun i ty' k fr fz es h => ?_⟩, r.kb, r.dk⟩
 ·show Br _ (Ce (Ak6 φ st.sl) t) _
  rw [Ac5 hany]
  exact hV _ _ (r.sl t)
 ·by_cases e : i = id
  ·rw [Oa, if_pos e, e]; exact hO
  rw [Oa, if_neg e]
  have := r.ob i
  cases hq : st.o i with
  | gone => trivial
  | row ty' k fr fz es =>
   rw [hq] at this
   obtain ⟨h1, h2⟩ := this
   refine ⟨h1, ?_⟩
   cases hb : (E.C β (st.remap φ id x) w).β i with
   | none =>
    have hb : β i = none := hb
    have h2 : (match β i with | none => es = [] | some b => _) := h2
    rw [hb] at h2; exact h2
   | some b =>
    have hb : β i = some b := hb
    have h2 : (match β i with | none => es = [] | some b => _) := h2
    rw [hb] at h2
    obtain ⟨cur, c, g1, g2, g3, g4, g5⟩ := h2
    exact ⟨cur, c, g1, g2, g3, g4, fun i e j x he hx => let ⟨u, p1, p2⟩ := g5 i e j x he hx; ⟨u, p1, hT _ _ _ p2⟩⟩
  | box ty' cs' =>
   rw [hq] at this
   obtain ⟨b, cur, g1, g2, g3, g4⟩ := this
   refine ⟨b, cur, g1, g2, by rw [A2]; exact g3, fun j c u hc hu => ?_⟩
   rw [Ap] at hc
   cases hx : cs'[j]? with
   | none => rw [hx] at hc; cases hc
   | some x =>
    rw [hx] at hc
    simp only [Ai, Option.some.injEq] at hc
    subst hc
    exact ⟨hV _ _ (g4 j x u hx hu).1, (g4 j x u hx hu).2⟩
 ·obtain ⟨⟨cs2, h1⟩, h2⟩ := r.ct.box i ty' cs' h
  have e : i ≠ id := fun e => by subst e; rw [hE] at h; cases h
  have h1 : st.o i = _ := h1
  exact ⟨⟨_, by show (st.remap φ id x).o i = _; rw [Oa, if_neg e, h1]; rfl⟩, h2⟩
 obtain ⟨fr', fz', es', h1, h2⟩ := r.ct.row i ty' k fr fz es h
 have e : i ≠ id := fun e => by subst e; rw [hE] at h; cases h
 have h1 : st.o i = _ := h1
 exact ⟨fr', fz', es', by show (st.remap φ id x).o i = _; rw [Oa, if_neg e, h1]; rfl, h2⟩
def L7 (fr : Bool) : List (List T) -> List AV
 | [] => []
 | e :: es => e.map (T.av fr) ++ L7 fr es
theorem Vj {fr : Bool} {k : Nat} : ∀ {es : List (List T)}, (∀ (i : Nat) (e : List T), es[i]? = some e -> e.length = k) -> (L7 fr es).length = es.length * k
 | [], _ => by simp [L7]
 | e :: es, h => by
  have h0 := h 0 e rfl
  have := Vj (fr := fr) (es := es) fun i e' he => h (i + 1) e' he
  simp [L7, h0, this, Be]; omega
theorem Adc {fr : Bool} {k : Nat} : ∀ {es : List (List T)}, (∀ (i : Nat) (e : List T), es[i]? = some e -> e.length = k) -> ∀ {p : Nat} {c : AV}, (L7 fr es)[p]? = some c -> ∃ (i : Nat) (e : List T) (j : Nat) (x : T), es[i]? = some e /\ e[j]? = some x /\ p = i * k + j /\ c = T.av fr x
 | [], _, p, c, h => by simp [L7] at h
 | e :: es, h0, p, c, h => by
  have hl : (e.map (T.av fr)).length = k := by rw [A2]; exact h0 0 e rfl
  by_cases hp : p < k
  ·simp only [L7] at h
   rw [Au (by omega), Ap] at h
   cases hx : e[p]? with
   | none => rw [hx] at h; cases h
   | some x =>
    rw [hx] at h
    simp only [Ai, Option.some.injEq] at h
    exact ⟨0, e, p, x, rfl, hx, by omega, h.symm⟩
  simp only [L7] at h
  rw [Ao (by omega), hl] at h
  obtain ⟨i, e', j, x, h1, h2, h3, h4⟩ := Adc (es := es) (fun i e' he => h0 (i + 1) e' he) h
  exact ⟨i + 1, e', j, x, h1, h2, by rw [Be]; omega, h4⟩
mutual
def AV.tb (id n0 : Nat) : AV -> AV
 | .own i n => bif i == id then (bif n == n0 then .bsl i n else .any) else .own i n
 | .sub i n lo m => bif i == id then .any else .sub i n lo m
 | .rptr i n j off => bif i == id then .any else .rptr i n j off
 | .agg cs => .agg (tbL id n0 cs)
 | .tup cs => .tup (tbL id n0 cs)
 | .fn f cs => .fn f (tbL id n0 cs)
 | .gd t v => .gd t (v.tb id n0)
 | .any => .any
 | .lit v => .lit v
 | .nil k => .nil k
 | .imm fr k es => .imm fr k es
 | .ptr i off => .ptr i off
 | .bsl i n => .bsl i n
 | .iptr fr cs off => .iptr fr cs off
def tbL (id n0 : Nat) : List AV -> List AV
 | [] => []
 | c :: cs => c.tb id n0 :: tbL id n0 cs
end
theorem Aea (id n0 : Nat) : ∀ (cs : List AV), tbL id n0 cs = cs.map (AV.tb id n0)
 | [] => rfl
 | c :: cs => by simp [tbL, Aea id n0 cs]
def St.toBox (st : St) (id : Nat) : St := st.remap (AV.tb id (Ik (st.o id)).length) id (.box (U5 (st.o id)) (L7 (Ak0 (st.o id)) (Ik (st.o id))))
theorem Mz {α β : Type} {φ : α -> β} {l : List α} {i : Nat} {c : β} (h : (l.map φ)[i]? = some c) : ∃ x, l[i]? = some x /\ c = φ x := by
 rw [Ap] at h
 cases hx : l[i]? with
 | none => rw [hx] at h; cases h
 | some x =>
  rw [hx] at h
  simp only [Ai, Option.some.injEq] at h
  exact ⟨x, rfl, h.symm⟩
theorem Rel.toBox {E : Ent} {β : Nat -> Option Nat} {st : St} {a : Act} {w : World} (r : Rel E β st a w) {id : Nat} {ty k : Nat} {fr : Bool} {es : List (List T)} (ho : st.o id = .row ty k fr false es) (hne : es ≠ []) (hE : E.o0 id = .gone) : Rel E β (st.toBox id) a w := by
 have hdef : st.toBox id = st.remap (AV.tb id es.length) id (.box ty (L7 fr es)) := by unfold St.toBox; rw [ho]; rfl
 rw [hdef]
 generalize hst' : st.remap (AV.tb id es.length) id (.box ty (L7 fr es)) = st'
 have hob : ∀ i, st'.o i = if i = id then .box ty (L7 fr es) else Ag4 (AV.tb id es.length) (st.o i) := fun i => by rw [<- hst', Oa]
 have hS : ∀ f b, (E.C β st w).S f b -> (E.C β st' w).S f b := fun f b ⟨h1, h2, h3⟩ => ⟨h1, fun ⟨i, g1, g2⟩ => h2 ⟨i, g1, by
  have g2 : (st'.o i).live := g2
  rw [hob] at g2
  show (st.o i).live
  by_cases e : i = id
  ·rw [e, ho]; rfl
  rw [if_neg e] at g2; exact Wl.1 g2⟩, h3⟩
 have hT : ∀ f t u, Do w.heap ((E.C β st w).S f) t u -> Do w.heap ((E.C β st' w).S f) t u := fun f t u h => h.keep (fun _ _ => rfl) (hS f)
 obtain ⟨hk, hel, hcell⟩ := r.row_cells ho
 obtain ⟨b, cur, c0, q1, q2, q3, q4, q5, q6⟩ : ∃ b cur c, β id = some b /\ w.heap[b]? = some (.cells cur ty (0, 0)) /\ cur.size = c * k /\ es.length <= c /\ c <= maxLen /\ ∀ (i : Nat) (e : List T) (j : Nat) (x : T), es[i]? = some e -> e[j]? = some x -> ∃ u, cur[i * k + j]? = some u /\ Do w.heap ((E.C β st w).S fr) x u := by
  rcases hcell with ⟨_, h⟩ | ⟨b, cur, c, h⟩
  ·exact absurd h hne
  exact ⟨b, cur, c, h⟩
 have hrow : ∀ i ty' k fr fz es', i ≠ id -> st.o i = .row ty' k fr fz es' -> st'.o i = .row ty' k fr fz es' := fun i ty' k fr fz es' e h => by
  rw [hob, if_neg e, h]; rfl
 have hbox : ∀ i ty' cs, st.o i = .box ty' cs -> st'.o i = .box ty' (cs.map (AV.tb id es.length)) := fun i ty' cs h => by
  rw [hob, if_neg (fun e => by subst e; rw [ho] at h; cases h), h]; rfl
 have hL : ∀ (cs : List AV) (us : Array Value), (∀ (i : Nat) (c : AV) (u : Value), cs[i]? = some c -> us[i]? = some u -> Br (E.C β st' w) (c.tb id es.length) u) -> ∀ (i : Nat) (c : AV) (u : Value), (tbL id es.length cs)[i]? = some c -> us[i]? = some u -> Br (E.C β st' w) c u := fun cs us ih i c u hc hu => by
  rw [Aea] at hc
  obtain ⟨x, hx, rfl⟩ := Mz hc
  exact ih i x u hx hu
 have hLl : ∀ cs : List AV, (tbL id es.length cs).length = cs.length := fun cs => by rw [Aea, A2]
 have hV : ∀ (c : AV) (u : Value), Br (E.C β st w) c u -> Br (E.C β st' w) (c.tb id es.length) u := by
  intro c u h
  induction h with
  | any u => exact .any u
  | lit v => exact .lit v
  | nil k A => exact .nil k A
  | imm fr k es u h => exact .imm _ _ _ _ (hT fr _ _ h)
  | own i n u h =>
   by_cases e : i = id
   ·subst e
    by_cases en : n = es.length
    ·simp only [AV.tb, beq_self_eq_true, cond_true, show (n == es.length) = true by simpa using en]
     rcases r.own_val ho h en with ⟨_, he, _⟩ | ⟨b', cur', c, hb, _, _, g3, _, rfl, _⟩
     ·exact absurd he hne
     exact .bsl _ _ _ ⟨ty, _, b', c, by show st'.o i = _; rw [hob, if_pos rfl], hb, by rw [en], by omega⟩
    simp only [AV.tb, beq_self_eq_true, cond_true, show (n == es.length) = false by simpa using en, cond_false]
    exact .any _
   simp only [AV.tb, show (i == id) = false by simpa using e, cond_false]
   obtain ⟨h1, ty', k, fr, fz, es, h2, h3⟩ := h
   exact .own i n u ⟨h1, ty', k, fr, fz, es, hrow _ _ _ _ _ _ e h2, h3⟩
  | sub i n lo m u h =>
   by_cases e : i = id
   ·simp only [AV.tb, show (i == id) = true by simpa using e, cond_true]; exact .any _
   simp only [AV.tb, show (i == id) = false by simpa using e, cond_false]
   obtain ⟨h1, ty', k, fr, fz, es, h2, h3⟩ := h
   exact .sub i n lo m u ⟨h1, ty', k, fr, fz, es, hrow _ _ _ _ _ _ e h2, h3⟩
  | rptr i n j off u h =>
   by_cases e : i = id
   ·simp only [AV.tb, show (i == id) = true by simpa using e, cond_true]; exact .any _
   simp only [AV.tb, show (i == id) = false by simpa using e, cond_false]
   obtain ⟨h1, ty', k, fr, fz, es, h2, h3⟩ := h
   exact .rptr i n j off u ⟨h1, ty', k, fr, fz, es, hrow _ _ _ _ _ _ e h2, h3⟩
  | ptr i off u h =>
   obtain ⟨ty', cs', b', h1, h2, h3⟩ := h
   exact .ptr i off _ ⟨ty', _, b', hbox _ _ _ h1, h2, h3⟩
  | bsl i n u h =>
   obtain ⟨ty', cs', b', c', h1, h2, h3⟩ := h
   exact .bsl i n _ ⟨ty', _, b', c', hbox _ _ _ h1, h2, h3⟩
  | iptr fr cs off b o cur ty fz us h1 h2 h3 => exact .iptr fr cs off b o cur ty fz us h1 (hS fr b h2) fun j x hx => ⟨(h3 j x hx).1, hT fr _ _ (h3 j x hx).2⟩
  | agg cs us h1 h2 ih => exact .agg _ _ (by rw [hLl]; exact h1) (hL cs us ih)
  | tup cs us h1 h2 ih => exact .tup _ _ (by rw [hLl]; exact h1) (hL cs us ih)
  | fn f cs us h1 h2 ih => exact .fn f _ _ (by rw [hLl]; exact h1) (hL cs us ih)
  | gd t v u h1 h2 ih => exact .gd t _ u (fun e => ih e) h2
 have hO : Hi (E.C β st' w) id (.box ty (L7 fr es)) := by
  refine ⟨b, cur, q1, q2, ?_, fun p c u hc hu => ?_⟩
  ·rw [Vj hel, q3]; exact A1 k q4
  obtain ⟨i, e, j, x, h1, h2, rfl, rfl⟩ := Adc hel hc
  obtain ⟨u', h3, h4⟩ := q6 i e j x h1 h2
  rw [hu] at h3
  injection h3 with h3
  subst h3
  exact ⟨T.rel (hT _ _ _ h4), h4.one⟩
 subst hst'
 exact r.remap rfl (by rw [ho]; simp) (fun _ => by rw [ho]; rfl) hE hV hO
section
variable {P : Program} {n m : Nat} {st : St} {K : Exit -> St -> Prop} {c : Code}
theorem VW.toBox (id : Nat) {ty k : Nat} {fr : Bool} {es : List (List T)} (ho : st.o id = .row ty k fr false es) (hne : es ≠ []) (hm : m <= id) (hv : VW P n m c (st.toBox id) K) : VW P n m c st K := fun E F hE hF β a w r =>
 hv E F hE hF β a w (r.toBox ho hne (hE.2 id hm))
theorem VX.toBox (id : Nat) {ty k : Nat} {fr : Bool} {es : List (List T)} (ho : st.o id = .row ty k fr false es) (hne : es ≠ []) (hm : m <= id) (hv : VX P n m c (st.toBox id) K) : VX P n m c st K := by
 obtain ⟨e, s, h1, h2⟩ := hv
 exact ⟨e, s, .toBox id ho hne hm h1, h2⟩
end
mutual
def AV.sb' (id k : Nat) (es : List (List T)) : AV -> AV
 | .bsl i n => bif i == id then (bif n == es.length then .imm false k es else .any) else .bsl i n
 | .ptr i off => bif i == id then .any else .ptr i off
 | .agg cs => .agg (sbL id k es cs)
 | .tup cs => .tup (sbL id k es cs)
 | .fn f cs => .fn f (sbL id k es cs)
 | .gd t v => .gd t (v.sb' id k es)
 | .any => .any
 | .lit v => .lit v
 | .nil k => .nil k
 | .imm fr k es => .imm fr k es
 | .own i n => .own i n
 | .sub i n lo m => .sub i n lo m
 | .rptr i n j off => .rptr i n j off
 | .iptr fr cs off => .iptr fr cs off
def sbL (id k : Nat) (es : List (List T)) : List AV -> List AV
 | [] => []
 | c :: cs => c.sb' id k es :: sbL id k es cs
end
theorem Aed (id k : Nat) (es : List (List T)) : ∀ (cs : List AV), sbL id k es cs = cs.map (AV.sb' id k es)
 | [] => rfl
 | c :: cs => by simp [sbL, Aed id k es cs]
def St.sealB (st : St) (id k : Nat) (es : List (List T)) : St := st.remap (AV.sb' id k es) id .gone
theorem Sh {k : Nat} : ∀ {es : List (List T)}, (∀ e ∈ es, e.length = k) -> ∀ {i j : Nat} {e : List T} {x : T}, es[i]? = some e -> e[j]? = some x -> es.flatten[i * k + j]? = some x
 | [], _, i, j, e, x, h, _ => by simp at h
 | e0 :: es, h0, 0, j, e, x, h, hx => by
  simp at h
  subst h
  have hj := (Ab.1 hx).1
  rw [List.flatten_cons, Nat.zero_mul, Bm, Au hj, hx]
 | e0 :: es, h0, i + 1, j, e, x, h, hx => by
  have hl : e0.length = k := h0 e0 (by simp)
  have h : es[i]? = some e := by simpa using h
  have := Sh (es := es) (fun e' he => h0 e' (by simp [he])) h hx
  rw [List.flatten_cons, Ao (by rw [hl, Be]; omega), hl, show (i + 1) * k + j - k = i * k + j by rw [Be]; omega]
  exact this
theorem Rel.sealB {E : Ent} {β : Nat -> Option Nat} {st : St} {a : Act} {w : World} (r : Rel E β st a w) {id : Nat} {ty : TypeId} {cs : List AV} {k : Nat} {es : List (List T)} (ho : st.o id = .box ty cs) (ht : ttL cs = some es.flatten) (hk : ∀ e ∈ es, e.length = k) (hE : E.o0 id = .gone) : Rel E β (st.sealB id k es) a w := by
 unfold St.sealB
 generalize hst' : st.remap (AV.sb' id k es) id .gone = st'
 have hob : ∀ i, st'.o i = if i = id then .gone else Ag4 (AV.sb' id k es) (st.o i) := fun i => by rw [<- hst', Oa]
 have hS : ∀ f b, (E.C β st w).S f b -> (E.C β st' w).S f b := fun f b ⟨h1, h2, h3⟩ => ⟨h1, fun ⟨i, g1, g2⟩ => h2 ⟨i, g1, by
  have g2 : (st'.o i).live := g2
  rw [hob] at g2
  show (st.o i).live
  by_cases e : i = id
  ·rw [if_pos e] at g2; exact g2.elim
  rw [if_neg e] at g2; exact Wl.1 g2⟩, h3⟩
 have hT : ∀ f t u, Do w.heap ((E.C β st w).S f) t u -> Do w.heap ((E.C β st' w).S f) t u := fun f t u h => h.keep (fun _ _ => rfl) (hS f)
 obtain ⟨b, cur, q1, q2, q3, q4⟩ : Hi (E.C β st w) id (.box ty cs) := by have := r.ob id; rwa [ho] at this
 have q1 : β id = some b := q1
 have hSb : (E.C β st' w).S false b := by
  obtain ⟨g1, g2⟩ := r.rng id b (by rw [ho]; simp) q1
  refine ⟨g1, ?_, g2.elim .inl fun h => .inr (.inl h)⟩
  rintro ⟨i, h1, h2⟩
  have h1 : β i = some b := h1
  have h2 : (st'.o i).live := h2
  rw [hob] at h2
  by_cases e : i = id
  ·rw [if_pos e] at h2; exact h2
  rw [if_neg e] at h2
  refine e (r.inj i id b (fun hg => ?_) (by rw [ho]; simp) h1 q1)
  rw [hg] at h2
  exact h2
 have hrow : ∀ i ty' k' fr fz es', st.o i = .row ty' k' fr fz es' -> st'.o i = .row ty' k' fr fz es' := fun i ty' k' fr fz es' h => by
  rw [hob, if_neg (fun e => by subst e; rw [ho] at h; cases h), h]; rfl
 have hcell : ∀ (j : Nat) (x : T), es.flatten[j]? = some x -> cur[j]? = some ((cur[j]?).getD undef) /\ Do w.heap ((E.C β st' w).S false) x ((cur[j]?).getD undef) := fun j x hx => by
  obtain ⟨c, g1, g2⟩ := Yy ht j x hx
  have hj : j < cur.size := Nat.lt_of_lt_of_le (Ab.1 g1).1 q3
  have g3 : cur[j]? = some cur[j] := Al hj
  obtain ⟨g4, g5⟩ := q4 j c _ g1 g3
  rw [g3]
  refine ⟨rfl, ?_⟩
  simp only [Bh]
  generalize cur[j] = u at g4 g5
  cases g4 with
  | lit v => simp only [T9, Option.some.injEq] at g2; subst g2; exact .lit _ g5
  | nil k A => simp only [T9, Option.some.injEq] at g2; subst g2; exact .nil _ _ _
  | imm fr k es u h => simp only [T9, Option.some.injEq] at g2; subst g2; exact VC.T_weak (C := E.C β st' w) (g := false) (hT fr _ _ h) fun e => by cases e
  | fn f cs us k1 k2 =>
   obtain ⟨fr, ts', off', rfl, rfl⟩ := Ad9 g2
   exact VC.T_weak (C := E.C β st' w) (g := false) (hT fr _ _ (Br.fn1 (.fn f _ us k1 k2))) fun e => by cases e
  | _ => cases g2
 have hL : ∀ (cs : List AV) (us : Array Value), (∀ (i : Nat) (c : AV) (u : Value), cs[i]? = some c -> us[i]? = some u -> Br (E.C β st' w) (c.sb' id k es) u) -> ∀ (i : Nat) (c : AV) (u : Value), (sbL id k es cs)[i]? = some c -> us[i]? = some u -> Br (E.C β st' w) c u := fun cs us ih i c u hc hu => by
  rw [Aed] at hc
  obtain ⟨x, hx, rfl⟩ := Mz hc
  exact ih i x u hx hu
 have hLl : ∀ cs : List AV, (sbL id k es cs).length = cs.length := fun cs => by rw [Aed, A2]
 have hV : ∀ (c : AV) (u : Value), Br (E.C β st w) c u -> Br (E.C β st' w) (c.sb' id k es) u := by
  intro c u h
  induction h with
  | any u => exact .any u
  | lit v => exact .lit v
  | nil k A => exact .nil k A
  | imm fr k es u h => exact .imm _ _ _ _ (hT fr _ _ h)
  | own i n u h =>
   obtain ⟨h1, ty', k, fr, fz, es, h2, h3⟩ := h
   exact .own i n u ⟨h1, ty', k, fr, fz, es, hrow _ _ _ _ _ _ h2, h3⟩
  | sub i n lo m u h =>
   obtain ⟨h1, ty', k, fr, fz, es, h2, h3⟩ := h
   exact .sub i n lo m u ⟨h1, ty', k, fr, fz, es, hrow _ _ _ _ _ _ h2, h3⟩
  | rptr i n j off u h =>
   obtain ⟨h1, ty', k, fr, fz, es, h2, h3⟩ := h
   exact .rptr i n j off u ⟨h1, ty', k, fr, fz, es, hrow _ _ _ _ _ _ h2, h3⟩
  | ptr i off u h =>
   by_cases e : i = id
   ·simp only [AV.sb', show (i == id) = true by simpa using e, cond_true]; exact .any _
   simp only [AV.sb', show (i == id) = false by simpa using e, cond_false]
   obtain ⟨ty', cs', b', h1, h2, h3⟩ := h
   have h1 : st.o i = _ := h1
   exact .ptr i off _ ⟨ty', _, b', by show st'.o i = _; rw [hob, if_neg e, h1]; rfl, h2, h3⟩
  | bsl i n u h =>
   obtain ⟨ty', cs', b', c', h1, h2, h3, h4⟩ := h
   have h1 : st.o i = _ := h1
   have h2 : β i = some b' := h2
   by_cases e : i = id
   ·subst e
    simp only [AV.sb', beq_self_eq_true, cond_true]
    rw [q1] at h2
    injection h2 with h2
    subst h2
    subst h3
    by_cases en : n = es.length
    ·subst en
     simp only [beq_self_eq_true, cond_true]
     refine .imm _ _ _ _ (.sl k es b 0 c' cur ty (0, 0) (fun i j => (cur[i * k + j]?).getD undef) q2 hSb h4 (fun i e he => hk e (Ac he)) (fun i e j x he hx => ?_) fun i e j x he hx => ?_)
     ·rw [Bm]; exact (hcell _ x (Sh hk he hx)).1
     exact (hcell _ x (Sh hk he hx)).2
    simp only [show (n == es.length) = false by simpa using en, cond_false]
    exact .any _
   simp only [AV.sb', show (i == id) = false by simpa using e, cond_false]
   exact .bsl i n _ ⟨ty', _, b', c', by show st'.o i = _; rw [hob, if_neg e, h1]; rfl, h2, h3, h4⟩
  | iptr fr cs off b o cur ty fz us h1 h2 h3 => exact .iptr fr cs off b o cur ty fz us h1 (hS fr b h2) fun j x hx => ⟨(h3 j x hx).1, hT fr _ _ (h3 j x hx).2⟩
  | agg cs us h1 h2 ih => exact .agg _ _ (by rw [hLl]; exact h1) (hL cs us ih)
  | tup cs us h1 h2 ih => exact .tup _ _ (by rw [hLl]; exact h1) (hL cs us ih)
  | fn f cs us h1 h2 ih => exact .fn f _ _ (by rw [hLl]; exact h1) (hL cs us ih)
  | gd t v u h1 h2 ih => exact .gd t _ u (fun e => ih e) h2
 subst hst'
 exact r.remap rfl (by rw [ho]; simp) (fun h => h.elim) hE hV trivial
section
variable {P : Program} {n m : Nat} {st : St} {K : Exit -> St -> Prop} {c : Code}
theorem VW.sealB (id : Nat) {ty : TypeId} {cs : List AV} (k : Nat) (es : List (List T)) (ho : st.o id = .box ty cs) (ht : ttL cs = some es.flatten) (hk : ∀ e ∈ es, e.length = k) (hm : m <= id) (hv : VW P n m c (st.sealB id k es) K) : VW P n m c st K := fun E F hE hF β a w r =>
 hv E F hE hF β a w (r.sealB ho ht hk (hE.2 id hm))
theorem VX.sealB (id : Nat) {ty : TypeId} {cs : List AV} (k : Nat) (es : List (List T)) (ho : st.o id = .box ty cs) (ht : ttL cs = some es.flatten) (hk : ∀ e ∈ es, e.length = k) (hm : m <= id) (hv : VX P n m c (st.sealB id k es) K) : VX P n m c st K := by
 obtain ⟨e, s, h1, h2⟩ := hv
 exact ⟨e, s, .sealB id k es ho ht hk hm h1, h2⟩
end
attribute [go_sem] St.toBox St.sealB St.remap Ak6 Xn Ag4 AV.tb tbL AV.sb' sbL
section
variable {P : Program}
def Ent.base (E : Ent) (β : Nat -> Option Nat) (st : St) (w : World) : Ent := { E with w0 := w, o0 := st.o, β0 := β, im := (E.C β st w).S false, fr := (E.C β st w).S true }
theorem Rel.base_in {E : Ent} {β : Nat -> Option Nat} {st : St} {a : Act} {w : World} (r : Rel E β st a w) (hds : E.ds = []) : Rel (E.base β st w) β st a w := by
 have hS : ∀ fr b, (E.C β st w).S fr b -> ((E.base β st w).C β st w).S fr b := fun fr b h => ⟨h.1, h.2.1, .inr (.inr ⟨VC.S_weak h, fun e => by rw [e] at h; exact h⟩)⟩
 refine ⟨r.sz, fun t => Br.same (C := E.C β st w) (C' := (E.base β st w).C β st w) rfl rfl rfl hS (r.sl t), r.df, fun id => Hi.same (C := E.C β st w) (C' := (E.base β st w).C β st w) rfl rfl rfl hS (r.ob id), r.inj, fun i b hi hb => ⟨(r.rng i b hi hb).1, .inr ⟨i, hi, hb⟩⟩, Kp.refl _ _, ⟨fun id ty cs h => ⟨⟨cs, h⟩, rfl⟩, fun id ty k fr fz es h => ⟨fr, fz, es, h, Aj _, fun _ => ⟨rfl, fun b cur _ hc => ⟨cur, hc, rfl⟩⟩⟩⟩, r.kb, ?_⟩
 show E.ds.Nodup /\ ∀ D ∈ E.ds, _
 rw [hds]
 exact ⟨List.nodup_nil, fun D h => by cases h⟩
theorem Rel.base_out {E : Ent} {β β' : Nat -> Option Nat} {st s : St} {a a' : Act} {w w' : World} (r : Rel E β st a w) (hds : E.ds = []) (r1 : Rel (E.base β st w) β' s a' w') : Rel E β' s a' w' := by
 have hM : ∀ b, (E.base β st w).M b -> E.w0.heap.size <= b \/ E.M b := fun b ⟨id, h1, h2⟩ => (r.rng id b h1 h2).2
 have hS : ∀ fr b, ((E.base β st w).C β' s w').S fr b -> (E.C β' s w').S fr b := fun fr b ⟨h1, h2, h3⟩ => ⟨h1, h2, by
  rcases h3 with h3 | h3 | ⟨h3, h4⟩
  ·exact .inl (Ak r.kp.size h3)
  ·exact (hM b h3).elim .inl fun h => .inr (.inl h)
  cases fr with
  | true =>
   have h5 : (E.C β st w).S true b := h4 rfl
   exact h5.2.2
  | false =>
   have h5 : (E.C β st w).S false b := h3
   rcases h5.2.2 with h | h | ⟨h, _⟩
   ·exact .inl h
   ·exact .inr (.inl h)
   exact .inr (.inr ⟨h, fun e => by cases e⟩)⟩
 refine ⟨r1.sz, fun t => Br.same (C := (E.base β st w).C β' s w') (C' := E.C β' s w') rfl rfl rfl hS (r1.sl t), r1.df, fun id => Hi.same (C := (E.base β st w).C β' s w') (C' := E.C β' s w') rfl rfl rfl hS (r1.ob id), r1.inj, fun i b hi hb => ⟨(r1.rng i b hi hb).1, (r1.rng i b hi hb).2.elim (fun h => .inl (Ak r.kp.size h)) (hM b)⟩, ?_, ?_, r1.kb, ?_⟩
 ·refine ⟨r1.kp.os.trans r.kp.os, r1.kp.tape.trans r.kp.tape, r1.kp.output.trans r.kp.output, Ak r.kp.size r1.kp.size, fun b hb hm => ?_⟩
  have hbw : b < w.heap.size := Nat.lt_of_lt_of_le hb r.kp.size
  refine (r1.kp.block b hbw fun h => ?_).trans (r.kp.block b hb hm)
  rcases hM b h with h | h
  ·omega
  exact hm h
 ·have c1 := r1.ct
  have c0 := r.ct
  refine ⟨fun id ty cs h => ?_, fun id ty k fr fz es h => ?_⟩
  ·obtain ⟨⟨cs', h1⟩, h2⟩ := c0.box id ty cs h
   obtain ⟨h3, h4⟩ := c1.box id ty cs' h1
   exact ⟨h3, h4.trans h2⟩
  obtain ⟨fr', fz', es', h1, h2, h3⟩ := c0.row id ty k fr fz es h
  obtain ⟨fr2, fz2, es2, h4, h5, h6⟩ := c1.row id ty k fr' fz' es' h1
  refine ⟨fr2, fz2, es2, h4, by omega, fun e => ?_⟩
  obtain ⟨h7, h8⟩ := h3 (by omega)
  obtain ⟨h9, h10⟩ := h6 (by omega)
  refine ⟨h9.trans h7, fun b cur hb hc => ?_⟩
  obtain ⟨cur', q1, q2⟩ := h8 b cur hb hc
  obtain ⟨cur2, q3, q4⟩ := h10 b cur' (h7.trans hb) q1
  exact ⟨cur2, q3, q4.trans q2⟩
 show E.ds.Nodup /\ ∀ D ∈ E.ds, _
 rw [hds]
 exact ⟨List.nodup_nil, fun D h => by cases h⟩
def Adi (C C' : VC) : Prop := ∀ id ty k fr fz es fr' fz' es' n u, C.ob id = .row ty k fr fz es -> C'.ob id = .row ty k fr' fz' es' -> es'.length = es.length -> Aa7 C id n u -> Aa7 C' id n u
theorem Apr {E : Ent} {β β' : Nat -> Option Nat} {st s : St} {a' : Act} {w w' : World} (r1 : Rel (E.base β st w) β' s a' w') : Adi (E.C β st w) (E.C β' s w') := by
 intro id ty k fr fz es fr' fz' es' n u h1 h2 h3 ⟨h4, ty', k', fr0, fz0, es0, h5, h6, h7⟩
 rw [h1] at h5
 injection h5 with e1 e2 e3 e4 e5
 subst e1 e2 e3 e4 e5
 have h1 : (E.base β st w).o0 id = .row ty k fr fz es := h1
 obtain ⟨fr2, fz2, es2, g1, g2, g3⟩ := r1.ct.row id ty k fr fz es h1
 have h2' : s.o id = .row ty k fr' fz' es' := h2
 have g1' : s.o id = .row ty k fr2 fz2 es2 := g1
 rw [h2'] at g1'
 injection g1' with e1 e2 e3 e4 e5
 subst e5
 obtain ⟨g4, g5⟩ := g3 h3.symm
 refine ⟨h4, ty, k, fr', fz', es', h2, by omega, fun e => ?_⟩
 have h7 := h7 (by omega)
 have g4 : β' id = β id := g4
 show match β' id with | none => _ | some b => _
 have hb0 : (E.C β st w).β id = β id := rfl
 rw [hb0] at h7
 rw [g4]
 cases hb : β id with
 | none => rw [hb] at h7; exact h7
 | some b =>
  rw [hb] at h7
  obtain ⟨c, cur, q1, q2, q3⟩ := h7
  obtain ⟨cur', p1, p2⟩ := g5 b cur hb q1
  exact ⟨c, cur', p1, by rw [p2, q2], q3⟩
def Own (β : Nat -> Option Nat) (st : St) (b : Nat) : Prop := ∃ id, st.o id ≠ .gone /\ β id = some b
structure Frm (E : Ent) (β : Nat -> Option Nat) (st : St) (w : World) (β' : Nat -> Option Nat) (s : St) (w' : World) : Prop where
  keep : Adi (E.C β st w) (E.C β' s w')
  kp : Kp (Own β st) w w'
  rng : ∀ b, Own β' s b -> w.heap.size <= b \/ Own β st b
  box : ∀ id ty cs, st.o id = .box ty cs -> β' id = β id
  row : ∀ id ty k fr fz es fr' fz' es', st.o id = .row ty k fr fz es -> s.o id = .row ty k fr' fz' es' -> es'.length = es.length -> β' id = β id
theorem Aq2 {E : Ent} {β β' : Nat -> Option Nat} {st s : St} {a' : Act} {w w' : World} (r1 : Rel (E.base β st w) β' s a' w') : Frm E β st w β' s w' := by
 refine ⟨Apr r1, r1.kp, fun b ⟨i, h1, h2⟩ => (r1.rng i b h1 h2).2, fun id ty cs h => (r1.ct.box id ty cs h).2, fun id ty k fr fz es fr' fz' es' h1 h2 h3 => ?_⟩
 obtain ⟨fr2, fz2, es2, g1, g2, g3⟩ := r1.ct.row id ty k fr fz es h1
 have g1' : s.o id = .row ty k fr2 fz2 es2 := g1
 rw [h2] at g1'
 injection g1' with e1 e2 e3 e4 e5
 subst e5
 exact (g3 h3.symm).1
structure Wy (β : Nat -> Option Nat) (st : St) (w : World) (β' : Nat -> Option Nat) (s : St) (w' : World) : Prop where
  kp : Kp (Own β st) w w'
  rng : ∀ b, Own β' s b -> w.heap.size <= b \/ Own β st b
theorem Frm.grew {E : Ent} {β β' : Nat -> Option Nat} {st s : St} {w w' : World} (f : Frm E β st w β' s w') : Wy β st w β' s w' := ⟨f.kp, f.rng⟩
theorem Wy.trans {β β1 β2 : Nat -> Option Nat} {st s1 s2 : St} {w w1 w2 : World} (g : Wy β st w β1 s1 w1) (g' : Wy β1 s1 w1 β2 s2 w2) : Wy β st w β2 s2 w2 := by
 refine ⟨⟨g'.kp.os.trans g.kp.os, g'.kp.tape.trans g.kp.tape, g'.kp.output.trans g.kp.output, Ak g.kp.size g'.kp.size, fun b hb hn => ?_⟩, fun b hb => ?_⟩
 ·refine (g'.kp.block b (Nat.lt_of_lt_of_le hb g.kp.size) fun h => ?_).trans (g.kp.block b hb hn)
  rcases g.rng b h with h | h
  ·omega
  exact hn h
 rcases g'.rng b hb with h | h
 ·exact .inl (Ak g.kp.size h)
 exact g.rng b h
theorem Wy.trans2 {β β1 β2 : Nat -> Option Nat} {st s1 s1' s2 : St} {w w1 w2 : World} (g : Wy β st w β1 s1 w1) (g' : Wy β1 s1' w1 β2 s2 w2) (h : s1'.ob = s1.ob) : Wy β st w β2 s2 w2 := by
 have e : s1'.o = s1.o := by unfold St.o; rw [h]
 have e2 : Own β1 s1' = Own β1 s1 := by unfold Own; rw [e]
 exact g.trans ⟨by rw [<- e2]; exact g'.kp, by rw [<- e2]; exact g'.rng⟩
theorem Z4 {E : Ent} {F : Fence} (hF : FOk E F) (hds : E.ds = []) {ops : Array Oper} {K : St -> Prop} {Q : Exit -> Act -> World -> Prop} (l2 l : List Oper) (hd : ∀ o ∈ l, ∀ x, o.dst = some x -> x < E.n) {st : St} {β : Nat -> Option Nat} {a : Act} {w : World}
 (h : runs P (l.map fun o => ⟨o.dst, o.op, o.type, Kn ops o⟩) st K) (r : Rel E β st a w)
  (hQ : ∀ s β' a' w', K s -> Rel E β' s a' w' -> Frm E β st w β' s w' -> wpListIn F 0 P ops Q l2 a' w') : wpListIn F 0 P ops Q (l ++ l2) a w :=
 R7 (E := E.base β st w) (F := F) hF l2 (fun s β' a' w' hk r1 => hQ s β' a' w' hk (r.base_out hds r1) (Aq2 r1)) l hd st β a w h (r.base_in hds)
section
variable {E : Ent} {F : Fence} {id : Nat} {l : List Oper} {st : St} {Q : Exit -> Act -> World -> Prop} {β : Nat -> Option Nat} {a : Act} {w : World}
theorem Afo (hF : FOk E F) (hds : E.ds = []) (j : Nat) (hd : Cw E.n l = true) (r : Rel E β st a w)
 (h : ∀ K1 : St -> Prop, (∀ s, (∀ β' a' w', Rel E β' s a' w' -> Frm E β st w β' s w' -> wpListIn F 0 P l.toArray Q (l.drop j) a' w') -> K1 s) -> runs P ((Dg l).take j) st K1) : (Code.region id l.toArray false).wpIn F 0 P Q a w := by
 refine wpIn_region_lit ?_
 have key := Z4 (P := P) (Q := Q) hF hds (ops := l.toArray) (l.drop j) (l.take j) (fun o ho => Lm hd o (Aq ho)) (K := fun s => ∀ β' a' w', Rel E β' s a' w' -> Frm E β st w β' s w' -> wpListIn F 0 P l.toArray Q (l.drop j) a' w') (by
  have := h _ fun s hs => hs
  simp only [Dg, <- List.map_take] at this
  exact this) r (fun s β' a' w' hk r' f => hk β' a' w' r' f)
 rwa [List.take_append_drop] at key
theorem W4 (hF : FOk E F) (hds : E.ds = []) {j : Nat} (hd : Cw E.n l = true) (r : Rel E β st a w)
 (h : ∀ K1 : St -> Prop, (∀ s, (∀ β' a' w', Rel E β' s a' w' -> Frm E β st w β' s w' -> Q .normal a' w') -> K1 s) -> runs P ((Dg l).drop j) st K1) : wpListIn F 0 P l.toArray Q (l.drop j) a w := by
 have key := Z4 (P := P) (Q := Q) hF hds (ops := l.toArray) [] (l.drop j) (fun o ho => Lm hd o (Ay ho)) (K := fun s => ∀ β' a' w', Rel E β' s a' w' -> Frm E β st w β' s w' -> Q .normal a' w') (by
  have := h _ fun s hs => hs
  simp only [Dg, <- List.map_drop] at this
  exact this) r (fun s β' a' w' hk r' f => hk β' a' w' r' f)
 rwa [List.append_nil] at key
theorem Al6 (hF : FOk E F) (hds : E.ds = []) (hd : Cw E.n l = true) (r : Rel E β st a w)
 (h : ∀ K1 : St -> Prop, (∀ s, (∀ β' a' w', Rel E β' s a' w' -> Frm E β st w β' s w' -> Q .normal a' w') -> K1 s) -> runs P (Dg l) st K1) : (Code.region id l.toArray false).wpIn F 0 P Q a w := by
 refine wpIn_region_lit ?_
 have := W4 (P := P) (Q := Q) (j := 0) hF hds hd r h
 exact this
theorem Jj {y : Code} (hF : FOk E F) (hds : E.ds = []) (hd : Cw E.n l = true) (r : Rel E β st a w)
 (h : ∀ K1 : St -> Prop, (∀ s, (∀ β' a' w', Rel E β' s a' w' -> Frm E β st w β' s w' -> y.wpIn F 0 P Q a' w') -> K1 s) -> runs P (Dg l) st K1) : (Code.seq (.region id l.toArray false) y).wpIn F 0 P Q a w :=
 wpIn_seq (Al6 hF hds hd r h)
end
theorem Rel.say {E : Ent} {β : Nat -> Option Nat} {st : St} {a : Act} {w : World} (r : Rel E β st a w) {sl : List (Nat × AV)} (h : ∀ t, Br (E.C β st w) (Ce st.sl t) (a.tmps.getD t undef) -> Br (E.C β st w) (Ce sl t) (a.tmps.getD t undef)) : Rel E β ⟨sl, st.ob⟩ a w :=
 ⟨r.sz, fun t => h t (r.sl t), r.df, r.ob, r.inj, r.rng, r.kp, r.ct, r.kb, r.dk⟩
theorem Rel.own0 {E : Ent} {β : Nat -> Option Nat} {st : St} {a : Act} {w : World} (r : Rel E β st a w) (t : Nat) (ty k : Nat) (hk : 0 < k) {k' : Nat} (ht : Ce st.sl t = .nil k') : Rel E (fun i => if i = st.ob.length then none else β i) ((st.put (some t) (.own st.ob.length 0)).set st.ob.length (.row ty k true false [])) a w := by
 obtain ⟨r1, h1⟩ := r.empty (Dx st st.ob.length (Aj _)) ty hk true
 rw [St.put_set]
 have hr := r.sl t
 rw [ht] at hr
 refine ⟨r1.sz, fun x => ?_, r1.df, ?_, ?_, ?_, r1.kp, ?_, r1.kb, r1.dk⟩
 ·rw [Xr]
  show Br _ (bif t == x then _ else Ce _ x) _
  cases hb : t == x with
  | true =>
   have : t = x := by simpa using hb
   subst this
   generalize a.tmps.getD t undef = u at hr
   cases hr with
   | nil k A => exact h1 A
  | false => exact r1.sl x
 ·rw [Xr, St.put_o]; exact r1.ob
 ·rw [St.put_o]; exact r1.inj
 ·rw [St.put_o]; exact r1.rng
 rw [Xr]; exact r1.ct
def VW0 (P : Program) (n m : Nat) (c : Code) (st : St) (K : Exit -> St -> Prop) : Prop :=
 ∀ (E : Ent) (F : Fence), (E.n = n /\ ∀ id, m <= id -> E.o0 id = .gone) -> FOk E F -> E.ds = [] -> ∀ β a w, Rel E β st a w -> c.wpIn F 0 P (Uj E K) a w
theorem Anh {f : FuncId} {fn : Func} {c : Code} {args : List AV} {σa σr : List Ob} {res : AV} (hf : P.funcs[f]? = some fn) (hb : fn.body = some c) (hn : (fn.name == "runtime.NumGoroutine") = false) {rs : List ResultVar} (hrs : fn.results = rs.toArray) (hk : args.length <= fn.ntmps)
 (h : VW0 P fn.ntmps σa.length c ⟨E8 0 args, σa⟩ (Pu P σa.length rs σr res)) : B8 P f σa args σr res := by
 refine ⟨⟨fn, hf, by rw [hb]; rfl, hn⟩, fun E β us hen ho hβ r => ?_⟩
 have hsz : us.size = args.length := r.sz.trans hen
 have hds : E.ds = [] := by
  have := r.df
  cases hq : E.ds with
  | nil => rfl
  | cons x xs => rw [hq] at this; cases this
 refine (callsIn_wide (n := 0)).1 (callsIn_of_wp_marks hf hb trivial ?_)
 have r' : Rel { E with n := fn.ntmps } β ⟨E8 0 args, σa⟩ ⟨us ++ Array.replicate (fn.ntmps - us.size) undef, []⟩ E.w0 := by
  refine ⟨by simp [hsz]; omega, fun t => ?_, r.df, r.ob, r.inj, r.rng, r.kp, r.ct, r.kb, r.dk⟩
  have hr := r.sl t
  by_cases ht : t < us.size
  ·show Br _ _ ((us ++ Array.replicate (fn.ntmps - us.size) undef).getD t undef)
   rw [Av, Bk ht, <- Av]
   exact hr
  have : Ce (E8 0 args) t = .any := by
   rw [Iq, Nat.sub_zero, if_pos (Ae _), Ad, Ar (by omega)]; rfl
  show Br _ (Ce (E8 0 args) t) _
  rw [this]
  exact .any _
 have hE : ∀ id, σa.length <= id -> E.o0 id = .gone := fun id hid => by
  rw [ho]
  exact Dx ⟨[], σa⟩ id hid
 have h0 : ∀ b o, E.kb b = some o -> b < E.w0.heap.size := fun b o h => (Aw.1 (r.kb b o h).1).1
 refine wpIn_mono (h { E with n := fn.ntmps } Fence.wide ⟨rfl, hE⟩ (.inl rfl) hds β _ _ r') fun e a w ⟨E', s, β1, hle, h1, h2⟩ => ?_
 obtain ⟨he, hc, hw⟩ := h1
 have key : LeavesInM Fence.wide 0 P fn a.tmps (fun e w' => ∃ v β', e = .returned v /\ Rel { E with n := 1 } β' ⟨[(0, res)], σr⟩ ⟨#[v], []⟩ w') a.defers .returning w := by
  rw [h2.df]
  exact Wm (E0 := E) hrs hE h0 hds (fun v β' w' h => ⟨v, β', rfl, h⟩) E'.ds E' β1 s a w hle rfl h2 hc hw
 rcases he with rfl | rfl <;> exact key
end
end Go.Proofs.YtkkimgjinbaemaaGreat
