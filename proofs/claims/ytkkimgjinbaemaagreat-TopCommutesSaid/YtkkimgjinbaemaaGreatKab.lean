/- The walk. -/
import Derived.Test.YtkkimgjinbaemaaGreatKaa
namespace Go.Proofs.YtkkimgjinbaemaaGreat
open Go.RowKit
set_option linter.unusedVariables false
set_option linter.unusedSimpArgs false
set_option maxRecDepth 100000
set_option maxHeartbeats 4000000
def Ly : List Ob -> Nat -> Ob -> List Ob
 | [], 0, x => [x]
 | [], n + 1, x => .gone :: Ly [] n x
 | _ :: l, 0, x => x :: l
 | y :: l, n + 1, x => y :: Ly l n x
theorem R4 : ∀ (l : List Ob) (n : Nat) (x : Ob) (i : Nat), (Ly l n x).getD i .gone = if i = n then x else l.getD i .gone
 | [], 0, x, i => by cases i <;> simp [Ly]
 | [], n + 1, x, 0 => by simp [Ly]
 | [], n + 1, x, i + 1 => by have := R4 [] n x i; simp [Ly] at this ⊢; exact this
 | y :: l, 0, x, i => by cases i <;> simp [Ly]
 | y :: l, n + 1, x, 0 => by simp [Ly]
 | y :: l, n + 1, x, i + 1 => by have := R4 l n x i; simp [Ly] at this ⊢; exact this
def St.set (s : St) (id : Nat) (x : Ob) : St := { s with ob := Ly s.ob id x }
theorem St.set_o (s : St) (id : Nat) (x : Ob) (i : Nat) : (s.set id x).o i = if i = id then x else s.o i := R4 _ _ _ _
def St.put (s : St) (d : Option Tmp) (v : AV) : St := match d with | some d => { s with sl := (d, v) :: s.sl } | none => s
theorem St.put_o (s : St) (d : Option Tmp) (v : AV) : (s.put d v).o = s.o := by cases d <;> rfl
def upd (β : Nat -> Option Nat) (id b : Nat) : Nat -> Option Nat := fun i => if i = id then some b else β i
theorem Kp.refl (M : Nat -> Prop) (w : World) : Kp M w w := ⟨rfl, rfl, rfl, Aj _, fun _ _ _ => rfl⟩
theorem Rel.put {E : Ent} {β : Nat -> Option Nat} {st : St} {a : Act} {w : World} (r : Rel E β st a w) {v : AV} {u : Value} (h : Br (E.C β st w) v u) (d : Option Tmp) (hd : ∀ x, d = some x -> x < E.n) : Rel E β (st.put d v) (a.put d u) w := by
 cases d with
 | none => exact r
 | some d =>
  have hlt : d < a.tmps.size := by rw [r.sz]; exact hd d rfl
  refine ⟨by simp [Act.put, r.sz], fun t => ?_, r.df, r.ob, r.inj, r.rng, r.kp, r.ct, r.kb, r.dk⟩
  show Br (E.C β st w) (bif d == t then v else Ce st.sl t) _
  simp only [Act.put, Av, Array.getElem?_setIfInBounds]
  by_cases e : d = t
  ·subst e
   rw [if_pos rfl, if_pos hlt]
   simpa using h
  rw [if_neg e]
  have : (d == t) = false := by simp [e]
  rw [this, <- Av]
  exact r.sl t
theorem Rel.nolive {E : Ent} {β : Nat -> Option Nat} {st : St} {a : Act} {w : World} (r : Rel E β st a w) {b : Nat} {o : Obj} (h : w.heap[b]? = some o) (ho : Uh o = false) : ¬ (E.C β st w).lives b := by
 rintro ⟨id, h1, h2⟩
 have h1 : β id = some b := h1
 have h2 : (st.o id).live := h2
 have hr := r.ob id
 cases hq : st.o id with
 | gone => rw [hq] at h2; exact h2
 | box ty cs =>
  rw [hq] at hr
  obtain ⟨b', cur, q1, q2, _⟩ := hr
  have q1 : β id = some b' := q1
  have q2 : w.heap[b']? = some (.cells cur ty (0, 0)) := q2
  rw [h1] at q1
  injection q1 with q1
  subst q1
  rw [h] at q2
  injection q2 with q2
  subst q2
  cases ho
 | row ty k fr fz es =>
  rw [hq] at hr
  have hr := hr.2
  have hC : (E.C β st w).β id = some b := h1
  rw [hC] at hr
  obtain ⟨cur, c, q2, _⟩ := hr
  have q2 : w.heap[b]? = some (.cells cur ty (0, 0)) := q2
  rw [h] at q2
  injection q2 with q2
  subst q2
  cases ho
theorem Rel.move {E : Ent} {β β' : Nat -> Option Nat} {st st' : St} {a : Act} {w w' : World} (r : Rel E β st a w) (s : Ks (E.C β st w) (E.C β' st' w')) (hsl : st'.sl = st.sl)
 (hob : ∀ id, Hi (E.C β' st' w') id (st'.o id)) (inj : ∀ i j b, st'.o i ≠ .gone -> st'.o j ≠ .gone -> β' i = some b -> β' j = some b -> i = j)
  (rng : ∀ i b, st'.o i ≠ .gone -> β' i = some b -> b < w'.heap.size /\ (E.w0.heap.size <= b \/ E.M b)) (kp : Kp E.M E.w0 w') : Rel E β' st' a w' :=
 ⟨r.sz, fun t => by rw [hsl]; exact (r.sl t).step s, r.df, hob, inj, rng, kp, r.ct.step s, fun b o h => ⟨(s.keep b (Aw.1 (r.kb b o h).1).1 (r.nolive (r.kb b o h).1 (r.kb b o h).2)).trans (r.kb b o h).1, (r.kb b o h).2⟩, r.dk⟩
theorem Rel.drew {E : Ent} {β : Nat -> Option Nat} {st : St} {a : Act} {w : World} (r : Rel E β st a w) (n : Nat) : Rel E β st a { w with drawn := n } :=
 ⟨r.sz, r.sl, r.df, r.ob, r.inj, r.rng, ⟨r.kp.os, r.kp.tape, r.kp.output, r.kp.size, r.kp.block⟩, r.ct, r.kb, r.dk⟩
theorem Rel.bind {E : Ent} {β : Nat -> Option Nat} {st : St} {a : Act} {w : World} (r : Rel E β st a w) {id : Nat} {o : Ob} (hid : st.o id = .gone \/ ∃ ty k fr fz es fr' fz' es', st.o id = .row ty k fr fz es /\ o = .row ty k fr' fz' es' /\ es.length < es'.length) (ho : o ≠ .gone) (cur : Array Value) (ty : TypeId)
 (hr : ∀ C : VC, Ks (E.C β st w) C -> C.β id = some w.heap.size -> C.h[w.heap.size]? = some (.cells cur ty (0, 0)) -> Hi C id o) :
  Rel E (upd β id w.heap.size) (st.set id o) a (w.alloc (.cells cur ty)) := by
 have hsz : (w.alloc (.cells cur ty)).heap.size = w.heap.size + 1 := by simp
 have hold : ∀ b, b < w.heap.size -> (w.alloc (.cells cur ty)).heap[b]? = w.heap[b]? := fun b hb => Below.heap_alloc _ _ _ hb
 have hβ : ∀ i, i ≠ id -> upd β id w.heap.size i = β i := fun i hi => by simp [upd, hi]
 have ho' : ∀ i, i ≠ id -> (st.set id o).o i = st.o i := fun i hi => by rw [St.set_o, if_neg hi]
 have s : Ks (E.C β st w) (E.C (upd β id w.heap.size) (st.set id o) (w.alloc (.cells cur ty))) := by
  refine ⟨rfl, fun _ h => h, fun _ h => h, fun _ h => h, ?_, ?_, ?_, ?_, ?_⟩
  ·show w.heap.size <= (w.alloc (.cells cur ty)).heap.size
   omega
  ·rintro b hb ⟨i, h1, h2⟩
   by_cases e : i = id
   ·subst e
    have h1 : upd β i w.heap.size i = some b := h1
    simp [upd] at h1
    have hb : b < w.heap.size := hb
    omega
   exact ⟨i, (hβ i e).symm.trans h1, by have h2 : ((st.set id o).o i).live := h2; rw [ho' i e] at h2; exact h2⟩
  ·intro b hb _
   exact hold b hb
  ·intro i ty' cs h
   have h : st.o i = .box ty' cs := h
   have e : i ≠ id := fun e => by
    subst e
    rcases hid with hid | ⟨_, _, _, _, _, _, _, _, hid, _⟩ <;> rw [hid] at h <;> cases h
   exact ⟨⟨cs, (ho' i e).trans h⟩, hβ i e⟩
  intro i ty' k fr fz es h
  have h : st.o i = .row ty' k fr fz es := h
  by_cases e : i = id
  ·subst e
   rcases hid with hid | ⟨ty1, k1, fr1, fz1, es1, fr2, fz2, es2, hid, e2, hlt⟩
   ·rw [hid] at h; cases h
   rw [hid] at h
   injection h with g1 g2 g3 g4 g5
   subst g1 g2 g3 g4 g5
   exact ⟨fr2, fz2, es2, by show (st.set i o).o i = _; rw [St.set_o, if_pos rfl, e2], Nat.le_of_lt hlt, fun g => by omega⟩
  refine ⟨fr, fz, es, (ho' i e).trans h, Aj _, fun _ => ⟨hβ i e, fun b cur' hb hc => ⟨cur', ?_, rfl⟩⟩⟩
  exact (hold b (r.rng i b (by rw [h]; simp) hb).1).trans hc
 refine r.move s rfl (fun i => ?_) ?_ ?_ ?_
 ·by_cases e : i = id
  ·subst e
   rw [St.set_o, if_pos rfl]
   exact hr _ s (by simp [Ent.C, upd]) (heap_alloc_new w _)
  rw [ho' i e]
  by_cases hg : st.o i = .gone
  ·rw [hg]; trivial
  exact (r.ob i).step s (hβ i e) fun b hb => hold b (r.rng i b hg hb).1
 ·intro i j b hi hj h1 h2
  by_cases e1 : i = id
  ·by_cases e2 : j = id
   ·rw [e1, e2]
   subst e1
   simp [upd] at h1
   rw [hβ j e2] at h2
   rw [ho' j e2] at hj
   have := (r.rng j b hj h2).1
   omega
  rw [hβ i e1] at h1
  rw [ho' i e1] at hi
  by_cases e2 : j = id
  ·subst e2
   simp [upd] at h2
   have := (r.rng i b hi h1).1
   omega
  rw [hβ j e2] at h2
  rw [ho' j e2] at hj
  exact r.inj i j b hi hj h1 h2
 ·intro i b hi h1
  by_cases e1 : i = id
  ·subst e1
   simp [upd] at h1
   have := r.kp.size
   omega
  rw [hβ i e1] at h1
  rw [ho' i e1] at hi
  have := r.rng i b hi h1
  exact ⟨by omega, this.2⟩
 exact ⟨r.kp.os, r.kp.tape, r.kp.output, by have := r.kp.size; omega, fun b hb hm => (hold b (by have := r.kp.size; omega)).trans (r.kp.block b hb hm)⟩
theorem Rel.new {E : Ent} {β : Nat -> Option Nat} {st : St} {a : Act} {w : World} (r : Rel E β st a w) {id : Nat} (hid : st.o id = .gone) (o : Ob) (ho : o ≠ .gone) (cur : Array Value) (ty : TypeId)
 (hr : ∀ C : VC, Ks (E.C β st w) C -> C.β id = some w.heap.size -> C.h[w.heap.size]? = some (.cells cur ty (0, 0)) -> Hi C id o) :
 Rel E (upd β id w.heap.size) (st.set id o) a (w.alloc (.cells cur ty)) := r.bind (.inl hid) ho cur ty hr
theorem Rel.change {E : Ent} {β : Nat -> Option Nat} {st : St} {a : Act} {w : World} (r : Rel E β st a w) {id g : Nat} {o : Ob} (hl : (st.o id).live) (hβ : β id = some g) {ty : TypeId} {cur cur' : Array Value} {w' : World}
 (h0 : w.heap[g]? = some (.cells cur ty (0, 0))) (h1 : w'.heap[g]? = some (.cells cur' ty (0, 0))) (hsz' : cur'.size = cur.size) (hsize : w'.heap.size = w.heap.size)
  (hfar : ∀ b, b ≠ g -> w'.heap[b]? = w.heap[b]?) (hos : w'.os = w.os) (hta : w'.tape = w.tape) (hou : w'.output = w.output)
  (hbox : ∀ ty cs, st.o id = .box ty cs -> ∃ cs', o = .box ty cs')
  (hrow : ∀ ty k fr fz es, st.o id = .row ty k fr fz es -> ∃ fr' fz' es', o = .row ty k fr' fz' es' /\ es.length <= es'.length)
  (hr : ∀ C : VC, Ks (E.C β st w) C -> C.β id = some g -> C.h[g]? = some (.cells cur' ty (0, 0)) -> Hi C id o) (hlive : o.live \/ True) :
  Rel E β (st.set id o) a w' := by
 have ho' : ∀ i, i ≠ id -> (st.set id o).o i = st.o i := fun i hi => by rw [St.set_o, if_neg hi]
 have ho : (st.set id o).o id = o := by rw [St.set_o, if_pos rfl]
 have hng : st.o id ≠ .gone := fun e => by rw [e] at hl; exact hl
 have hog : o ≠ .gone := by
  cases hc : st.o id with
  | gone => exact absurd hc hng
  | box ty cs => obtain ⟨cs', e⟩ := hbox ty cs hc; rw [e]; simp
  | row ty k fr fz es => obtain ⟨_, _, _, e, _⟩ := hrow ty k fr fz es hc; rw [e]; simp
 have hothers : ∀ i b, st.o i ≠ .gone -> i ≠ id -> β i = some b -> b ≠ g := fun i b hi he hb e => he (r.inj i id b hi hng hb (by rw [e]; exact hβ))
 have hlg : (E.C β st w).lives g := ⟨id, hβ, hl⟩
 have s : Ks (E.C β st w) (E.C β (st.set id o) w') := by
  refine ⟨rfl, fun _ h => h, fun _ h => h, fun _ h => h, ?_, ?_, ?_, ?_, ?_⟩
  ·show w.heap.size <= w'.heap.size
   omega
  ·rintro b hb ⟨i, h1, h2⟩
   by_cases e : i = id
   ·subst e
    exact ⟨i, h1, hl⟩
   exact ⟨i, h1, by have h2 : ((st.set id o).o i).live := h2; rw [ho' i e] at h2; exact h2⟩
  ·intro b hb hn
   exact hfar b fun e => hn (e ▸ hlg)
  ·intro i ty' cs h
   have h : st.o i = .box ty' cs := h
   by_cases e : i = id
   ·subst e
    obtain ⟨cs', e'⟩ := hbox ty' cs h
    exact ⟨⟨cs', by show (st.set i o).o i = _; rw [ho, e']⟩, rfl⟩
   exact ⟨⟨cs, (ho' i e).trans h⟩, rfl⟩
  intro i ty' k fr fz es h
  have h : st.o i = .row ty' k fr fz es := h
  by_cases e : i = id
  ·subst e
   obtain ⟨fr', fz', es', e', hle⟩ := hrow ty' k fr fz es h
   refine ⟨fr', fz', es', by show (st.set i o).o i = _; rw [ho, e'], hle, fun _ => ⟨rfl, fun b cc hb hc => ?_⟩⟩
   have hb : β i = some b := hb
   rw [hβ] at hb
   injection hb with hb
   subst hb
   have hc : w.heap[g]? = _ := hc
   rw [h0] at hc
   injection hc with hc
   injection hc with hc1 hc2
   subst hc1 hc2
   exact ⟨cur', h1, hsz'⟩
  refine ⟨fr, fz, es, (ho' i e).trans h, Aj _, fun _ => ⟨rfl, fun b cc hb hc => ⟨cc, ?_, rfl⟩⟩⟩
  exact (hfar b (hothers i b (by rw [h]; simp) e hb)).trans hc
 refine r.move s rfl (fun i => ?_) ?_ ?_ ?_
 ·by_cases e : i = id
  ·subst e
   rw [ho]
   exact hr _ s hβ h1
  rw [ho' i e]
  by_cases hg : st.o i = .gone
  ·rw [hg]; trivial
  exact (r.ob i).step s rfl fun b hb => hfar b (hothers i b hg e hb)
 ·intro i j b hi hj
  refine r.inj i j b ?_ ?_
  ·by_cases e : i = id
   ·subst e; exact hng
   rw [ho' i e] at hi; exact hi
  by_cases e : j = id
  ·subst e; exact hng
  rw [ho' j e] at hj; exact hj
 ·intro i b hi hb
  have := r.rng i b (by
   by_cases e : i = id
   ·subst e; exact hng
   rw [ho' i e] at hi; exact hi) hb
  exact ⟨by omega, this.2⟩
 refine ⟨hos.trans r.kp.os, hta.trans r.kp.tape, hou.trans r.kp.output, by have := r.kp.size; omega, fun b hb hm => ?_⟩
 refine (hfar b fun e => ?_).trans (r.kp.block b hb hm)
 have := r.rng id g hng hβ
 subst e
 rcases this.2 with h | h
 ·omega
 exact hm h
def T.plain : T -> Bool
 | .lit _ => true
 | _ => false
theorem Rel.flag {E : Ent} {β : Nat -> Option Nat} {st : St} {a : Act} {w : World} (r : Rel E β st a w) {id : Nat} {ty k : Nat} {fr fz fr' fz' : Bool} {es : List (List T)} (h : st.o id = .row ty k fr fz es) (hf : fr' = true -> fr = true \/ es.all (fun e => e.all T.plain) = true) (hz : fz' = false -> fz = false) :
 Rel E β (st.set id (.row ty k fr' fz' es)) a w /\ Ks (E.C β st w) (E.C β (st.set id (.row ty k fr' fz' es)) w) := by
 have ho' : ∀ i, i ≠ id -> (st.set id (.row ty k fr' fz' es)).o i = st.o i := fun i hi => by rw [St.set_o, if_neg hi]
 have ho : (st.set id (.row ty k fr' fz' es)).o id = .row ty k fr' fz' es := by rw [St.set_o, if_pos rfl]
 have hng : ∀ i, (st.set id (.row ty k fr' fz' es)).o i ≠ .gone -> st.o i ≠ .gone := fun i hi => by
  by_cases e : i = id
  ·subst e; rw [h]; simp
  rw [ho' i e] at hi; exact hi
 have s : Ks (E.C β st w) (E.C β (st.set id (.row ty k fr' fz' es)) w) := by
  refine ⟨rfl, fun _ h => h, fun _ h => h, fun _ h => h, Aj _, ?_, fun _ _ _ => rfl, ?_, ?_⟩
  ·rintro b hb ⟨i, h1, h2⟩
   have h2 : ((st.set id (.row ty k fr' fz' es)).o i).live := h2
   by_cases e : i = id
   ·subst e
    rw [ho] at h2
    exact ⟨i, h1, by show (st.o i).live; rw [h]; exact hz h2⟩
   rw [ho' i e] at h2
   exact ⟨i, h1, h2⟩
  ·intro i ty' cs hi
   have hi : st.o i = .box ty' cs := hi
   by_cases e : i = id
   ·subst e; rw [h] at hi; cases hi
   exact ⟨⟨cs, (ho' i e).trans hi⟩, rfl⟩
  intro i ty' k' fr' fz' es' hi
  have hi : st.o i = .row ty' k' fr' fz' es' := hi
  by_cases e : i = id
  ·subst e
   rw [h] at hi
   injection hi with e1 e2 e3 e4 e5
   subst e1 e2 e3 e4 e5
   exact ⟨_, _, _, ho, Aj _, fun _ => ⟨rfl, fun b cc hb hc => ⟨cc, hc, rfl⟩⟩⟩
  exact ⟨_, _, _, (ho' i e).trans hi, Aj _, fun _ => ⟨rfl, fun b cc hb hc => ⟨cc, hc, rfl⟩⟩⟩
 refine ⟨r.move s rfl (fun i => ?_) (fun i j b hi hj => r.inj i j b (hng i hi) (hng j hj)) (fun i b hi => r.rng i b (hng i hi)) r.kp, s⟩
 by_cases e : i = id
 ·subst e
  rw [ho]
  have := r.ob i
  rw [h] at this
  obtain ⟨h1, h2⟩ := Hi.step (o := .row ty k fr fz es) s this rfl fun _ _ => rfl
  refine ⟨h1, ?_⟩
  cases hb : (E.C β (st.set i (.row ty k fr' fz' es)) w).β i with
  | none => rw [hb] at h2; exact h2
  | some b =>
   rw [hb] at h2
   obtain ⟨cur, c, g1, g2, g3, g4, g5⟩ := h2
   refine ⟨cur, c, g1, g2, g3, g4, fun i e j x he hx => ?_⟩
   obtain ⟨u, q1, q2⟩ := g5 i e j x he hx
   refine ⟨u, q1, ?_⟩
   by_cases hfr : fr' = true
   ·rcases hf hfr with hf | hf
    ·exact VC.T_weak q2 fun _ => hf
    have := Am.1 (Am.1 hf e (Ac he)) x (Ac hx)
    cases q2 with
    | lit _ h => exact .lit _ h
    | _ => cases this
   exact VC.T_weak q2 fun e => absurd e hfr
 rw [ho' i e]
 exact (r.ob i).step s rfl fun _ _ => rfl
theorem Rel.freeze {E : Ent} {β : Nat -> Option Nat} {st : St} {a : Act} {w : World} (r : Rel E β st a w) {id : Nat} {ty k : Nat} {fr fz : Bool} {es : List (List T)} (h : st.o id = .row ty k fr fz es) :
 Rel E β (st.set id (.row ty k fr true es)) a w /\ Ks (E.C β st w) (E.C β (st.set id (.row ty k fr true es)) w) := r.flag h (fun e => .inl e) fun e => by cases e
theorem Rel.empty {E : Ent} {β : Nat -> Option Nat} {st : St} {a : Act} {w : World} (r : Rel E β st a w) {id : Nat} (hid : st.o id = .gone) (ty : TypeId) {k : Nat} (hk : 0 < k) (fr : Bool) :
 Rel E (fun i => if i = id then none else β i) (st.set id (.row ty k fr false [])) a w /\ ∀ A, Br (E.C (fun i => if i = id then none else β i) (st.set id (.row ty k fr false [])) w) (.own id 0) (.slice A 0 0) := by
 have ho' : ∀ i, i ≠ id -> (st.set id (.row ty k fr false [])).o i = st.o i := fun i hi => by rw [St.set_o, if_neg hi]
 have ho : (st.set id (.row ty k fr false [])).o id = .row ty k fr false [] := by rw [St.set_o, if_pos rfl]
 have hne : ∀ i, st.o i ≠ .gone -> i ≠ id := fun i hi e => by subst e; exact hi hid
 have s : Ks (E.C β st w) (E.C (fun i => if i = id then none else β i) (st.set id (.row ty k fr false [])) w) := by
  refine ⟨rfl, fun _ h => h, fun _ h => h, fun _ h => h, Aj _, ?_, fun _ _ _ => rfl, ?_, ?_⟩
  ·rintro b hb ⟨i, h1, h2⟩
   have h1 : (if i = id then none else β i) = some b := h1
   by_cases e : i = id
   ·rw [if_pos e] at h1; cases h1
   rw [if_neg e] at h1
   exact ⟨i, h1, by have h2 : ((st.set id (.row ty k fr false [])).o i).live := h2; rw [ho' i e] at h2; exact h2⟩
  ·intro i ty' cs h
   have h : st.o i = .box ty' cs := h
   have e := hne i (by rw [h]; simp)
   exact ⟨⟨cs, (ho' i e).trans h⟩, if_neg e⟩
  intro i ty' k fr fz es h
  have h : st.o i = .row ty' k fr fz es := h
  have e := hne i (by rw [h]; simp)
  exact ⟨_, _, _, (ho' i e).trans h, Aj _, fun _ => ⟨if_neg e, fun b cc hb hc => ⟨cc, hc, rfl⟩⟩⟩
 refine ⟨r.move s rfl (fun i => ?_) (fun i j b hi hj h1 h2 => ?_) (fun i b hi h1 => ?_) r.kp, fun A => ?_⟩
 ·by_cases e : i = id
  ·subst e
   rw [ho]
   refine ⟨⟨hk, fun i e he => by simp at he⟩, ?_⟩
   have : (E.C (fun j => if j = i then none else β j) (st.set i (.row ty k fr false [])) w).β i = none := if_pos rfl
   rw [this]
  rw [ho' i e]
  exact (r.ob i).step s (if_neg e) fun _ _ => rfl
 ·by_cases e1 : i = id
  ·rw [if_pos e1] at h1; cases h1
  by_cases e2 : j = id
  ·rw [if_pos e2] at h2; cases h2
  rw [if_neg e1] at h1
  rw [if_neg e2] at h2
  rw [ho' i e1] at hi
  rw [ho' j e2] at hj
  exact r.inj i j b hi hj h1 h2
 ·by_cases e1 : i = id
  ·rw [if_pos e1] at h1; cases h1
  rw [if_neg e1] at h1
  rw [ho' i e1] at hi
  exact r.rng i b hi h1
 refine .own _ _ _ ⟨rfl, ty, k, fr, false, [], ho, Aj _, fun _ => ?_⟩
 have : (E.C (fun j => if j = id then none else β j) (st.set id (.row ty k fr false [])) w).β id = none := if_pos rfl
 rw [this]
 exact ⟨A, rfl⟩
theorem Rel.frozen {E : Ent} {β : Nat -> Option Nat} {st : St} {a : Act} {w : World} (r : Rel E β st a w) {id n : Nat} {ty k : Nat} {fr : Bool} {es : List (List T)} (h : st.o id = .row ty k fr true es) {u : Value} (hu : Aa7 (E.C β st w) id n u) (hn : n = es.length) :
 Do w.heap ((E.C β st w).S fr) (.sl k es) u := by
 obtain ⟨_, ty', k', fr', fz', es', ho, _, h1⟩ := hu
 have ho : st.o id = _ := ho
 rw [h] at ho
 injection ho with e1 e2 e3 e4 e5
 subst e1 e2 e3 e4 e5
 have h1 := h1 hn
 have hr := r.ob id
 rw [h] at hr
 obtain ⟨h2, h3⟩ := hr
 have hC : (E.C β st w).β id = β id := rfl
 rw [hC] at h1 h3
 cases hb : β id with
 | none =>
  rw [hb] at h1 h3
  obtain ⟨A, rfl⟩ := h1
  have h3 : es = [] := h3
  subst h3
  exact .nil k A 0
 | some b =>
  rw [hb] at h1 h3
  obtain ⟨c, cur, h4, h5, rfl⟩ := h1
  obtain ⟨cur', c', h6, h7, h8, h9, h10⟩ := h3
  have h6 : w.heap[b]? = _ := h6
  have h4 : w.heap[b]? = _ := h4
  rw [h4] at h6
  injection h6 with h6
  injection h6 with h6
  subst h6
  subst hn
  have hS : (E.C β st w).S fr b := by
   refine ⟨(r.rng id b (by rw [h]; simp) hb).1, ?_, ?_⟩
   ·rintro ⟨i, hi1, hi2⟩
    have hi2 : (st.o i).live := hi2
    have : i = id := r.inj i id b (fun e => by rw [e] at hi2; exact hi2) (by rw [h]; simp) hi1 hb
    subst this
    rw [h] at hi2
    cases hi2
   rcases (r.rng id b (by rw [h]; simp) hb).2 with h' | h'
   ·exact .inl h'
   exact .inr (.inl h')
  have hle : es.length <= c := by
   have : c * k = c' * k := h5.symm.trans h7
   have := Nat.eq_of_mul_eq_mul_right h2.1 this
   omega
  exact .sl k es b 0 c cur ty (0, 0) (fun i j => cur[i * k + j]?.getD undef) h4 hS hle h2.2 (fun i e j x he hx => by
   obtain ⟨v, hv, _⟩ := h10 i e j x he hx
   rw [Bm, hv]; rfl) (fun i e j x he hx => by
   obtain ⟨v, hv, ht⟩ := h10 i e j x he hx
   rw [hv]; exact ht)
theorem Rel.frozenS {E : Ent} {β : Nat -> Option Nat} {st : St} {a : Act} {w : World} (r : Rel E β st a w) {id n lo m : Nat} {ty k : Nat} {fr : Bool} {es : List (List T)} (h : st.o id = .row ty k fr true es) {u : Value} (hu : Asz (E.C β st w) id n lo m u) (hn : n = es.length) :
 Do w.heap ((E.C β st w).S fr) (.sl k ((es.drop lo).take m)) u := by
 obtain ⟨_, ty', k', fr', fz', es', ho, _, h1⟩ := hu
 have ho : st.o id = _ := ho
 rw [h] at ho
 injection ho with e1 e2 e3 e4 e5
 subst e1 e2 e3 e4 e5
 obtain ⟨hle, A, c, rfl, hmc, hec, hA⟩ := h1 hn
 have hr := r.ob id
 rw [h] at hr
 obtain ⟨h2, h3⟩ := hr
 rcases hA with hA | ⟨b, hb, rfl⟩
 ·obtain rfl : m = 0 := by omega
  rw [List.take_zero]
  exact .nil _ _ _
 have hb : β id = some b := hb
 have hC : (E.C β st w).β id = β id := rfl
 rw [hC, hb] at h3
 obtain ⟨cur, c', g1, g2, g3, g4, g5⟩ := h3
 have hS : (E.C β st w).S fr b := by
  refine ⟨(r.rng id b (by rw [h]; simp) hb).1, ?_, ?_⟩
  ·rintro ⟨i, hi1, hi2⟩
   have hi2 : (st.o i).live := hi2
   have : i = id := r.inj i id b (fun e => by rw [e] at hi2; exact hi2) (by rw [h]; simp) hi1 hb
   subst this
   rw [h] at hi2
   cases hi2
  rcases (r.rng id b (by rw [h]; simp) hb).2 with h' | h'
  ·exact .inl h'
  exact .inr (.inl h')
 have hlen : ((es.drop lo).take m).length = m := by rw [A5, Bc]; omega
 have hget : ∀ (i : Nat) (e : List T), ((es.drop lo).take m)[i]? = some e -> es[lo + i]? = some e := fun i e he => by
  have hi : i < m := by rw [<- hlen]; exact (Ab.1 he).1
  rw [Ag hi, Bd] at he
  exact he
 have hs := Do.sl (h := w.heap) (S := (E.C β st w).S fr) k ((es.drop lo).take m) b (lo * k) c cur ty (0, 0) (fun i j => cur[lo * k + i * k + j]?.getD undef) g1 hS (by omega) (fun i e he => h2.2 _ e (hget i e he)) (fun i e j x he hx => by
  obtain ⟨v, hv, _⟩ := g5 _ e j x (hget i e he) hx
  rw [<- Be, hv]; rfl) (fun i e j x he hx => by
  obtain ⟨v, hv, ht⟩ := g5 _ e j x (hget i e he) hx
  rw [<- Be, hv]; exact ht)
 rw [hlen] at hs
 exact hs
end Go.Proofs.YtkkimgjinbaemaaGreat
