/- The walk. -/
import Derived.Test.YtkkimgjinbaemaaGreatKap
namespace Go.Proofs.YtkkimgjinbaemaaGreat
open Go.RowKit
set_option linter.unusedVariables false
set_option linter.unusedSimpArgs false
set_option maxRecDepth 100000
set_option maxHeartbeats 4000000
section
variable {P : Program}
mutual
theorem bk_id : ∀ (c : AV), c.bk (fun x => x) = c
 | .own id n => rfl
 | .sub id n lo m => rfl
 | .ptr id off => rfl
 | .rptr id n i off => rfl
 | .bsl id n => rfl
 | .agg cs => by simp only [AV.bk]; rw [Aaw cs]
 | .tup cs => by simp only [AV.bk]; rw [Aaw cs]
 | .fn f cs => by simp only [AV.bk]; rw [Aaw cs]
 | .gd t v => by simp only [AV.bk]; rw [bk_id v]
 | .any => rfl
 | .lit v => rfl
 | .nil k => rfl
 | .imm fr k es => rfl
 | .iptr fr cs off => rfl
theorem Aaw : ∀ (cs : List AV), bkL (fun x => x) cs = cs
 | [] => rfl
 | c :: cs => by simp only [bkL]; rw [bk_id c, Aaw cs]
end
theorem Ob.bk_id (o : Ob) : o.bk (fun x => x) = o := by cases o <;> simp [Ob.bk, Aaw]
theorem Br.same {C C' : VC} (hh : C'.h = C.h) (ho : C'.ob = C.ob) (hβ : C'.β = C.β) (hS : ∀ fr b, C.S fr b -> C'.S fr b) {c : AV} {u : Value} (h : Br C c u) : Br C' c u := by
 have := Br.bk (C1 := C) (C2 := C') (B := fun x => x) hh (fun j _ => ⟨by rw [ho, Ob.bk_id], by rw [hβ]⟩) false (fun fr b _ hb => hS fr b hb) h (fun e => by cases e)
 rwa [Go.Proofs.YtkkimgjinbaemaaGreat.bk_id] at this
theorem Hi.same {C C' : VC} (hh : C'.h = C.h) (ho : C'.ob = C.ob) (hβ : C'.β = C.β) (hS : ∀ fr b, C.S fr b -> C'.S fr b) {id : Nat} (h : Hi C id (C.ob id)) : Hi C' id (C.ob id) := by
 have := Hi.bk (C1 := C) (C2 := C') (B := fun x => x) hh (fun j _ => ⟨by rw [ho, Ob.bk_id], by rw [hβ]⟩) false (fun fr b _ hb => hS fr b hb) rfl h (fun e => by cases e)
 rwa [Ob.bk_id] at this
theorem Rel.grow {E : Ent} {β : Nat -> Option Nat} {st : St} {a : Act} {w w' : World} (r : Rel E β st a w) (k : Kp (fun _ => False) w w') : Rel E β st a w' := by
 have hk : ∀ b, b < w.heap.size -> w'.heap[b]? = w.heap[b]? := fun b hb => k.block b hb fun h => h
 have s : Ks (E.C β st w) (E.C β st w') := ⟨rfl, fun _ h => h, fun _ h => h, fun _ h => h, k.size, fun b _ h => h, fun b hb _ => hk b hb, fun id ty cs h => ⟨⟨cs, h⟩, rfl⟩, fun id ty k' fr fz es h => ⟨fr, fz, es, h, Aj _, fun _ => ⟨rfl, fun b cur hb hc => ⟨cur, (hk b (r.rng id b (by have h : st.o id = _ := h; rw [h]; simp) hb).1).trans hc, rfl⟩⟩⟩⟩
 refine r.move s rfl (fun id => ?_) r.inj (fun i b hi hb => ?_) ?_
 ·by_cases hg : st.o id = .gone
  ·rw [hg]; trivial
  exact (r.ob id).step s rfl fun b hb => hk b (r.rng id b hg hb).1
 ·have := r.rng i b hi hb
  have := k.size
  exact ⟨by omega, by have h2 := r.rng i b hi hb; exact h2.2⟩
 have h1 := r.kp
 have h2 := h1.size
 exact ⟨k.os.trans h1.os, k.tape.trans h1.tape, k.output.trans h1.output, Ak h1.size k.size, fun b hb hm => (hk b (by omega)).trans (h1.block b hb hm)⟩
theorem Rel.putK {E : Ent} {β : Nat -> Option Nat} {st : St} {a : Act} {w : World} (r : Rel E β st a w) {l : Nat} {o o' : Obj} (hl : E.kb l = some o) (ho' : Uh o' = false) (hld : l ∉ E.ds) (hge : E.w0.heap.size <= l) :
 Rel { E with kb := fun b => if b = l then some o' else E.kb b } β st a (w.putObj l o') := by
 obtain ⟨hlw, hlo⟩ := r.kb l o hl
 have hlt : l < w.heap.size := (Aw.1 hlw).1
 have hsz : (w.putObj l o').heap.size = w.heap.size := by simp [World.putObj]
 have hfar : ∀ b, b ≠ l -> (w.putObj l o').heap[b]? = w.heap[b]? := fun b hb => World.putObj_heap_other hb
 have hcell : ∀ b cur ty fz, w.heap[b]? = some (.cells cur ty fz) -> b ≠ l := fun b cur ty fz h e => by
  subst e
  rw [h] at hlw
  rw [show o = .cells cur ty fz from (Option.some.inj hlw).symm] at hlo
  cases hlo
 have s : Sl (E.C β st w) (E.C β st (w.putObj l o')) :=
  ⟨rfl, fun _ h => h, fun _ h => h, fun _ h => h, Nat.le_of_eq hsz.symm, fun b _ h => h, fun b cur ty fz _ _ h => (hfar b (hcell b _ _ _ h)).trans h, fun id ty cs h => ⟨⟨cs, h⟩, rfl⟩, fun id ty k fr fz es h => ⟨fr, fz, es, h, Aj _, fun _ => ⟨rfl, fun b cur hb hc => ⟨cur, (hfar b (hcell b _ _ _ hc)).trans hc, rfl⟩⟩⟩⟩
 refine ⟨r.sz, fun t => (r.sl t).stepW s, r.df, fun id => ?_, r.inj, fun i b hi hb => ?_, ?_, r.ct.stepW s, fun b o h => ?_, r.dk.1, fun D hD => ?_⟩
 ·have hr := r.ob id
  cases hq : st.o id with
  | gone => trivial
  | box ty cs =>
   rw [hq] at hr
   refine hr.stepW s rfl fun b hb => ?_
   obtain ⟨b', cur, q1, q2, _⟩ := hr
   have q1 : β id = some b' := q1
   have hb : β id = some b := hb
   rw [hb] at q1
   injection q1 with q1
   subst q1
   exact hfar b (hcell b _ _ _ q2)
  | row ty k fr fz es =>
   rw [hq] at hr
   refine hr.stepW s rfl fun b hb => ?_
   have h2 := hr.2
   rw [hb] at h2
   obtain ⟨cur, c, q2, _⟩ := h2
   exact hfar b (hcell b _ _ _ q2)
 ·have := r.rng i b hi hb
  exact ⟨by rw [hsz]; exact this.1, this.2⟩
 ·have h := r.kp
  exact ⟨h.os, h.tape, h.output, by have h3 := h.size; show E.w0.heap.size <= (w.putObj l o').heap.size; rw [hsz]; exact h3, fun b hb hm => (hfar b (by have hb : b < E.w0.heap.size := hb; omega)).trans (h.block b hb hm)⟩
 ·have h : (if b = l then some o' else E.kb b) = some o := h
  by_cases e : b = l
  ·rw [if_pos e] at h
   injection h with h
   subst h
   rw [e]
   exact ⟨World.putObj_heap_same hlt, ho'⟩
  rw [if_neg e] at h
  exact ⟨(hfar b e).trans (r.kb b o h).1, (r.kb b o h).2⟩
 have := r.dk.2 D hD
 refine ⟨?_, this.2⟩
 show (if D = l then some o' else E.kb D) = _
 rw [if_neg fun e => hld (by rw [<- e]; exact hD)]
 exact this.1
def Ent.under (E : Ent) (β : Nat -> Option Nat) (st : St) (W : World) : Ent := ⟨W, st.o, β, fun b => (E.C β st W).S false b, fun b => (E.C β st W).S true b, E.n, [], E.kb⟩
theorem Rel.inner {E : Ent} {β : Nat -> Option Nat} {st : St} {a : Act} {W : World} (r : Rel E β st a W) {sl : List (Nat × AV)} {tmps : Array Value} (hsz : tmps.size = E.n) (hsl : ∀ t, Br (E.C β st W) (Ce sl t) (tmps.getD t undef)) : Rel (E.under β st W) β ⟨sl, st.ob⟩ ⟨tmps, []⟩ W := by
 have hS : ∀ sl' fr b, (E.C β st W).S fr b -> ((E.under β st W).C β ⟨sl', st.ob⟩ W).S fr b := fun sl' fr b h => ⟨h.1, h.2.1, .inr (.inr ⟨VC.S_weak h, fun e => by rw [e] at h; exact h⟩)⟩
 refine ⟨hsz, fun t => Br.same (C := E.C β st W) (C' := (E.under β st W).C β ⟨sl, st.ob⟩ W) rfl rfl rfl (hS _) (hsl t), rfl, fun id => Hi.same (C := E.C β st W) (C' := (E.under β st W).C β ⟨sl, st.ob⟩ W) rfl rfl rfl (hS _) (r.ob id), r.inj, fun i b hi hb => ⟨(r.rng i b hi hb).1, .inr ⟨i, hi, hb⟩⟩, Kp.refl _ _, ⟨fun id ty cs h => ⟨⟨cs, h⟩, rfl⟩, fun id ty k fr fz es h => ⟨fr, fz, es, h, Aj _, fun _ => ⟨rfl, fun b cur hb hc => ⟨cur, hc, rfl⟩⟩⟩⟩, r.kb, List.nodup_nil, fun D h => by cases h⟩
theorem Rel.outer {E : Ent} {β : Nat -> Option Nat} {st : St} {a : Act} {W : World} (r : Rel E β st a W) (hlive : ∀ id, st.o id ≠ .gone -> (st.o id).live) {E3 : Ent} (hle : Ej (E.under β st W) E3) {β3 : Nat -> Option Nat} {sl3 : List (Nat × AV)} {ob3 : List Ob} {a3 : Act} {W3 : World} (r3 : Rel E3 β3 ⟨sl3, ob3⟩ a3 W3) :
 Rel E β3 ⟨st.sl, ob3⟩ a W3 /\ (∀ b, b < W.heap.size -> ¬ (E.C β st W).lives b -> W3.heap[b]? = W.heap[b]? /\ ¬ (E.C β3 ⟨st.sl, ob3⟩ W3).lives b) /\ W.heap.size <= W3.heap.size := by
 obtain ⟨⟨ds3, kb3, rfl⟩, hkb⟩ := hle
 have hMl : ∀ b, (E.under β st W).M b -> (E.C β st W).lives b := fun b ⟨id, h1, h2⟩ => ⟨id, h2, hlive id h1⟩
 have hkeep : ∀ b, b < W.heap.size -> ¬ (E.under β st W).M b -> W3.heap[b]? = W.heap[b]? := fun b hb hm => r3.kp.block b hb hm
 have hsz : W.heap.size <= W3.heap.size := r3.kp.size
 have hlv : ∀ b, b < W.heap.size -> (E.C β3 ⟨st.sl, ob3⟩ W3).lives b -> (E.C β st W).lives b := fun b hb ⟨i, h1, h2⟩ => by
  have h2 : ((St.mk sl3 ob3).o i).live := h2
  rcases (r3.rng i b (fun e => by rw [e] at h2; exact h2) h1).2 with h3 | h3
  ·have h3 : W.heap.size <= b := h3
   omega
  exact hMl b h3
 have s : Ks (E.C β st W) (E.C β3 ⟨st.sl, ob3⟩ W3) := by
  refine ⟨rfl, fun _ h => h, fun _ h => h, fun _ h => h, hsz, hlv, fun b hb hn => hkeep b hb fun hm => hn (hMl b hm), fun id ty cs h => r3.ct.box id ty cs h, fun id ty k fr fz es h => r3.ct.row id ty k fr fz es h⟩
 have hS : ∀ fr b, (({ E.under β st W with ds := ds3, kb := kb3 } : Ent).C β3 ⟨sl3, ob3⟩ W3).S fr b -> (E.C β3 ⟨st.sl, ob3⟩ W3).S fr b := fun fr b h => by
  refine ⟨h.1, h.2.1, ?_⟩
  have h3 : W.heap.size <= b \/ (E.under β st W).M b \/ ((E.C β st W).S false b /\ (fr = true -> (E.C β st W).S true b)) := h.2.2
  show E.w0.heap.size <= b \/ E.M b \/ _
  rcases h3 with h3 | ⟨id, h3, h4⟩ | ⟨h3, h4⟩
  ·have := r.kp.size
   exact .inl (by omega)
  ·rcases (r.rng id b h3 h4).2 with h5 | h5
   ·exact .inl h5
   exact .inr (.inl h5)
  cases fr with
  | true => exact (h4 rfl).2.2
  | false => exact h3.2.2
 refine ⟨⟨r.sz, fun t => (r.sl t).step s, r.df, fun id => Hi.same (C := ({ E.under β st W with ds := ds3, kb := kb3 } : Ent).C β3 ⟨sl3, ob3⟩ W3) (C' := E.C β3 ⟨st.sl, ob3⟩ W3) rfl rfl rfl hS (r3.ob id), r3.inj, fun i b hi hb => ?_, ?_, r.ct.step s, fun b o h => ?_, r.dk⟩, fun b hb hn => ⟨hkeep b hb fun hm => hn (hMl b hm), fun h => hn (hlv b hb h)⟩, hsz⟩
 ·have h1 := r3.rng i b hi hb
  refine ⟨h1.1, ?_⟩
  have h2 : W.heap.size <= b \/ (E.under β st W).M b := h1.2
  rcases h2 with h2 | ⟨id, h3, h4⟩
  ·have := r.kp.size
   exact .inl (by omega)
  exact (r.rng id b h3 h4).2
 ·have h := r.kp
  refine ⟨r3.kp.os.trans h.os, r3.kp.tape.trans h.tape, r3.kp.output.trans h.output, Ak h.size hsz, fun b hb hm => ?_⟩
  have := h.size
  refine (hkeep b (by omega) fun ⟨id, h3, h4⟩ => ?_).trans (h.block b hb hm)
  rcases (r.rng id b h3 h4).2 with h5 | h5
  ·omega
  exact hm h5
 exact r3.kb b o (hkb b o h)
noncomputable def VCZ (W0 : Nat) (Z L : Nat -> Prop) (W : World) : VC := ⟨W.heap, fun id => (open Classical in if L id then .box 0 [] else .gone), some, W0, fun _ => False, Z, fun _ => False⟩
theorem Ww {W0 : Nat} {Z L : Nat -> Prop} {W : World} {b : Nat} : (VCZ W0 Z L W).lives b <-> L b := by
 constructor
 ·rintro ⟨id, h1, h2⟩
  have h1 : some id = some b := h1
  injection h1 with h1
  subst h1
  have h2 : (open Classical in if L id then Ob.box 0 [] else Ob.gone).live := h2
  apply Classical.byContradiction
  intro h
  rw [if_neg h] at h2
  exact h2
 intro h
 refine ⟨b, rfl, ?_⟩
 show (open Classical in if L b then Ob.box 0 [] else Ob.gone).live
 rw [if_pos h]; trivial
def Za (J : Nat -> Bool -> (Nat -> Prop) -> World -> Prop) (i : Nat) (L : Nat -> Prop) (W1 : World) : Ending -> World -> Prop := fun e W' => ∃ s L', e = .returned (.bool (!s)) /\ J (i + 1) s L' W' /\ (∀ b, L' b -> b < W'.heap.size) /\ W1.heap.size <= W'.heap.size /\
 (∀ b cur ty fz, ¬ L b -> W1.heap[b]? = some (.cells cur ty fz) -> W'.heap[b]? = some (.cells cur ty fz)) /\ ∀ b, b < W1.heap.size -> ¬ L b -> ¬ L' b
def Sn (P : Program) (gf : FuncId) (caps : List AV) (items : List (List AV)) : Prop :=
 Aa9 P gf /\ ∀ (C : VC) (lb : Array Value) (W : World), C.h.size <= W.heap.size -> (∀ b, C.S false b -> W.heap[b]? = C.h[b]?) -> Br C (.fn gf caps) (.func (.func gf) #[] lb) ->
  ∀ (l : Nat) (L0 : Nat -> Prop) (J : Nat -> Bool -> (Nat -> Prop) -> World -> Prop), (∀ b, L0 b -> b < W.heap.size) -> (∀ b, C.S false b -> ¬ L0 b) -> (∀ i s L W1 W2, J i s L W1 -> Kp (fun _ => False) W1 W2 -> J i s L W2) ->
  (∀ i L W1 vs us, J i false L W1 -> (∀ b, L b -> b < W1.heap.size) -> items[i]? = some vs -> us.size = vs.length -> (∀ (j : Nat) (v : AV) (u : Value), vs[j]? = some v -> us[j]? = some u -> Br (VCZ W.heap.size (C.S false) L W1) v u) ->
   YieldAt Fence.wide 0 P l us W1 (Za J i L W1)) ->
  J 0 false L0 W -> Calls P gf (#[.func (.yield l) #[] #[]] ++ lb) W fun e W' => (∃ v, e = .returned v) /\ ∃ i s L', J i s L' W' /\ (s = false -> i = items.length)
def Aoh (n : Nat) (l : List Oper) : Bool := l.all fun o => match o with
 | ⟨some d, .assign (.tmp s), _, _, _, none⟩ => decide (d < n)
 | _ => false
def Nz : List Oper -> St -> St
 | [], st => st
 | ⟨some d, .assign (.tmp s), _, _, _, none⟩ :: l, st => Nz l (st.put (some d) (Ce st.sl s))
 | _ :: l, st => Nz l st
theorem Aog {E : Ent} {F : Fence} (hF : FOk E F) {β : Nat -> Option Nat} {ops : Array Oper} {Q : Exit -> Act -> World -> Prop} : ∀ (l : List Oper), Aoh E.n l = true -> ∀ (st : St) (a : Act) (w : World), Rel E β st a w -> (∀ a', Rel E β (Nz l st) a' w -> Q .normal a' w) -> wpListIn F 0 P ops Q l a w
 | [], _, st, a, w, r, h => h a r
 | o :: l, hb, st, a, w, r, h => by
  simp only [Aoh, List.all_cons, Ah] at hb
  obtain ⟨h1, h2⟩ := hb
  split at h1
  ·rename_i d s ty p af
   refine wpListIn_plain rfl fun K hK => Na hF (by intro c h; cases h) ?_
   have e1 : (execOp a.eval ⟨some d, .assign (.tmp s), ty, p, af, none⟩).run P w = .ok (.value (a.tmps.getD s undef)) w := rfl
   unfold Oper.wp
   rw [e1]
   refine hK _ _ (Aog hF l h2 (st.put (some d) (Ce st.sl s)) _ w (r.put (r.sl s) (some d) fun x hx => ?_) h)
   injection hx with hx
   subst hx
   simpa using h1
  cases h1
def I3 : List Tmp -> List AV -> List (Nat × AV) -> List (Nat × AV)
 | p :: ps, v :: vs, sl => I3 ps vs ((p, v) :: sl)
 | _, _, sl => sl
theorem Aiw {C : VC} {n : Nat} : ∀ (ps : List Tmp) (vs : List AV) (us : List Value) (sl : List (Nat × AV)) (tmps : Array Value), tmps.size = n -> (∀ p ∈ ps, p < n) -> ps.length = vs.length -> us.length = vs.length -> (∀ (j : Nat) (v : AV) (u : Value), vs[j]? = some v -> us[j]? = some u -> Br C v u) -> (∀ t, Br C (Ce sl t) (tmps.getD t undef)) ->
 ((ps.zip us).foldl (fun t (p, v) => t.setIfInBounds p v) tmps).size = n /\ ∀ t, Br C (Ce (I3 ps vs sl) t) (((ps.zip us).foldl (fun t (p, v) => t.setIfInBounds p v) tmps).getD t undef)
 | [], vs, us, sl, tmps, hn, _, _, _, _, hsl => ⟨hn, hsl⟩
 | p :: ps, v :: vs, u :: us, sl, tmps, hn, hp, h1, h2, hv, hsl => by
  simp only [List.zip_cons_cons, List.foldl_cons, I3]
  refine Aiw ps vs us ((p, v) :: sl) _ (by simp [hn]) (fun q hq => hp q (by simp [hq])) (by simpa using h1) (by simpa using h2) (fun j v' u' h3 h4 => hv (j + 1) v' u' (by simpa using h3) (by simpa using h4)) fun t => ?_
  have hlt : p < tmps.size := by rw [hn]; exact hp p (by simp)
  simp only [Ce]
  by_cases e : p = t
  ·subst e
   rw [show (p == p) = true by simp]
   simp only [cond_true]
   rw [Av, Array.getElem?_setIfInBounds_self_of_lt hlt]
   exact hv 0 v u rfl rfl
  rw [show (p == t) = false by simp [e]]
  simp only [cond_false]
  rw [Av, Array.getElem?_setIfInBounds_ne e, <- Av]
  exact hsl t
 | p :: ps, [], us, sl, tmps, hn, hp, h1, h2, hv, hsl => by cases h1
 | p :: ps, v :: vs, [], sl, tmps, hn, hp, h1, h2, hv, hsl => by cases h2
theorem Rel.lay {E : Ent} {β : Nat -> Option Nat} {st : St} {a : Act} {w : World} (r : Rel E β st a w) {o : Obj} (ho : Uh o = false) :
 Rel { E with kb := fun b => if b = w.heap.size then some o else E.kb b } β st a (w.alloc o) /\ Ej E { E with kb := fun b => if b = w.heap.size then some o else E.kb b } := by
 have hk : Kp (fun _ => False) w (w.alloc o) := ⟨rfl, rfl, rfl, by simp, fun b hb _ => Below.heap_alloc _ _ _ hb⟩
 have r2 := r.grow hk
 have hn : ∀ b o', E.kb b = some o' -> b ≠ w.heap.size := fun b o' h => by
  have := (Aw.1 (r.kb b o' h).1).1
  omega
 refine ⟨⟨r2.sz, r2.sl, r2.df, r2.ob, r2.inj, r2.rng, r2.kp, r2.ct, fun b o' h => ?_, r2.dk.1, fun D hD => ?_⟩, ⟨⟨_, _, rfl⟩, fun b o' h => ?_⟩⟩
 ·have h : (if b = w.heap.size then some o else E.kb b) = some o' := h
  by_cases e : b = w.heap.size
  ·rw [if_pos e] at h
   injection h with h
   subst h
   rw [e]
   exact ⟨World.alloc_heap_new w _, ho⟩
  rw [if_neg e] at h
  exact r2.kb b o' h
 ·have := r2.dk.2 D hD
  exact ⟨by show (if D = w.heap.size then some o else E.kb D) = _; rw [if_neg (hn D _ this.1)]; exact this.1, this.2⟩
 show (if b = w.heap.size then some o else E.kb b) = _
 rw [if_neg (hn b o' h)]
 exact h
theorem Rel.mark {E : Ent} {β : Nat -> Option Nat} {st : St} {a : Act} {w : World} (r : Rel E β st a w) {D : Nat} (hD : E.kb D = some (.deferred (some []))) (hn : D ∉ E.ds) (hge : E.w0.heap.size <= D) :
 Rel { E with ds := D :: E.ds } β st { a with defers := [dmk D] ++ a.defers } w :=
 ⟨r.sz, r.sl, by show [dmk D] ++ a.defers = dmk D :: E.ds.map dmk; rw [r.df]; rfl, r.ob, r.inj, r.rng, r.kp, r.ct, r.kb, List.nodup_cons.2 ⟨hn, r.dk.1⟩, fun D' h => by
  cases h with
  | head => exact ⟨hD, hge⟩
  | tail _ h => exact r.dk.2 D' h⟩
def Ao1 (c : Code) (e : Exit) : Prop := (c = .ret /\ e = .ret) \/ (∃ id, c = .exit id /\ e = .exit id) \/ ∃ t, c = .goto t /\ e = .goto t
def Gh (k : Nat) (sl : List (Nat × AV)) (o : List Ob) (I : Prop) (K : Exit -> St -> Prop) : Exit -> St -> Prop
 | .normal, s => WkE k s ⟨[], o⟩ /\ I
 | .ret, s => ∃ ob', WkE k s ⟨[], ob'⟩ /\ K .ret ⟨sl, ob'⟩
 | .exit id, s => ∃ ob', WkE k s ⟨[], ob'⟩ /\ K (.exit id) ⟨sl, ob'⟩
 | .goto t, s => ∃ ob', WkE k s ⟨[], ob'⟩ /\ K (.goto t) ⟨sl, ob'⟩
 | _, _ => False
def Ob.liveB : Ob -> Bool
 | .gone => true
 | .box _ _ => true
 | .row _ _ _ fz _ => !fz
theorem Og {sl : List (Nat × AV)} : ∀ {l : List Ob}, l.all Ob.liveB = true -> ∀ id, (St.mk sl l).o id ≠ .gone -> ((St.mk sl l).o id).live := by
 intro l h id hid
 have hq : (St.mk sl l).o id = l.getD id .gone := rfl
 rw [hq] at hid ⊢
 cases hx : l[id]? with
 | none => rw [Ad, hx] at hid; exact absurd rfl hid
 | some o =>
  rw [Ad, hx] at hid ⊢
  have := Am.1 h o (Ac hx)
  simp only [Bh] at hid ⊢
  cases o with
  | gone => exact absurd rfl hid
  | box ty cs => trivial
  | row ty k fr fz es =>
   simp only [Ob.liveB] at this
   show fz = false
   simpa using this
theorem Dd {k : Nat} {sel : List Nat} (h : sel.take k = List.range k) : ∀ id, id < k -> sel[id]? = some id := fun id hid => by
 have : (sel.take k)[id]? = some id := by rw [h, List.getElem?_range hid]
 rwa [Ag hid] at this
theorem Bw {α β : Type} {g : α -> β} {l : List α} {i : Nat} {y : β} (h : (l.map g)[i]? = some y) : ∃ a, l[i]? = some a /\ g a = y := by
 rw [Ap] at h
 cases hq : l[i]? with
 | none => rw [hq] at h; cases h
 | some a => rw [hq] at h; exact ⟨a, rfl, by simpa using h⟩
attribute [go_sem] Nz I3
end
section
variable {P : Program} {n m : Nat} {st s' : St} {K : Exit -> St -> Prop} {id : Nat} {l : List Oper} {y : Code}
theorem VW.R (h : VW P n m y s' K) (hr : ∀ K1 : St -> Prop, K1 s' -> runs P (Dg l) st K1 := by intro K k; simp [go_sem]; exact k) (hd : Cw n l = true := by rfl) : VW P n m (.seq (.region id l.toArray false) y) st K := .region_seq hd fun K1 h1 => hr K1 (h1 _ h)
theorem VW.R1 (h : K .normal s') (hr : ∀ K1 : St -> Prop, K1 s' -> runs P (Dg l) st K1 := by intro K k; simp [go_sem]; exact k) (hd : Cw n l = true := by rfl) : VW P n m (.region id l.toArray false) st K := .region1 hd fun K1 h1 => hr K1 (h1 _ h)
theorem VW.S (hr : ∀ K1 : St -> Prop, K1 s' -> runs P (Dg l) st K1) (h : VW P n m y s' K) (hd : Cw n l = true := by rfl) : VW P n m (.seq (.region id l.toArray false) y) st K := .region_seq hd fun K1 h1 => hr K1 (h1 _ h)
theorem VW.S1 (hr : ∀ K1 : St -> Prop, K1 s' -> runs P (Dg l) st K1) (h : K .normal s') (hd : Cw n l = true := by rfl) : VW P n m (.region id l.toArray false) st K := .region1 hd fun K1 h1 => hr K1 (h1 _ h)
theorem VW.C {c : Operand} {x : Code} (ht : C4 (st.raw c).sv = true -> VW P n m x st K) (hf : C4 (st.raw c).sv = false -> VW P n m y st K) (hb : F7 (st.raw c).sv = true := by simp [go_sem]) (hs : (st.raw c).sb = true := by simp [go_sem]) : VW P n m (.cond c x y) st K := .cond hb hs ht hf
end
section
variable {P : Program} {d : Option Tmp} {ty : TypeId} {os : List VO} {st : St} {K : St -> Prop} {KT : Tr -> St -> Prop} {tr : Tr} {f : FuncId} {args args' Dt : List AV} {bor g : Bool} {σa σr : List Ob} {res : AV} {rd : List Nat}
theorem Pw.l (hp : B8 P f [] args' σr res) (h : runs P os (st.after d (res.shift st.ob.length) (Hr st.ob.length 0 σr)) K) (ha : Gk args = args' := by rfl) (hl : bor = true -> res.cln = true /\ σr.all Ob.cln = true := by simp [AV.cln, Cp]) : Pw P f args bor Dt d os st K := .lo hp ha hl h
theorem Pv.l (hp : B8 P f [] args' σr res) (h : Dj P os (st.after d (res.shift st.ob.length) (Hr st.ob.length 0 σr)) ((rd, (Hr st.ob.length 0 σr).map (·.1)) :: tr) KT) (ha : Gk args = args' := by rfl) (hl : bor = true -> res.cln = true /\ σr.all Ob.cln = true := by simp [AV.cln, Cp]) : Pv P f args bor Dt d os st rd tr KT := .lo hp ha hl h
theorem Vr.l (hp : B8 P f [] args' σr res) (h : runs P os (st.after d (.gd g (res.shift st.ob.length)) (bif g then Hr st.ob.length 0 σr else [])) K) (ha : Gk args = args' := by rfl) (hl : bor = true -> res.cln = true /\ σr.all Ob.cln = true := by simp [AV.cln, Cp]) : Vr P g f args bor d os st K := .lo hp ha hl h
theorem Qp.l (hp : B8 P f [] args' σr res) (h : Dj P os (st.after d (.gd g (res.shift st.ob.length)) (bif g then Hr st.ob.length 0 σr else [])) ((rd, (Hr st.ob.length 0 σr).map (·.1)) :: tr) KT) (ha : Gk args = args' := by rfl) (hl : bor = true -> res.cln = true /\ σr.all Ob.cln = true := by simp [AV.cln, Cp]) : Qp P g f args bor d os st rd tr KT := .lo hp ha hl h
theorem Pw.o (sel : List Nat) (hp : B8 P f σa args' σr res) (h : runs P os (st.after d (J2 sel st.ob.length σr res).1 (J2 sel st.ob.length σr res).2) K) (hσ : (sel.map fun id => ((st.o id).passR st.o fun id => idx id sel 0).low) = σa := by simp [go_sem]) (ha : Gk (D0 st.o (fun id => idx id sel 0) Dt) = args' := by simp [go_sem]) (hc : Vs Dt st sel σr res := by constructor <;> simp [go_sem]) : Pw P f args bor Dt d os st K := .ob sel hp hσ ha hc h
theorem Pv.o (sel : List Nat) (hp : B8 P f σa args' σr res) (h : Dj P os (st.after d (J2 sel st.ob.length σr res).1 (J2 sel st.ob.length σr res).2) ((rd, (J2 sel st.ob.length σr res).2.map (·.1)) :: tr) KT) (hσ : (sel.map fun id => ((st.o id).passR st.o fun id => idx id sel 0).low) = σa := by simp [go_sem]) (ha : Gk (D0 st.o (fun id => idx id sel 0) Dt) = args' := by simp [go_sem]) (hc : Vs Dt st sel σr res := by constructor <;> simp [go_sem]) : Pv P f args bor Dt d os st rd tr KT := .ob sel hp hσ ha hc h
end
theorem aK {a b : Prop} (hb : b) (ha : a := by intros; (repeat' refine Ax ?_ ?_) <;> omega) : a /\ b := ⟨ha, hb⟩
theorem gx {α : Type} (l : List α) (i : Nat) (h : i < l.length := by first | omega | (simp; omega)) : ∃ e, l[i]? = some e := ⟨_, Aa h⟩
theorem Ao0 {ρ : Nat -> Option Nat} {l l' : List (Nat × AV)} {t : Nat} {c' : AV} : LeS ρ l ((t, c') :: l') = (Le ((Ce l t).ren ρ) c' /\ LeS ρ l l') := propext ⟨fun h => by cases h with | cons h1 h2 => exact ⟨h1, h2⟩, fun h => .cons h.1 h.2⟩
theorem Ap7 {ρ : Nat -> Option Nat} {l : List (Nat × AV)} : LeS ρ l [] = True := eq_true .nil
theorem Ap6 {o : Nat -> Ob} {ρ : Nat -> Option Nat} {id : Nat} {ids : List Nat} {x : Ob} {xs : List Ob} : OL o ρ (id :: ids) (x :: xs) = (Sm ((o id).ren ρ) x /\ OL o ρ ids xs) := propext ⟨fun h => by cases h with | cons h1 h2 => exact ⟨h1, h2⟩, fun h => .cons h.1 h.2⟩
theorem Arg {o : Nat -> Ob} {ρ : Nat -> Option Nat} : OL o ρ [] [] = True := eq_true .nil
attribute [go_sem] Ao0 Ap7 Ap6 Arg
section
variable {P : Program} {n m : Nat} {st s' : St} {K : Exit -> St -> Prop} {id : Nat} {l : List Oper} {y : Code}
theorem VW.H {p : Prop} (e : p) (h : VW P n m y s' K) (hr : ∀ K1 : St -> Prop, p -> K1 s' -> runs P (Dg l) st K1 := by intro K e k; simp [go_sem, e]; (repeat first | exact k | refine aK ?_)) (hd : Cw n l = true := by rfl) : VW P n m (.seq (.region id l.toArray false) y) st K := .region_seq hd fun K1 h1 => hr K1 e (h1 _ h)
theorem VW.L {p : Prop} {f : FuncId} {args : List AV} {σr : List Ob} {res : AV} (e : p) (c : B8 P f [] args σr res) (h : VW P n m y s' K) (hr : ∀ K1 : St -> Prop, p -> B8 P f [] args σr res -> K1 s' -> runs P (Dg l) st K1 := by intro K e c k; simp [go_sem, e]; (repeat refine aK ?_); refine .l c ?_; simp [go_sem, e]; (repeat first | exact k | refine aK ?_)) (hd : Cw n l = true := by rfl) : VW P n m (.seq (.region id l.toArray false) y) st K := .region_seq hd fun K1 h1 => hr K1 e c (h1 _ h)
theorem VW.H1 {p : Prop} (e : p) (h : K .normal s') (hr : ∀ K1 : St -> Prop, p -> K1 s' -> runs P (Dg l) st K1 := by intro K e k; simp [go_sem, e]; (repeat first | exact k | refine aK ?_)) (hd : Cw n l = true := by rfl) : VW P n m (.region id l.toArray false) st K := .region1 hd fun K1 h1 => hr K1 e (h1 _ h)
theorem VW.L1 {p : Prop} {f : FuncId} {args : List AV} {σr : List Ob} {res : AV} (e : p) (c : B8 P f [] args σr res) (h : K .normal s') (hr : ∀ K1 : St -> Prop, p -> B8 P f [] args σr res -> K1 s' -> runs P (Dg l) st K1 := by intro K e c k; simp [go_sem, e]; (repeat refine aK ?_); refine .l c ?_; simp [go_sem, e]; (repeat first | exact k | refine aK ?_)) (hd : Cw n l = true := by rfl) : VW P n m (.region id l.toArray false) st K := .region1 hd fun K1 h1 => hr K1 e c (h1 _ h)
theorem wk {sl sl' : List (Nat × AV)} {ob ob' : List Ob} {p : Prop} (e : p) (sel : List Nat) (h1 : p -> LeS (fun id => idx id sel 0) sl sl' := by intro e; simp [go_sem, e]) (h2 : p -> OL (fun i => ob.getD i .gone) (fun id => idx id sel 0) sel ob' := by intro e; simp [go_sem, e]) (hnd : sel.Nodup := by decide) (hs : ∀ id, id < m -> sel[id]? = some id := by first | exact Dd rfl | simp) : WkE m ⟨sl, ob⟩ ⟨sl', ob'⟩ := ⟨sel, Bp hnd (h1 e) (h2 e), hs⟩
end
theorem ok0 : True := trivial
theorem cj2 {a b : Prop} (ha : a) (hb : b) : a /\ b := ⟨ha, hb⟩
theorem cj3 {a b c : Prop} (ha : a) (hb : b) (hc : c) : a /\ b /\ c := ⟨ha, hb, hc⟩
theorem cj4 {a b c d : Prop} (ha : a) (hb : b) (hc : c) (hd : d) : a /\ b /\ c /\ d := ⟨ha, hb, hc, hd⟩
theorem cj5 {a b c d e : Prop} (ha : a) (hb : b) (hc : c) (hd : d) (he : e) : a /\ b /\ c /\ d /\ e := ⟨ha, hb, hc, hd, he⟩
theorem cj6 {a b c d e f : Prop} (ha : a) (hb : b) (hc : c) (hd : d) (he : e) (hf : f) : a /\ b /\ c /\ d /\ e /\ f := ⟨ha, hb, hc, hd, he, hf⟩
section
variable {P : Program} {n m : Nat} {st s' : St} {K : Exit -> St -> Prop} {y : Code}
theorem rL {rs : List ResultVar} {res : AV} {p : Prop} (e : p) (h : p -> ((Jk P st rs).ren fun _ => none).low = res := by intro e; simp [go_sem, e]) (hc : S9 P st rs := by simp [go_sem]) : Pu P 0 rs [] res .ret st := B2 hc (h e)
theorem rW {sl : List (Nat × AV)} {ob : List Ob} {rs : List ResultVar} {σr : List Ob} {res : AV} {p : Prop} (e : p) (sel : List Nat) (hc : S9 P ⟨sl, ob⟩ rs := by simp [go_sem]) (hnd : sel.Nodup := by decide) (hm : ∀ id, id < m -> sel[id]? = some id := by first | exact Dd rfl | simp) (h : p -> ((Jk P ⟨sl, ob⟩ rs).ren fun id => idx id sel 0).low = res := by intro e; simp [go_sem, e]) (ho : p -> OL (fun i => ob.getD i .gone) (fun id => idx id sel 0) sel σr := by intro e; simp [go_sem, e]) : Pu P m rs σr res .ret ⟨sl, ob⟩ := Nx sel hc hnd hm (h e) (ho e)
end
theorem B0 {P : Program} {f : FuncId} {fn : Func} {c : Code} {args : List AV} {σa σr : List Ob} {res : AV} {rs : List ResultVar} (hf : P.funcs[f]? = some fn) (h : VW P fn.ntmps σa.length c ⟨E8 0 args, σa⟩ (Pu P σa.length rs σr res)) (hb : fn.body = some c := by rfl) (hn : (fn.name == "runtime.NumGoroutine") = false := by rfl) (hrs : fn.results = rs.toArray := by rfl) (hk : args.length <= fn.ntmps := by exact Nat.le_of_ble_eq_true rfl) : B8 P f σa args σr res := Y0 hf hb hn hrs hk h
section
variable {P : Program} {n m : Nat} {st s' : St} {K : Exit -> St -> Prop} {id : Nat} {l : List Oper} {y : Code}
theorem VW.D {tr : Tr} (h : VW P n m y s' K) (hr : ∀ K1 : Tr -> St -> Prop, K1 tr s' -> Dj P (Dg l) st [] K1 := by intro K k; simp [go_sem]; exact k) (hm : P.follows .mixedOrders = true := by kernel_rfl) (hd : Cw n l = true := by rfl) (hs : Fy l = true := by kernel_rfl) (hi : Mx l tr = true := by kernel_rfl) : VW P n m (.seq (.region id l.toArray true) y) st K := .draw_seq hm hd hs fun K1 h1 => hr K1 (h1 _ _ hi h)
theorem VW.E {tr : Tr} (hr : ∀ K1 : Tr -> St -> Prop, K1 tr s' -> Dj P (Dg l) st [] K1) (h : VW P n m y s' K) (hm : P.follows .mixedOrders = true := by kernel_rfl) (hd : Cw n l = true := by rfl) (hs : Fy l = true := by kernel_rfl) (hi : Mx l tr = true := by kernel_rfl) : VW P n m (.seq (.region id l.toArray true) y) st K := .draw_seq hm hd hs fun K1 h1 => hr K1 (h1 _ _ hi h)
theorem VW.E1 {tr : Tr} (hr : ∀ K1 : Tr -> St -> Prop, K1 tr s' -> Dj P (Dg l) st [] K1) (h : K .normal s') (hm : P.follows .mixedOrders = true := by kernel_rfl) (hd : Cw n l = true := by rfl) (hs : Fy l = true := by kernel_rfl) (hi : Mx l tr = true := by kernel_rfl) : VW P n m (.region id l.toArray true) st K := .draw1 hm hd hs fun K1 h1 => hr K1 (h1 _ _ hi h)
theorem VW.G {tr : Tr} {p : Prop} (e : p) (h : VW P n m y s' K) (hr : ∀ K1 : Tr -> St -> Prop, p -> K1 tr s' -> Dj P (Dg l) st [] K1 := by intro K e k; simp [go_sem, e]; (repeat first | exact k | refine aK ?_)) (hm : P.follows .mixedOrders = true := by kernel_rfl) (hd : Cw n l = true := by rfl) (hs : Fy l = true := by kernel_rfl) (hi : Mx l tr = true := by kernel_rfl) : VW P n m (.seq (.region id l.toArray true) y) st K := .draw_seq hm hd hs fun K1 h1 => hr K1 e (h1 _ _ hi h)
theorem VW.G1 {tr : Tr} {p : Prop} (e : p) (h : K .normal s') (hr : ∀ K1 : Tr -> St -> Prop, p -> K1 tr s' -> Dj P (Dg l) st [] K1 := by intro K e k; simp [go_sem, e]; (repeat first | exact k | refine aK ?_)) (hm : P.follows .mixedOrders = true := by kernel_rfl) (hd : Cw n l = true := by rfl) (hs : Fy l = true := by kernel_rfl) (hi : Mx l tr = true := by kernel_rfl) : VW P n m (.region id l.toArray true) st K := .draw1 hm hd hs fun K1 h1 => hr K1 e (h1 _ _ hi h)
theorem VW.M {tr : Tr} {p : Prop} {f : FuncId} {args : List AV} {σr : List Ob} {res : AV} (e : p) (c : B8 P f [] args σr res) (h : VW P n m y s' K) (hr : ∀ K1 : Tr -> St -> Prop, p -> B8 P f [] args σr res -> K1 tr s' -> Dj P (Dg l) st [] K1 := by intro K e c k; simp [go_sem, e]; (repeat refine aK ?_); refine .l c ?_; simp [go_sem, e]; (repeat first | exact k | refine aK ?_)) (hm : P.follows .mixedOrders = true := by kernel_rfl) (hd : Cw n l = true := by rfl) (hs : Fy l = true := by kernel_rfl) (hi : Mx l tr = true := by kernel_rfl) : VW P n m (.seq (.region id l.toArray true) y) st K := .draw_seq hm hd hs fun K1 h1 => hr K1 e c (h1 _ _ hi h)
theorem VW.M1 {tr : Tr} {p : Prop} {f : FuncId} {args : List AV} {σr : List Ob} {res : AV} (e : p) (c : B8 P f [] args σr res) (h : K .normal s') (hr : ∀ K1 : Tr -> St -> Prop, p -> B8 P f [] args σr res -> K1 tr s' -> Dj P (Dg l) st [] K1 := by intro K e c k; simp [go_sem, e]; (repeat refine aK ?_); refine .l c ?_; simp [go_sem, e]; (repeat first | exact k | refine aK ?_)) (hm : P.follows .mixedOrders = true := by kernel_rfl) (hd : Cw n l = true := by rfl) (hs : Fy l = true := by kernel_rfl) (hi : Mx l tr = true := by kernel_rfl) : VW P n m (.region id l.toArray true) st K := .draw1 hm hd hs fun K1 h1 => hr K1 e c (h1 _ _ hi h)
end
end Go.Proofs.YtkkimgjinbaemaaGreat
