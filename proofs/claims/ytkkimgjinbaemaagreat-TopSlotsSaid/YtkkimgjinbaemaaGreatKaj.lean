/- The walk. -/
import Derived.Test.YtkkimgjinbaemaaGreatKai
namespace Go.Proofs.YtkkimgjinbaemaaGreat
open Go.RowKit
set_option linter.unusedVariables false
set_option linter.unusedSimpArgs false
set_option maxRecDepth 100000
set_option maxHeartbeats 4000000
section
variable {P : Program}
theorem Rel.rebase {E : Ent} {β : Nat -> Option Nat} {st : St} {a : Act} {w : World} (r : Rel E β st a w) {l : Nat} {o o' : Obj} (hl : E.kb l = some o) (ho' : Y9 o' = false) (hld : l ∉ E.ds) (hlt : l < E.w0.heap.size) :
 Rel { E with w0 := E.w0.putObj l o', kb := fun b => if b = l then some o' else E.kb b } β st a (w.putObj l o') := by
 obtain ⟨hlw, hlo⟩ := r.kb l o hl
 have hltw : l < w.heap.size := (Aw.1 hlw).1
 have hsz : (w.putObj l o').heap.size = w.heap.size := by simp [World.putObj]
 have hsz0 : (E.w0.putObj l o').heap.size = E.w0.heap.size := by simp [World.putObj]
 have hfar : ∀ b, b ≠ l -> (w.putObj l o').heap[b]? = w.heap[b]? := fun b hb => World.putObj_heap_other hb
 have hcell : ∀ b cur ty fz, w.heap[b]? = some (.cells cur ty fz) -> b ≠ l := fun b cur ty fz h e => by
  subst e
  rw [h] at hlw
  rw [show o = .cells cur ty fz from (Option.some.inj hlw).symm] at hlo
  cases hlo
 have hC : ({ E with w0 := E.w0.putObj l o', kb := fun b => if b = l then some o' else E.kb b } : Ent).C β st (w.putObj l o') = E.C β st (w.putObj l o') := by
  show VC.mk _ _ _ _ _ _ _ = VC.mk _ _ _ _ _ _ _
  rw [hsz0]
  rfl
 have s : U1 (E.C β st w) (E.C β st (w.putObj l o')) :=
  ⟨rfl, fun _ h => h, fun _ h => h, fun _ h => h, Nat.le_of_eq hsz.symm, fun b _ h => h, fun b cur ty fz _ _ h => (hfar b (hcell b _ _ _ h)).trans h, fun id ty cs h => ⟨⟨cs, h⟩, rfl⟩, fun id ty k fr fz es h => ⟨fr, fz, es, h, Aj _, fun _ => ⟨rfl, fun b cur hb hc => ⟨cur, (hfar b (hcell b _ _ _ hc)).trans hc, rfl⟩⟩⟩⟩
 refine ⟨r.sz, fun t => by rw [hC]; exact (r.sl t).stepW s, r.df, fun id => ?_, r.inj, fun i b hi hb => ?_, ?_, ?_, fun b o h => ?_, r.dk.1, fun D hD => ?_⟩
 ·rw [hC]
  have hr := r.ob id
  cases hq : st.o id with
  | gone => trivial
  | box ty cs =>
   rw [hq] at hr
   refine hr.stepW s rfl fun b hb => ?_
   obtain ⟨b', cur, q1, q2, _⟩ := hr
   have q1 : β id = some b' := q1
   have hb : β id = some b := hb
   rw [hb] at q1
   injection q1 with q1
   subst q1
   exact hfar b (hcell b _ _ _ q2)
  | row ty k fr fz es =>
   rw [hq] at hr
   refine hr.stepW s rfl fun b hb => ?_
   have h2 := hr.2
   rw [hb] at h2
   obtain ⟨cur, c, q2, _⟩ := h2
   exact hfar b (hcell b _ _ _ q2)
 ·have := r.rng i b hi hb
  refine ⟨by rw [hsz]; exact this.1, ?_⟩
  show (E.w0.putObj l o').heap.size <= b \/ E.M b
  rw [hsz0]
  exact this.2
 ·have h := r.kp
  refine ⟨h.os, h.tape, h.output, ?_, fun b hb hm => ?_⟩
  ·show (E.w0.putObj l o').heap.size <= (w.putObj l o').heap.size
   rw [hsz, hsz0]; exact h.size
  have hb : b < (E.w0.putObj l o').heap.size := hb
  rw [hsz0] at hb
  show (w.putObj l o').heap[b]? = (E.w0.putObj l o').heap[b]?
  by_cases e : b = l
  ·rw [e, World.putObj_heap_same hltw, World.putObj_heap_same hlt]
  rw [hfar b e, World.putObj_heap_other e]
  exact h.block b hb hm
 ·rw [hC]
  have hct := r.ct.stepW s
  refine ⟨hct.box, fun id ty k fr fz es h => ?_⟩
  obtain ⟨fr', fz', es', h1, h2, h3⟩ := hct.row id ty k fr fz es h
  refine ⟨fr', fz', es', h1, h2, fun e => ?_⟩
  obtain ⟨h4, h5⟩ := h3 e
  refine ⟨h4, fun b cur hb hc => ?_⟩
  have hc : (E.w0.putObj l o').heap[b]? = some (.cells cur ty (0, 0)) := hc
  by_cases e1 : b = l
  ·rw [e1, World.putObj_heap_same hlt] at hc
   injection hc with hc
   rw [hc] at ho'
   cases ho'
  rw [World.putObj_heap_other e1] at hc
  exact h5 b cur hb hc
 ·have h : (if b = l then some o' else E.kb b) = some o := h
  by_cases e : b = l
  ·rw [if_pos e] at h
   injection h with h
   subst h
   rw [e]
   exact ⟨World.putObj_heap_same hltw, ho'⟩
  rw [if_neg e] at h
  exact ⟨(hfar b e).trans (r.kb b o h).1, (r.kb b o h).2⟩
 have := r.dk.2 D hD
 refine ⟨?_, ?_⟩
 ·show (if D = l then some o' else E.kb D) = _
  rw [if_neg fun e => hld (by rw [<- e]; exact hD)]
  exact this.1
 show (E.w0.putObj l o').heap.size <= D
 rw [hsz0]; exact this.2
theorem Alp {n : Nat} {sl : List (Nat × AV)} {K : Exit -> St -> Prop} {ps : List Tmp} {asg : Code} {body : Code} {gf : FuncId} {caps : List AV} {items : List (List AV)} (hit : Wa P gf caps items) (f : Nat -> List Ob) (hlive : ∀ i id, (St.mk sl (f i)).o id ≠ .gone -> ((St.mk sl (f i)).o id).live)
 (hps : ∀ p ∈ ps, p < n) (sA : Nat -> List AV -> St) (hcl : ∀ vs ∈ items, vs.length = ps.length /\ Mq (fun _ => none) vs = vs)
  (Inv : Nat -> Prop) (hI0 : Inv 0) (hasg : ∀ i vs, items[i]? = some vs -> Inv i -> VW P n (f i).length asg ⟨Rb ps vs sl, f i⟩ (fun e s => e = .normal /\ s = sA i vs)) (hround : ∀ i vs, items[i]? = some vs -> Inv i -> VW P n (f i).length body (sA i vs) (I8 (f i).length sl (f (i + 1)) (Inv (i + 1)) K)) (hdone : Inv items.length -> K .normal ⟨sl, f items.length⟩)
  {E E1 : Ent} {F : Fence} (hF : FOk E F) (hle : G4 E E1) (hn : E.n = n) {β : Nat -> Option Nat} {a : Act} {W : World} (r : Rel E1 β ⟨sl, f 0⟩ a W) {lb : Array Value} (hlb : Dv (E1.C β ⟨sl, f 0⟩ W) (.fn gf caps) (.func (.func gf) #[] lb))
  {l : Nat} {rec : LoopState -> Option Code -> Loop} {fn : FuncId} {dd : Nat} (hrec : rec = fun st pe => { state := st, pending := pe, fn := fn, tmps := a.tmps, params := ps.toArray, assign := asg, body := body, defers := dd })
  (hkl : E1.kb l = some (.loop (rec .ready none))) (hld : l ∉ E1.ds) (hlge : E1.w0.heap.size <= l) (hEl : E.kb l = none) :
  Calls P gf (#[.func (.yield l) #[] #[]] ++ lb) W fun e w3 => ∃ v, e = .returned v /\ ∃ jump w4, (Instr.endLoop l).run P w3 = .ok jump w4 /\ (match jump with
   | none => Adw E K .normal a w4
   | some c => c.wpIn F 0 P (Adw E K) a w4) := by
 have hn1 : E1.n = n := by obtain ⟨⟨ds, kb, rfl⟩, _⟩ := hle; exact hn
 let up : Obj -> Ent := fun o => { E1 with kb := fun b => if b = l then some o else E1.kb b }
 have hup : up (.loop (rec .ready none)) = E1 := by
  show ({ E1 with kb := fun b => if b = l then some (.loop (rec .ready none)) else E1.kb b } : Ent) = E1
  have : (fun b => if b = l then some (Obj.loop (rec .ready none)) else E1.kb b) = E1.kb := funext fun b => by
   by_cases e : b = l
   ·rw [if_pos e, e, hkl]
   rw [if_neg e]
  rw [this]
 have hupup : ∀ o o', ({ up o with kb := fun b => if b = l then some o' else (up o).kb b } : Ent) = up o' := fun o o' => by
  show ({ E1 with kb := _ } : Ent) = { E1 with kb := _ }
  have : (fun b => if b = l then some o' else (if b = l then some o else E1.kb b)) = fun b => if b = l then some o' else E1.kb b := funext fun b => by
   by_cases e : b = l
   ·rw [if_pos e, if_pos e]
   rw [if_neg e, if_neg e, if_neg e]
  rw [<- this]
 have hupl : ∀ o, (up o).kb l = some o := fun o => if_pos rfl
 have hupE : ∀ o, G4 E (up o) := fun o => by
  obtain ⟨⟨ds, kb, rfl⟩, h2⟩ := hle
  refine ⟨⟨ds, _, rfl⟩, fun b o' h => ?_⟩
  show (if b = l then some o else _) = some o'
  rw [if_neg fun e => by subst e; rw [hEl] at h; cases h]
  exact h2 b o' h
 have hput : ∀ {o : Obj} {β : Nat -> Option Nat} {s : St} {W1 : World} (o' : Obj), Y9 o' = false -> Rel (up o) β s a W1 -> Rel (up o') β s a (W1.putObj l o') := fun {o β s W1} o' ho' h => by
  have := h.putK (o := o) (o' := o') (hupl o) ho' hld hlge
  rw [hupup] at this
  exact this
 let J : Nat -> Bool -> (Nat -> Prop) -> World -> Prop := fun i s L W' => match s with
  | false => Inv i /\ ∃ β', Rel (up (.loop (rec .ready none))) β' ⟨sl, f i⟩ a W' /\ (∀ b, L b <-> (E1.C β' ⟨sl, f i⟩ W').lives b)
  | true => ∃ c e ob' β', Aut c e /\ K e ⟨sl, ob'⟩ /\ Rel (up (.loop (rec .done (some c)))) β' ⟨sl, ob'⟩ a W' /\ (∀ b, L b <-> (E1.C β' ⟨sl, ob'⟩ W').lives b)
 have h := hit.2 (E1.C β ⟨sl, f 0⟩ W) lb W (Aj _) (fun _ _ => rfl) hlb l (fun b => (E1.C β ⟨sl, f 0⟩ W).lives b) J (fun b ⟨id, h1, h2⟩ => (r.rng id b (fun e => by have h2 : ((St.mk sl (f 0)).o id).live := h2; rw [e] at h2; exact h2) h1).1) (fun b hb => hb.2.1) ?_ ?_ ⟨hI0, β, by rw [hup]; exact r, fun b => Iff.rfl⟩
 ·refine h.mono ?_
  rintro e W' ⟨⟨v, rfl⟩, i, s, L', hJ, hs⟩
  refine ⟨v, rfl, ?_⟩
  cases s with
  | false =>
   obtain ⟨hI, β', r', _⟩ := hJ
   have hi := hs rfl
   subst hi
   have hh := (r'.kb l _ (hupl _)).1
   refine ⟨none, _, ?_, ⟨_, _, β', hupE (.loop { rec .ready none with state := .exhausted }), hdone hI, hput _ rfl r'⟩⟩
   have := run_endLoop (P := P) hh (by rw [hrec]; simp)
   rw [hrec] at this ⊢
   exact this
  | true =>
   obtain ⟨c, e, ob', β', hj, hK, r', _⟩ := hJ
   have hh := (r'.kb l _ (hupl _)).1
   refine ⟨some c, W'.putObj l (.loop { rec .done (some c) with state := .exhausted }), ?_, ?_⟩
   ·have := run_endLoop (P := P) hh (by rw [hrec]; simp)
    rw [hrec] at this ⊢
    exact this
   have hp : Adw E K e a (W'.putObj l (.loop { rec .done (some c) with state := .exhausted })) := ⟨_, _, β', hupE _, hK, hput _ rfl r'⟩
   rcases hj with ⟨rfl, rfl⟩ | ⟨id, rfl, rfl⟩ | ⟨t, rfl, rfl⟩
   ·exact wpIn_ret hp
   ·exact wpIn_exit hp
   exact wpIn_goto hp
 ·intro i s L W1 W2 hJ hk
  cases s with
  | false =>
   obtain ⟨hI, β', r', hL⟩ := hJ
   exact ⟨hI, β', r'.grow hk, hL⟩
  | true =>
   obtain ⟨c, e, ob', β', hj, hK, r', hL⟩ := hJ
   exact ⟨c, e, ob', β', hj, hK, r'.grow hk, hL⟩
 intro i L W1 vs us ⟨hI, βi, ri, hL⟩ hLs hvs hus hv
 have hh := ri.kb l _ (hupl _)
 obtain ⟨hlen, hren⟩ := hcl vs (Ac hvs)
 have hy := run_yield (P := P) (args := us) hh.1 (by rw [hrec]; simp [hus, hlen])
 have hvs' : ∀ (j : Nat) (v : AV) (u : Value), vs[j]? = some v -> us.toList[j]? = some u -> Dv ((up (.loop (rec .ready none))).C βi ⟨sl, f i⟩ W1) v u := fun j v u h1 h2 => by
  have h3 := hv j v u h1 (by simpa using h2)
  have h4 := Dv.ren (C := VCZ W.heap.size ((E1.C β ⟨sl, f 0⟩ W).S false) L W1) (C' := (up (.loop (rec .ready none))).C βi ⟨sl, f i⟩ W1) (ρ := fun _ => none) rfl (fun id j h => by cases h) (fun fr b hb => ?_) h3
  ·have : v.ren (fun _ => none) = v := by
    have h5 : (Mq (fun _ => none) vs)[j]? = some v := by rw [hren]; exact h1
    rw [Ny, h1] at h5
    simpa using h5
   rwa [this] at h4
  obtain ⟨q1, q2, q3⟩ := hb
  rw [Af6] at q2
  refine ⟨q1, fun hl => q2 ((hL b).2 hl), ?_⟩
  have q3 : W.heap.size <= b \/ False \/ ((E1.C β ⟨sl, f 0⟩ W).S false b /\ (fr = true -> False)) := q3
  rcases q3 with q3 | q3 | ⟨q3, q4⟩
  ·have := r.kp.size
   exact .inl (by show E1.w0.heap.size <= b; omega)
  ·exact q3.elim
  have q5 := q3.2.2
  cases fr with
  | true => exact (q4 rfl).elim
  | false => exact q5
 have hpar := Aql (C := (up (.loop (rec .ready none))).C βi ⟨sl, f i⟩ W1) (n := n) ps vs us.toList sl a.tmps (ri.sz.trans hn1) hps hlen.symm (by simpa using hus) hvs' ri.sl
 have htm : (ps.toArray.zip us).foldl (fun tmps (t, a) => tmps.setIfInBounds t a) a.tmps = (ps.zip us.toList).foldl (fun t (p, v) => t.setIfInBounds p v) a.tmps := by
  rw [<- Array.foldl_toList, Array.toList_zip]
 refine ⟨fn, (ps.zip us.toList).foldl (fun t (p, v) => t.setIfInBounds p v) a.tmps, asg, body, ?_, ?_⟩
 ·rw [hrec] at hy
  rw [<- htm]
  exact hy
 generalize hT : (ps.zip us.toList).foldl (fun t (p, v) => t.setIfInBounds p v) a.tmps = T at hpar
 refine roundIn_of_wpIn trivial ?_
 have hbusy : ({ rec .ready none with state := .busy } : Loop) = rec .busy none := by rw [hrec]
 have rb := hput (.loop (rec .busy none)) rfl ri
 have hszb : (W1.putObj l (.loop (rec .busy none))).heap.size = W1.heap.size := by simp [World.putObj]
 have hlt : l < W1.heap.size := (Aw.1 hh.1).1
 have rin := ri.inner (sl := Rb ps vs sl) (tmps := T) (hpar.1.trans hn1.symm) hpar.2
 refine wpIn_mono (hasg i vs hvs hI ((up (.loop (rec .ready none))).under βi ⟨sl, f i⟩ W1) (Fence.wide.inRound l) ⟨hn1, fun id hid => Gr ⟨sl, f i⟩ id hid⟩ (.inr ⟨l, rec .ready none, rfl, hupl _⟩) βi ⟨T, []⟩ W1 rin) ?_
 rintro e a2 W2 ⟨E2, s2, β2, hle2, ⟨rfl, rfl⟩, r2⟩
 obtain ⟨⟨ds2, kb2, rfl⟩, hk2⟩ := hle2
 have hkl2 : kb2 l = some (.loop (rec .ready none)) := hk2 l _ (hupl _)
 have hW2 : W2.heap[l]? = some (.loop (rec .ready none)) := (r2.kb l _ hkl2).1
 refine ⟨_, run_beginRound hW2 (by rw [hrec]), ?_⟩
 rw [hbusy]
 have hld2 : l ∉ ds2 := fun h => by
  have h1 : kb2 l = some (.deferred (some [])) := (r2.dk.2 l h).1
  rw [hkl2] at h1
  injection h1 with h1
  cases h1
 have hS : ∀ g b, ((up (.loop (rec .ready none))).C βi ⟨sl, f i⟩ W1).S g b <-> ((up (.loop (rec .busy none))).C βi ⟨sl, f i⟩ (W1.putObj l (.loop (rec .busy none)))).S g b := fun g b => by
  constructor
  ·exact fun h => ⟨by show b < (W1.putObj l (.loop (rec .busy none))).heap.size; rw [hszb]; exact h.1, h.2.1, h.2.2⟩
  exact fun h => ⟨by have h1 : b < (W1.putObj l (.loop (rec .busy none))).heap.size := h.1; rw [hszb] at h1; exact h1, h.2.1, h.2.2⟩
 have r2b := r2.rebase (l := l) (o' := .loop (rec .busy none)) hkl2 rfl hld2 hlt
 have hEq : ({ ({ (up (.loop (rec .ready none))).under βi ⟨sl, f i⟩ W1 with ds := ds2, kb := kb2 } : Ent) with w0 := W1.putObj l (.loop (rec .busy none)), kb := fun b => if b = l then some (.loop (rec .busy none)) else kb2 b } : Ent) =
  { (up (.loop (rec .busy none))).under βi ⟨sl, f i⟩ (W1.putObj l (.loop (rec .busy none))) with ds := ds2, kb := fun b => if b = l then some (.loop (rec .busy none)) else kb2 b } := by
  have e1 : (fun b => ((up (.loop (rec .ready none))).C βi ⟨sl, f i⟩ W1).S false b) = fun b => ((up (.loop (rec .busy none))).C βi ⟨sl, f i⟩ (W1.putObj l (.loop (rec .busy none)))).S false b := funext fun b => propext (hS false b)
  have e2 : (fun b => ((up (.loop (rec .ready none))).C βi ⟨sl, f i⟩ W1).S true b) = fun b => ((up (.loop (rec .busy none))).C βi ⟨sl, f i⟩ (W1.putObj l (.loop (rec .busy none)))).S true b := funext fun b => propext (hS true b)
  have key : ∀ (w : World) (o : Nat -> Ob) (β x x' y y') (n : Nat) (ds : List Nat) (kb : Nat -> Option Obj), x = x' -> y = y' -> Ent.mk w o β x y n ds kb = Ent.mk w o β x' y' n ds kb := by
   rintro w o β x _ y _ n ds kb rfl rfl
   rfl
  exact key _ _ _ _ _ _ _ _ _ _ e1 e2
 have hr2b : Rel { (up (.loop (rec .busy none))).under βi ⟨sl, f i⟩ (W1.putObj l (.loop (rec .busy none))) with ds := ds2, kb := fun b => if b = l then some (.loop (rec .busy none)) else kb2 b } β2 (sA i vs) a2 (W2.putObj l (.loop (rec .busy none))) := hEq ▸ r2b
 have hleb : G4 ((up (.loop (rec .busy none))).under βi ⟨sl, f i⟩ (W1.putObj l (.loop (rec .busy none)))) { (up (.loop (rec .busy none))).under βi ⟨sl, f i⟩ (W1.putObj l (.loop (rec .busy none))) with ds := ds2, kb := fun b => if b = l then some (.loop (rec .busy none)) else kb2 b } := by
  refine ⟨⟨_, _, rfl⟩, fun b o h => ?_⟩
  have h : (if b = l then some (.loop (rec .busy none)) else E1.kb b) = some o := h
  show (if b = l then some (.loop (rec .busy none)) else kb2 b) = some o
  by_cases e : b = l
  ·rw [if_pos e] at h ⊢; exact h
  rw [if_neg e] at h ⊢
  refine hk2 b o ?_
  show (if b = l then some (.loop (rec .ready none)) else E1.kb b) = some o
  rw [if_neg e]
  exact h
 have hwalk := hround i vs hvs hI { (up (.loop (rec .busy none))).under βi ⟨sl, f i⟩ (W1.putObj l (.loop (rec .busy none))) with ds := ds2, kb := fun b => if b = l then some (.loop (rec .busy none)) else kb2 b } (Fence.wide.inRound l) ⟨hn1, fun id hid => Gr ⟨sl, f i⟩ id hid⟩ (.inr ⟨l, rec .busy none, rfl, if_pos rfl⟩) β2 a2 _ hr2b
 refine wpIn_mono hwalk ?_
 rintro e a3 W3 ⟨E3, s3, β3, hle3, hk, r3⟩
 have hle3 := hleb.trans hle3
 have hl3 : W3.heap[l]? = some (.loop (rec .busy none)) := (r3.kb l _ (hle3.kb l _ (hupl _))).1
 have fin : ∀ (ob' : List Ob), WkE (f i).length s3 ⟨[], ob'⟩ -> ∃ β4, Rel (up (.loop (rec .busy none))) β4 ⟨sl, ob'⟩ a W3 /\ (∀ b, b < W1.heap.size -> ¬ L b -> (b ≠ l -> W3.heap[b]? = W1.heap[b]?) /\ ¬ (E1.C β4 ⟨sl, ob'⟩ W3).lives b) /\ W1.heap.size <= W3.heap.size := fun ob' ⟨sel, hw, hm⟩ => by
  obtain ⟨β4, r4⟩ := r3.weak hw fun id hid => hm id (Nat.lt_of_not_le fun hle => hid (by
   obtain ⟨⟨ds, kb, rfl⟩, _⟩ := hle3
   exact Gr ⟨sl, f i⟩ id hle))
  obtain ⟨h1, h2, h3⟩ := rb.outer (hlive i) hle3 r4
  have hsz : (W1.putObj l (.loop (rec .busy none))).heap.size = W1.heap.size := by simp [World.putObj]
  refine ⟨β4, h1, fun b hb hnl => ?_, by rw [hsz] at h3; exact h3⟩
  obtain ⟨q1, q2⟩ := h2 b (by rw [hsz]; exact hb) fun hl => hnl ((hL b).2 hl)
  exact ⟨fun hbl => q1.trans (World.putObj_heap_other hbl), q2⟩
 have endr : ∀ (jump : Option Code), (Instr.endRound l jump).run P W3 = .ok (.bool jump.isNone) (W3.putObj l (.loop (rec (if jump.isNone then .ready else .done) jump))) := fun jump => by
  have := run_endRound (P := P) jump hl3
  rw [hrec] at this ⊢
  exact this
 have rest : ∀ (s : Bool) (jump : Option Code) (ob' : List Ob), WkE (f i).length s3 ⟨[], ob'⟩ -> jump.isNone = (!s) -> (∀ β4 L', Rel (up (.loop (rec (if jump.isNone then .ready else .done) jump))) β4 ⟨sl, ob'⟩ a (W3.putObj l (.loop (rec (if jump.isNone then .ready else .done) jump))) -> (∀ b, L' b <-> (E1.C β4 ⟨sl, ob'⟩ (W3.putObj l (.loop (rec (if jump.isNone then .ready else .done) jump)))).lives b) -> J (i + 1) s L' (W3.putObj l (.loop (rec (if jump.isNone then .ready else .done) jump)))) ->
  ∃ v w', (Instr.endRound l jump).run P W3 = .ok v w' /\ Ah5 J i L W1 (.returned v) w' := fun s jump ob' hwk hs hJ => by
  obtain ⟨β4, r4, h2, h3⟩ := fin ob' hwk
  have r5 := hput (.loop (rec (if jump.isNone then .ready else .done) jump)) rfl r4
  have hsz : (W3.putObj l (.loop (rec (if jump.isNone then .ready else .done) jump))).heap.size = W3.heap.size := by simp [World.putObj]
  refine ⟨_, _, endr jump, s, fun b => (E1.C β4 ⟨sl, ob'⟩ W3).lives b, by rw [hs], hJ β4 _ r5 fun b => Iff.rfl, fun b ⟨id, q1, q2⟩ => ?_, by rw [hsz]; exact h3, fun b cur ty fz hnl hc => ?_, fun b hb hnl => (h2 b hb hnl).2⟩
  ·have q2 : ((St.mk sl ob').o id).live := q2
   exact (r5.rng id b (fun e => by rw [e] at q2; exact q2) q1).1
  have hbl : b ≠ l := fun e => by
   subst e
   rw [hh.1] at hc
   cases hc
  exact (World.putObj_heap_other hbl).trans (((h2 b (Aw.1 hc).1 hnl).1 hbl).trans hc)
 cases e with
 | normal => exact rest false none _ hk.1 rfl fun β4 L' h1 h2 => ⟨hk.2, β4, h1, h2⟩
 | ret =>
  obtain ⟨ob', h1, h2⟩ := hk
  exact rest true (some .ret) ob' h1 rfl fun β4 L' h3 h4 => ⟨.ret, .ret, ob', β4, .inl ⟨rfl, rfl⟩, h2, h3, h4⟩
 | exit id =>
  obtain ⟨ob', h1, h2⟩ := hk
  exact rest true (some (.exit id)) ob' h1 rfl fun β4 L' h3 h4 => ⟨_, _, ob', β4, .inr (.inl ⟨id, rfl, rfl⟩), h2, h3, h4⟩
 | goto t =>
  obtain ⟨ob', h1, h2⟩ := hk
  exact rest true (some (.goto t)) ob' h1 rfl fun β4 L' h3 h4 => ⟨_, _, ob', β4, .inr (.inr ⟨t, rfl, rfl⟩), h2, h3, h4⟩
 | panic ch => exact hk.elim
 | outgrown => exact hk.elim
theorem VW.rangeFnA {n m : Nat} {sl : List (Nat × AV)} {K : Exit -> St -> Prop} {g : Tmp} {ps : List Tmp} {asg : Code} {body : Code} {gf : FuncId} {caps : List AV} {items : List (List AV)} (hit : Wa P gf caps items) (f : Nat -> List Ob) (hg : El sl g = .fn gf caps)
 (hlive : ∀ i id, (St.mk sl (f i)).o id ≠ .gone -> ((St.mk sl (f i)).o id).live) (hps : ∀ p ∈ ps, p < n) (sA : Nat -> List AV -> St) (hcl : ∀ vs ∈ items, vs.length = ps.length /\ Mq (fun _ => none) vs = vs)
  (Inv : Nat -> Prop) (hI0 : Inv 0) (hasg : ∀ i vs, items[i]? = some vs -> Inv i -> VW P n (f i).length asg ⟨Rb ps vs sl, f i⟩ (fun e s => e = .normal /\ s = sA i vs)) (hround : ∀ i vs, items[i]? = some vs -> Inv i -> VW P n (f i).length body (sA i vs) (I8 (f i).length sl (f (i + 1)) (Inv (i + 1)) K)) (hdone : Inv items.length -> K .normal ⟨sl, f items.length⟩) :
  VW P n m (.rangeFunc (.tmp g) ps.toArray (asg) body) ⟨sl, f 0⟩ K := fun E F hE hF β a w r => by
 refine wpIn_rangeFunc ?_
 intro fn hfn
 have hr := r.sl g
 rw [hg] at hr
 generalize hug : a.tmps.getD g undef = ug at hr
 cases hr with
 | fn gf' caps' lb hl hcr =>
 have hgv : Dv (E.C β ⟨sl, f 0⟩ w) (.fn gf caps) (.func (.func gf) #[] lb) := .fn gf caps lb hl hcr
 have hev : a.eval (.tmp g) = .func (.func gf) #[] lb := hug
 have hkd : ∀ b o, E.kb b = some o -> b < w.heap.size := fun b o h => (Aw.1 (r.kb b o h).1).1
 have hw0 := r.kp.size
 have core : ∀ (l : Nat) (mark : List Deferred) (W : World) (E1 : Ent) (rec : LoopState -> Option Code -> Loop) (dd : Nat) (hrec : rec = fun st pe => { state := st, pending := pe, fn := fn, tmps := a.tmps, params := ps.toArray, assign := asg, body := body, defers := dd }),
  (Instr.enterLoop fn a.tmps ps.toArray (asg) body F.round).run P w = .ok (l, mark) W -> G4 E E1 -> Rel E1 β ⟨sl, f 0⟩ { a with defers := mark ++ a.defers } W -> (∀ b, b < w.heap.size -> W.heap[b]? = w.heap[b]?) -> w.heap.size <= W.heap.size ->
   E1.kb l = some (.loop (rec .ready none)) -> l ∉ E1.ds -> w.heap.size <= l -> ∃ (l : Nat) (mark : List Deferred) (w₁ : World) (d : Deferred) (w₁' : World) (f : FuncId) (args : Array Value) (w₂ : World),
   (Instr.enterLoop fn a.tmps ps.toArray (asg) body F.round).run P w = .ok (l, mark) w₁ /\
   (resolve a.eval (rangeCall (.tmp g) l) 0).run P w₁ = .ok d w₁' /\
   (∀ f', Target.leads P w₁' d.target d.args = some f' -> F.fn f') /\
   (invoke d.target d.args).run P w₁' = .ok (.enter f args) w₂ /\
   (F.depth.isSome = true -> 1 <= 0) /\
   CallsIn F (0 - 1) P f args w₂ (rangePost F 0 P l (Adw E K) { a with defers := mark ++ a.defers }) := by
  intro l mark W E1 rec dd hrec hent hle r1 hWs hWz hkl hld hlge
  refine ⟨l, mark, W, { target := .fn (.func gf) lb, args := #[.func (.yield l) #[] #[]] }, W, gf, #[.func (.yield l) #[] #[]] ++ lb, W, hent, ?_, ?_, ?_, hF.depth, ?_⟩
  ·simp only [resolve, hev]
   simp [go_sem]
  ·intro f' _; exact hF.fn f'
  ·have := U3 hit.1 (us := #[.func (.yield l) #[] #[]] ++ lb) (w := W)
   simp [invoke, this]
  refine (hF.calls ?_)
  have hEl : E.kb l = none := by
   cases hq : E.kb l with
   | none => rfl
   | some o => have := hkd l o hq; omega
  have hE1w : E1.w0.heap.size <= l := by
   obtain ⟨⟨ds, kb, rfl⟩, _⟩ := hle
   show E.w0.heap.size <= l
   omega
  have hlb : Dv (E1.C β ⟨sl, f 0⟩ W) (.fn gf caps) (.func (.func gf) #[] lb) := by
   have s : Ms (E.C β ⟨sl, f 0⟩ w) (E1.C β ⟨sl, f 0⟩ W) := by
    obtain ⟨⟨ds, kb, rfl⟩, _⟩ := hle
    exact ⟨rfl, fun _ h => h, fun _ h => h, fun _ h => h, hWz, fun b _ h => h, fun b hb _ => hWs b hb, fun id ty cs h => ⟨⟨cs, h⟩, rfl⟩, fun id ty k' fr fz es h => ⟨fr, fz, es, h, Aj _, fun _ => ⟨rfl, fun b cur hb hc => ⟨cur, (hWs b (r.rng id b (by have h : (St.mk sl (f 0)).o id = _ := h; rw [h]; simp) hb).1).trans hc, rfl⟩⟩⟩⟩
   exact hgv.step s
  refine (Alp hit f hlive hps sA hcl Inv hI0 hasg hround hdone hF hle hE.1 (a := { a with defers := mark ++ a.defers }) r1 hlb (rec := rec) (fn := fn) (dd := dd) hrec hkl hld hE1w hEl).mono ?_
  rintro e w3 ⟨v, rfl, h⟩
  exact h
 have hsz1 : ∀ o : Obj, (w.alloc o).heap.size = w.heap.size + 1 := fun o => by simp
 rcases hF with rfl | ⟨l0, r0, rfl, hk0⟩
 ·obtain ⟨r1, hle1⟩ := r.lay (o := .deferred (some [])) rfl
  obtain ⟨r2, hle2⟩ := r1.lay (o := .loop { state := .ready, pending := none, fn := fn, tmps := a.tmps, params := ps.toArray, assign := asg, body := body, defers := w.heap.size }) rfl
  have hD : ∀ D ∈ E.ds, D < w.heap.size := fun D h => hkd D _ (r.dk.2 D h).1
  have hkD : (if w.heap.size = (w.alloc (.deferred (some []))).heap.size then some (Obj.loop { state := .ready, pending := none, fn := fn, tmps := a.tmps, params := ps.toArray, assign := asg, body := body, defers := w.heap.size }) else if w.heap.size = w.heap.size then some (.deferred (some [])) else E.kb w.heap.size) = some (.deferred (some [])) := by
   rw [hsz1, if_neg (by omega), if_pos rfl]
  have r3 := r2.mark (D := w.heap.size) hkD (fun h => by have := hD _ h; omega) hw0
  refine core ((w.alloc (.deferred (some []))).heap.size) [dmk w.heap.size] _ _ (fun st pe => { state := st, pending := pe, fn := fn, tmps := a.tmps, params := ps.toArray, assign := asg, body := body, defers := w.heap.size }) w.heap.size rfl ?_ ?_ r3 (fun b hb => ?_) ?_ (if_pos rfl) ?_ (by rw [hsz1]; omega)
  ·rw [hsz1]
   exact run_enterLoop_outer _ _ _ _ _
  ·exact ⟨⟨_, _, rfl⟩, fun b o h => (hle1.trans hle2).kb b o h⟩
  ·exact (Below.heap_alloc _ _ _ (by rw [hsz1]; omega)).trans (Below.heap_alloc _ _ _ hb)
  ·rw [World.size_alloc, World.size_alloc]; omega
  rw [hsz1]
  intro h
  rcases List.mem_cons.1 h with h | h
  ·omega
  have := hD _ h; omega
 obtain ⟨r1, hle1⟩ := r.lay (o := .loop { state := .ready, pending := none, fn := fn, tmps := a.tmps, params := ps.toArray, assign := asg, body := body, defers := r0.defers }) rfl
 refine core w.heap.size [] _ _ (fun st pe => { state := st, pending := pe, fn := fn, tmps := a.tmps, params := ps.toArray, assign := asg, body := body, defers := r0.defers }) r0.defers rfl (run_enterLoop_inner (r.kb l0 _ hk0).1 _ _ _ _ _) hle1 r1 (fun b hb => Below.heap_alloc _ _ _ hb) (by simp) (if_pos rfl) (fun h => ?_) (Aj _)
 have := hkd _ _ (r.dk.2 _ h).1
 omega
end
section
variable {P : Program}
theorem VW.rangeFn {n m : Nat} {sl : List (Nat × AV)} {K : Exit -> St -> Prop} {g : Tmp} {ps : List Tmp} {al : List Oper} {aid : Nat} {body : Code} {gf : FuncId} {caps : List AV} {items : List (List AV)} (hit : Wa P gf caps items) (f : Nat -> List Ob) (hg : El sl g = .fn gf caps)
 (hlive : ∀ i id, (St.mk sl (f i)).o id ≠ .gone -> ((St.mk sl (f i)).o id).live) (hps : ∀ p ∈ ps, p < n) (hal : Atd n al = true) (hcl : ∀ vs ∈ items, vs.length = ps.length /\ Mq (fun _ => none) vs = vs)
  (Inv : Nat -> Prop) (hI0 : Inv 0) (hround : ∀ i vs, items[i]? = some vs -> Inv i -> VW P n (f i).length body (Adm al ⟨Rb ps vs sl, f i⟩) (I8 (f i).length sl (f (i + 1)) (Inv (i + 1)) K)) (hdone : Inv items.length -> K .normal ⟨sl, f items.length⟩) :
  VW P n m (.rangeFunc (.tmp g) ps.toArray (.region aid al.toArray false) body) ⟨sl, f 0⟩ K :=
 VW.rangeFnA hit f hg hlive hps (fun i vs => Adm al ⟨Rb ps vs sl, f i⟩) hcl Inv hI0 (fun i vs _ _ E F hE hF β a w r => wpIn_region_lit (Arp hF al (by rw [hE.1]; exact hal) _ _ _ r fun a' r' => ⟨E, _, β, G4.refl E, ⟨rfl, rfl⟩, r'⟩)) hround hdone
end
def Wp (l : List Fi) (s top : Int) : Bool := (Tc l s).contains top
theorem Rm (l : List Fi) (s top : Int) : PP 258 [] [.mTok l, .li s, .li top] [] (.lb (Wp l s top)) := by
 refine Eb Tryz.func258 ?_
 refine Bw <| .seq ?_
 refine Df ok0 (Qa l s) <| .block ?_
 refine VW.wkE (s' := ⟨[(5, .ptr 0 0), (6, .ptr 1 0), (10, .fn 206 [.iptr false [.li s] 0, .iptr false [.sl 6 (M9 l)] 0])], [.box 3 [.li top], .box 4 [.lb false]]⟩) ⟨[0, 1], Ds (by decide) ?_ ?_, by simp⟩ ?_
 ·simp [go_sem]
 ·simp [go_sem]
 refine VW.rangeFn (T7 l s) (fun j1 => [.box 3 [.li top], .box 4 [.lb false]]) (by rfl) (fun _ => Qn rfl) (by decide) (by rfl) ?_ (fun j => ∀ i x, i < j -> (Tc l s)[i]? = some x -> x ≠ top) ?_ (fun j1 vs hj1 hI1 => ?_) (fun hI1 => ?_)
 ·intro vs hvs
  obtain ⟨a, _, rfl⟩ := A4.1 hvs
  simp [go_sem]
 ·intro i x h; omega
 ·
  obtain ⟨a, ha, rfl⟩ := D0 hj1
  refine VW.block <| .R ?_
  refine B7 ?_ ?_ <;> intro h14
  ·refine Bw ?_
   refine VW.ret ⟨[.box 3 [.li top], .box 4 [.lb true]], ⟨[0, 1], Ds (by decide) ?_ ?_, Fu rfl⟩, ?_⟩
   ·simp [go_sem]
   ·simp [go_sem]
   refine (Am7 (by simp [go_sem]) ?_)
   have : Wp l s top = true := by unfold Wp; rw [List.contains_iff_mem]; exact h14 ▸ Ac ha
   simp [go_sem, this]
  refine Bv ?_
  refine ⟨⟨[0, 1], Ds (by decide) ?_ ?_, Fu rfl⟩, ?_⟩
  ·simp [go_sem]
  ·simp [go_sem]
  intro i x hi hx
  by_cases e : i = j1
  ·subst e; rw [ha] at hx; injection hx with hx; subst hx; exact h14
  exact hI1 i x (by omega) hx
 -- done
 refine Bw ?_
 refine B6 ?_
 have : Wp l s top = false := by
  unfold Wp
  rw [List.contains_eq_any_beq, List.any_eq_false]
  intro x hx
  obtain ⟨i, hi⟩ := A3.1 hx
  have h2 := hI1 i x (by simpa using (Ab.1 hi).1) hi
  simp only [beq_iff_eq]
  exact fun e => h2 e.symm
 simp [go_sem, this]
section
variable {F : Fence} {n : Nat} {P : Program} {b : Frame} {a : Act} {k : List Item} {cs : List Frame} {w : World} {Q : Exit -> Act -> World -> Prop}
theorem Lr {c : Code} : step P (lone (b.atR a (.code (.scope c) :: k)) cs w) = .next (lone (b.atR a (.code c :: .inScope c :: k)) cs w) :=
 step_lone_go (by simp [stepG, stepG.exec, Frame.atR])
theorem Aeq {c : Code} : step P (lone (b.atR a (.inScope c :: k)) cs w) = .next (lone (b.atR a k) cs w) :=
 step_lone_go (by simp [stepG, stepG.exec, Frame.atR])
theorem Ak1 {c : Code} (h : c.wpIn F n P (Exit.noGoto Q) a w) : (Code.scope c).wpIn F n P Q a w := by
 intro b k cs hro hb hr
 have h0 : (lone (b.atR a (.code (.scope c) :: k)) cs w).fenced P F := fenced_calm hb hr rfl
 obtain ⟨e, a₁, w₁, hq, harr⟩ := h b (.inScope c :: k) cs hro hb hr
 cases e with
 | normal => exact ⟨.normal, a₁, w₁, hq, .head h0 Lr (StepsIn.trans harr (.one (fenced_calm hb hr rfl) Aeq))⟩
 | exit id =>
  have hx : exitTo id (.inScope c :: k) = exitTo id k := by simp [exitTo]
  exact ⟨_, a₁, w₁, hq, fun k' hk => .head h0 Lr (harr.1 k' (by rw [hx]; exact hk)), fun hr' hk => let ⟨k₁, h1, h2⟩ := harr.2 hr' (by rw [hx]; exact hk); ⟨k₁, h1, .head h0 Lr h2⟩⟩
 | goto l => exact hq.elim
 | ret => exact ⟨_, a₁, w₁, hq, .of_steps (.one h0 Lr) harr⟩
 | panic ch => exact ⟨_, a₁, w₁, hq, .of_steps (.one h0 Lr) harr⟩
 | outgrown => exact ⟨_, a₁, w₁, hq, .of_steps (.one h0 Lr) harr⟩
end
section
variable {P : Program} {n m : Nat} {st : St} {K : Exit -> St -> Prop} {c : Code}
@[reducible] def Exit.vscope (K : Exit -> St -> Prop) : Exit -> St -> Prop
 | .goto _, _ => False
 | e, s => K e s
theorem VW.scope (h : VW P n m c st (Exit.vscope K)) : VW P n m (.scope c) st K := fun E F hE hF β a w r => by
 refine Ak1 (wpIn_mono (h E F hE hF β a w r) fun e a w ⟨E', s, β, h0, h1, h2⟩ => ?_)
 cases e with
 | goto l => exact h1.elim
 | normal => exact ⟨E', s, β, h0, h1, h2⟩
 | exit id => exact ⟨E', s, β, h0, h1, h2⟩
 | ret => exact ⟨E', s, β, h0, h1, h2⟩
 | panic ch => exact ⟨E', s, β, h0, h1, h2⟩
 | outgrown => exact ⟨E', s, β, h0, h1, h2⟩
theorem VX.scope (h : VX P n m c st (Exit.vscope K)) : VX P n m (.scope c) st K := by
 obtain ⟨e, s, h1, h2⟩ := h
 cases e with
 | goto l => exact h2.elim
 | _ =>
  refine ⟨_, s, .scope (h1.mono ?_), h2⟩
  rintro e' s' ⟨rfl, rfl⟩
  exact ⟨rfl, rfl⟩
end
section
variable {P : Program} {n m : Nat} {st : St} {K : Exit -> St -> Prop} {c : Code}
theorem VX.rangeE {γ : Type} (N : Nat) (f : Nat -> γ -> St) (Inv : Nat -> γ -> Prop) (x0 : γ) (h0 : WkE m st (f 0 x0)) (hi : Inv 0 x0) (round : ∀ i x, i <= N -> Inv i x -> VX P n m c (f i x) (Exit.vthen (fun s' => i < N /\ ∃ x', Inv (i + 1) x' /\ WkE m s' (f (i + 1) x')) K)) : VX P n m (.loop c) st K := by
 obtain ⟨sel, h1, h2⟩ := h0
 refine .loop_w (fun z s => ∃ i x, i + z = N /\ Inv i x /\ s = f i x) ⟨N, sel, f 0 x0, h1, h2, 0, x0, by omega, hi, rfl⟩ ?_
 rintro z s ⟨i, x, hi, hI, rfl⟩
 refine (round i x (by omega) hI).mono fun e s => ?_
 cases e with
 | normal =>
  rintro ⟨h3, x', h4, sel, h5, h6⟩
  exact ⟨z - 1, by omega, sel, _, h5, h6, i + 1, x', by omega, h4, rfl⟩
 | _ => exact fun h => h
abbrev Bs := @VX.rangeE
theorem VX.whileE {γ : Type} (f : γ -> St) (Inv : γ -> Prop) (μ : γ -> Nat) (x0 : γ) (h0 : WkE m st (f x0)) (hi : Inv x0) (round : ∀ x, Inv x -> VX P n m c (f x) (Exit.vthen (fun s' => ∃ x', μ x' < μ x /\ Inv x' /\ WkE m s' (f x')) K)) : VX P n m (.loop c) st K := by
 obtain ⟨sel, h1, h2⟩ := h0
 refine .loop_w (fun z s => ∃ x, μ x = z /\ Inv x /\ s = f x) ⟨μ x0, sel, f x0, h1, h2, x0, rfl, hi, rfl⟩ ?_
 rintro z s ⟨x, rfl, hI, rfl⟩
 refine (round x hI).mono fun e s => ?_
 cases e with
 | normal =>
  rintro ⟨x', h3, h4, sel, h5, h6⟩
  exact ⟨_, h3, sel, _, h5, h6, x', rfl, h4, rfl⟩
 | _ => exact fun h => h
abbrev Cj := @VX.whileE
theorem VW.rangeE {γ : Type} (N : Nat) (f : Nat -> γ -> St) (Inv : Nat -> γ -> Prop) (x0 : γ) (h0 : WkE m st (f 0 x0)) (hi : Inv 0 x0) (round : ∀ i x, i <= N -> Inv i x -> VW P n m c (f i x) (Exit.vthen (fun s' => i < N /\ ∃ x', Inv (i + 1) x' /\ WkE m s' (f (i + 1) x')) K)) : VW P n m (.loop c) st K := by
 obtain ⟨sel, h1, h2⟩ := h0
 refine .loop_w (fun z s => ∃ i x, i + z = N /\ Inv i x /\ s = f i x) ⟨N, sel, f 0 x0, h1, h2, 0, x0, by omega, hi, rfl⟩ ?_
 rintro z s ⟨i, x, hi, hI, rfl⟩
 refine (round i x (by omega) hI).mono fun e s => ?_
 cases e with
 | normal =>
  rintro ⟨h3, x', h4, sel, h5, h6⟩
  exact ⟨z - 1, by omega, sel, _, h5, h6, i + 1, x', by omega, h4, rfl⟩
 | _ => exact fun h => h
abbrev Cs := @VW.rangeE
theorem VW.whileE {γ : Type} (f : γ -> St) (Inv : γ -> Prop) (μ : γ -> Nat) (x0 : γ) (h0 : WkE m st (f x0)) (hi : Inv x0) (round : ∀ x, Inv x -> VW P n m c (f x) (Exit.vthen (fun s' => ∃ x', μ x' < μ x /\ Inv x' /\ WkE m s' (f x')) K)) : VW P n m (.loop c) st K := by
 obtain ⟨sel, h1, h2⟩ := h0
 refine .loop_w (fun z s => ∃ x, μ x = z /\ Inv x /\ s = f x) ⟨μ x0, sel, f x0, h1, h2, x0, rfl, hi, rfl⟩ ?_
 rintro z s ⟨x, rfl, hI, rfl⟩
 refine (round x hI).mono fun e s => ?_
 cases e with
 | normal =>
  rintro ⟨x', h3, h4, sel, h5, h6⟩
  exact ⟨_, h3, sel, _, h5, h6, x', rfl, h4, rfl⟩
 | _ => exact fun h => h
def Awl (P : Program) (n m : Nat) (t : Nat) (X y : Code) (K : Exit -> St -> Prop) (s : St) : Prop :=
 ∃ (sl : List (Nat × AV)) (ob : List Ob) (b : Bool) (a : Nat) (k : IntKind) (v : Int) (xs : List Int) (ds : List Nat), s = ⟨sl, ob⟩ /\ OrC n t a k X xs ds /\ t < n /\ (t == a) = false /\ El sl t = .lb b /\ El sl a = .lit (.int k v) /\ (∀ d ∈ ds, El ((t, .lb (b || xs.any fun x => v == x)) :: sl) d = .any) /\
  VX P n m y ⟨(t, .lb (b || xs.any fun x => v == x)) :: sl, ob⟩ K
theorem VX.orcases2 {id : Nat} {l : List Oper} {t : Nat} {X y : Code} (hd : Ff n l = true) (h : ∀ K1 : St -> Prop, (∀ s, Awl P n m t X y K s -> K1 s) -> runs P (Fy l) st K1) : VX P n m (.seq (.seq (.region id l.toArray false) (.cond (.tmp t) .skip X)) y) st K := by
 obtain ⟨s, h1, sl, ob, b, a, k, v, xs, ds, rfl, h2, h3, h4, h5, h6, h7, e, s2, h8, h9⟩ := O5 _ _ (h _ fun _ h => h)
 refine ⟨e, s2, .seq (.region_seq hd fun K1 hK1 => Kd _ _ ?_ h1), h9⟩
 rintro s' rfl
 exact hK1 _ (Dl h2 h3 h4 h5 h6 h7 h8)
abbrev Cf := @VX.orcases2
theorem VX.region1 {id : Nat} {l : List Oper} (hd : Ff n l = true) (h : ∀ K1 : St -> Prop, (∀ s, K .normal s -> K1 s) -> runs P (Fy l) st K1) : VX P n m (.region id l.toArray false) st K := .region hd h
abbrev Cy := @VX.region1
end
section
variable {P : Program}
def Ar4 (P : Program) (rs : List ResultVar) (Φ : AV -> Prop) (e : Exit) (st : St) : Prop := ∃ res, P0 P 0 rs [] res e st /\ Φ res
theorem Aqa {st : St} {rs : List ResultVar} {Φ : AV -> Prop} (hc : Tl P st rs) (h : Φ ((J0 P st rs).ren fun _ => none).low) : Ar4 P rs Φ .ret st := ⟨_, Am7 hc rfl, h⟩
theorem As5 {f : FuncId} {fn : Func} {c : Code} {args : List AV} {Φ : AV -> Prop} (hf : P.funcs[f]? = some fn) (hb : fn.body = some c) (hn : (fn.name == "runtime.NumGoroutine") = false) {rs : List ResultVar} (hrs : fn.results = rs.toArray) (hk : args.length <= fn.ntmps)
 (h : VX P fn.ntmps 0 c ⟨Hc 0 args, []⟩ (Ar4 P rs Φ)) : ∃ res, Ei P f [] args [] res /\ Φ res := by
 obtain ⟨e, s, h1, res, h2, h3⟩ := h
 refine ⟨res, Abm hf hb hn hrs hk (h1.mono ?_), h3⟩
 rintro e' s' ⟨rfl, rfl⟩
 exact h2
def IsB (p : Bool -> Prop) (r : AV) : Prop := ∃ b, r = .lb b /\ p b
def IsI (p : Int -> Prop) (r : AV) : Prop := ∃ n, r = .li n /\ p n
theorem Atl {p : Bool -> Prop} {b : Bool} : IsB p (.lb b) = p b := by
 apply propext
 constructor
 ·rintro ⟨b', h1, h2⟩
  injection h1 with h1
  injection h1 with h1
  subst h1
  exact h2
 exact fun h => ⟨b, rfl, h⟩
theorem Atk {p : Int -> Prop} {n : Int} : IsI p (.li n) = p n := by
 apply propext
 constructor
 ·rintro ⟨b', h1, h2⟩
  injection h1 with h1
  injection h1 with _ h1
  subst h1
  exact h2
 exact fun h => ⟨n, rfl, h⟩
attribute [go_sem] Atl Atk
end
def IsD {D : Type} (form : D -> AV) (Q : D -> Prop) (r : AV) : Prop := ∃ d, r = form d /\ Q d
theorem got {P : Program} {f : FuncId} {args : List AV} {D : Type} {form : D -> AV} {Q : D -> Prop} (h : ∃ res, Ei P f [] args [] res /\ IsD form Q res) : ∃ d, Ei P f [] args [] (form d) /\ Q d := by
  obtain ⟨res, h1, d, rfl, h2⟩ := h
  exact ⟨d, h1, h2⟩
def Ct {D : Type} (f : FuncId) (args : List AV) (F : D -> AV) (Q : D -> Prop) : Prop := ∃ res, PP f [] args [] res /\ IsD F Q res
section
variable {P : Program} {n m : Nat} {st s' : St} {K : Exit -> St -> Prop} {id : Nat} {l : List Oper} {y : Code}
theorem VX.R (h : VX P n m y s' K) (hr : ∀ K1 : St -> Prop, K1 s' -> runs P (Fy l) st K1 := by intro K k; simp [go_sem]; exact k) (hd : Ff n l = true := by rfl) : VX P n m (.seq (.region id l.toArray false) y) st K := .region_seq hd fun K1 h1 => hr K1 (h1 _ h)
abbrev Bq := @VX.R
theorem VX.R1 (h : K .normal s') (hr : ∀ K1 : St -> Prop, K1 s' -> runs P (Fy l) st K1 := by intro K k; simp [go_sem]; exact k) (hd : Ff n l = true := by rfl) : VX P n m (.region id l.toArray false) st K := .region1 hd fun K1 h1 => hr K1 (h1 _ h)
abbrev Ci := @VX.R1
theorem VX.S (hr : ∀ K1 : St -> Prop, K1 s' -> runs P (Fy l) st K1) (h : VX P n m y s' K) (hd : Ff n l = true := by rfl) : VX P n m (.seq (.region id l.toArray false) y) st K := .region_seq hd fun K1 h1 => hr K1 (h1 _ h)
abbrev B3 := @VX.S
theorem VX.S1 (hr : ∀ K1 : St -> Prop, K1 s' -> runs P (Fy l) st K1) (h : K .normal s') (hd : Ff n l = true := by rfl) : VX P n m (.region id l.toArray false) st K := .region1 hd fun K1 h1 => hr K1 (h1 _ h)
abbrev Cb := @VX.S1
theorem VX.D {tr : Tr} (h : VX P n m y s' K) (hr : ∀ K1 : Tr -> St -> Prop, K1 tr s' -> F8 P (Fy l) st [] K1 := by intro K k; simp [go_sem]; exact k) (hm : P.follows .mixedOrders = true := by kernel_rfl) (hd : Ff n l = true := by rfl) (hs : Iu l = true := by kernel_rfl) (hi : P7 l tr = true := by kernel_rfl) : VX P n m (.seq (.region id l.toArray true) y) st K := .draw_seq hm hd hs fun K1 h1 => hr K1 (h1 _ _ hi h)
theorem VX.E {tr : Tr} (hr : ∀ K1 : Tr -> St -> Prop, K1 tr s' -> F8 P (Fy l) st [] K1) (h : VX P n m y s' K) (hm : P.follows .mixedOrders = true := by kernel_rfl) (hd : Ff n l = true := by rfl) (hs : Iu l = true := by kernel_rfl) (hi : P7 l tr = true := by kernel_rfl) : VX P n m (.seq (.region id l.toArray true) y) st K := .draw_seq hm hd hs fun K1 h1 => hr K1 (h1 _ _ hi h)
abbrev Cz := @VX.E
theorem VX.E1 {tr : Tr} (hr : ∀ K1 : Tr -> St -> Prop, K1 tr s' -> F8 P (Fy l) st [] K1) (h : K .normal s') (hm : P.follows .mixedOrders = true := by kernel_rfl) (hd : Ff n l = true := by rfl) (hs : Iu l = true := by kernel_rfl) (hi : P7 l tr = true := by kernel_rfl) : VX P n m (.region id l.toArray true) st K := .draw1 hm hd hs fun K1 h1 => hr K1 (h1 _ _ hi h)
abbrev De := @VX.E1
theorem VX.C {c : Operand} {x : Code} (ht : Ew (st.raw c).sv = true -> VX P n m x st K) (hf : Ew (st.raw c).sv = false -> VX P n m y st K) (hb : Hh (st.raw c).sv = true := by simp [go_sem]) (hs : (st.raw c).sb = true := by simp [go_sem]) : VX P n m (.cond c x y) st K := .cond hb hs ht hf
abbrev C5 := @VX.C
theorem VX.Q {c : Operand} {x : Code} {p q : Prop} (ht : p -> VX P n m x st K) (hf : q -> VX P n m y st K) (hp : (Ew (st.raw c).sv = true) = p := by simp [go_sem]; exact Iff.rfl) (hq : (Ew (st.raw c).sv = false) = q := by simp [go_sem]; exact Iff.rfl) (hb : Hh (st.raw c).sv = true := by simp [go_sem]) (hs : (st.raw c).sb = true := by simp [go_sem]) : VX P n m (.cond c x y) st K := .cond hb hs (fun h => ht (hp ▸ h)) fun h => hf (hq ▸ h)
abbrev Br := @VX.Q
theorem VX.F (id : Nat) (hv : VX P n m y (st.freeze id) K) (h : Fp (st.o id) = true := by simp [go_sem, Fp]) : VX P n m y st K := .freeze id h hv
abbrev Dg := @VX.F
end
theorem Ek {P : Program} {f : FuncId} {fn : Func} {c : Code} {args : List AV} {Φ : AV -> Prop} {rs : List ResultVar} (hf : P.funcs[f]? = some fn) (h : VX P fn.ntmps 0 c ⟨Hc 0 args, []⟩ (Ar4 P rs Φ)) (hb : fn.body = some c := by rfl) (hn : (fn.name == "runtime.NumGoroutine") = false := by rfl) (hrs : fn.results = rs.toArray := by rfl) (hk : args.length <= fn.ntmps := by exact Nat.le_of_ble_eq_true rfl) : ∃ res, Ei P f [] args [] res /\ Φ res := As5 hf hb hn hrs hk h
theorem Ex {P : Program} {st : St} {rs : List ResultVar} {Φ : AV -> Prop} (h : Φ ((J0 P st rs).ren fun _ => none).low) (hc : Tl P st rs := by simp [go_sem]) : Ar4 P rs Φ .ret st := Aqa hc h
section
variable {P : Program} {n m : Nat} {st s' : St} {K : Exit -> St -> Prop} {id : Nat} {l : List Oper} {y : Code}
theorem VX.H {p : Prop} (e : p) (h : VX P n m y s' K) (hr : ∀ K1 : St -> Prop, p -> K1 s' -> runs P (Fy l) st K1 := by intro K e k; simp [go_sem, e]; (repeat first | exact k | refine aK ?_)) (hd : Ff n l = true := by rfl) : VX P n m (.seq (.region id l.toArray false) y) st K := .region_seq hd fun K1 h1 => hr K1 e (h1 _ h)
abbrev Bu := @VX.H
theorem VX.L {p : Prop} {f : FuncId} {args : List AV} {σr : List Ob} {res : AV} (e : p) (c : Ei P f [] args σr res) (h : VX P n m y s' K) (hr : ∀ K1 : St -> Prop, p -> Ei P f [] args σr res -> K1 s' -> runs P (Fy l) st K1 := by intro K e c k; simp [go_sem, e]; (repeat refine aK ?_); refine .l c ?_; simp [go_sem, e]; (repeat first | exact k | refine aK ?_)) (hd : Ff n l = true := by rfl) : VX P n m (.seq (.region id l.toArray false) y) st K := .region_seq hd fun K1 h1 => hr K1 e c (h1 _ h)
abbrev B8 := @VX.L
theorem VX.G {tr : Tr} {p : Prop} (e : p) (h : VX P n m y s' K) (hr : ∀ K1 : Tr -> St -> Prop, p -> K1 tr s' -> F8 P (Fy l) st [] K1 := by intro K e k; simp [go_sem, e]; (repeat first | exact k | refine aK ?_)) (hm : P.follows .mixedOrders = true := by kernel_rfl) (hd : Ff n l = true := by rfl) (hs : Iu l = true := by kernel_rfl) (hi : P7 l tr = true := by kernel_rfl) : VX P n m (.seq (.region id l.toArray true) y) st K := .draw_seq hm hd hs fun K1 h1 => hr K1 e (h1 _ _ hi h)
abbrev C8 := @VX.G
theorem VX.M {tr : Tr} {p : Prop} {f : FuncId} {args : List AV} {σr : List Ob} {res : AV} (e : p) (c : Ei P f [] args σr res) (h : VX P n m y s' K) (hr : ∀ K1 : Tr -> St -> Prop, p -> Ei P f [] args σr res -> K1 tr s' -> F8 P (Fy l) st [] K1 := by intro K e c k; simp [go_sem, e]; (repeat refine aK ?_); refine .l c ?_; simp [go_sem, e]; (repeat first | exact k | refine aK ?_)) (hm : P.follows .mixedOrders = true := by kernel_rfl) (hd : Ff n l = true := by rfl) (hs : Iu l = true := by kernel_rfl) (hi : P7 l tr = true := by kernel_rfl) : VX P n m (.seq (.region id l.toArray true) y) st K := .draw_seq hm hd hs fun K1 h1 => hr K1 e c (h1 _ _ hi h)
abbrev Da := @VX.M
theorem VX.H1 {p : Prop} (e : p) (h : K .normal s') (hr : ∀ K1 : St -> Prop, p -> K1 s' -> runs P (Fy l) st K1 := by intro K e k; simp [go_sem, e]; (repeat first | exact k | refine aK ?_)) (hd : Ff n l = true := by rfl) : VX P n m (.region id l.toArray false) st K := .region1 hd fun K1 h1 => hr K1 e (h1 _ h)
abbrev B0 := @VX.H1
theorem VX.L1 {p : Prop} {f : FuncId} {args : List AV} {σr : List Ob} {res : AV} (e : p) (c : Ei P f [] args σr res) (h : K .normal s') (hr : ∀ K1 : St -> Prop, p -> Ei P f [] args σr res -> K1 s' -> runs P (Fy l) st K1 := by intro K e c k; simp [go_sem, e]; (repeat refine aK ?_); refine .l c ?_; simp [go_sem, e]; (repeat first | exact k | refine aK ?_)) (hd : Ff n l = true := by rfl) : VX P n m (.region id l.toArray false) st K := .region1 hd fun K1 h1 => hr K1 e c (h1 _ h)
abbrev Do := @VX.L1
theorem VX.G1 {tr : Tr} {p : Prop} (e : p) (h : K .normal s') (hr : ∀ K1 : Tr -> St -> Prop, p -> K1 tr s' -> F8 P (Fy l) st [] K1 := by intro K e k; simp [go_sem, e]; (repeat first | exact k | refine aK ?_)) (hm : P.follows .mixedOrders = true := by kernel_rfl) (hd : Ff n l = true := by rfl) (hs : Iu l = true := by kernel_rfl) (hi : P7 l tr = true := by kernel_rfl) : VX P n m (.region id l.toArray true) st K := .draw1 hm hd hs fun K1 h1 => hr K1 e (h1 _ _ hi h)
theorem VX.M1 {tr : Tr} {p : Prop} {f : FuncId} {args : List AV} {σr : List Ob} {res : AV} (e : p) (c : Ei P f [] args σr res) (h : K .normal s') (hr : ∀ K1 : Tr -> St -> Prop, p -> Ei P f [] args σr res -> K1 tr s' -> F8 P (Fy l) st [] K1 := by intro K e c k; simp [go_sem, e]; (repeat refine aK ?_); refine .l c ?_; simp [go_sem, e]; (repeat first | exact k | refine aK ?_)) (hm : P.follows .mixedOrders = true := by kernel_rfl) (hd : Ff n l = true := by rfl) (hs : Iu l = true := by kernel_rfl) (hi : P7 l tr = true := by kernel_rfl) : VX P n m (.region id l.toArray true) st K := .draw1 hm hd hs fun K1 h1 => hr K1 e c (h1 _ _ hi h)
abbrev Co := @VX.M1
theorem fin {rs : List ResultVar} {p : Prop} {D : Type} {F : D -> AV} {Q : D -> Prop} (e : p) (d : D) (hq : Q d) (hf : p -> ((J0 P st rs).ren fun _ => none).low = F d := by intro e; simp [go_sem, e]) (hc : Tl P st rs := by simp [go_sem]) : Ar4 P rs (IsD F Q) .ret st := Aqa hc ⟨d, hf e, hq⟩
end
section
variable {P : Program} {n m : Nat} {st s' : St} {K : Exit -> St -> Prop} {y : Code}
theorem VX.Z {p : Prop} (e : p) (id : Nat) (hv : VX P n m y s' K) (hs : p -> st.freeze id = s' := by intro e; simp [go_sem, e]; rfl) (h : Fp (st.o id) = true := by simp [go_sem, Fp]) : VX P n m y st K := .freeze id h (by rw [hs e]; exact hv)
abbrev B2 := @VX.Z
end
def Mv (n : Nat) (f : Nat -> Bool) : Bool := (List.range n).all f
theorem X9 {n : Nat} {f : Nat -> Bool} {i : Nat} (hi : i < n) (h : f i = false) : Mv n f = false := by
 unfold Mv
 rw [List.all_eq_false]
 exact ⟨i, List.mem_range.2 hi, by simp [h]⟩
theorem Ly {n : Nat} {f : Nat -> Bool} (h : ∀ i, i < n -> f i = true) : Mv n f = true := by
 unfold Mv
 rw [Am]
 exact fun i hi => h i (List.mem_range.1 hi)
theorem Zm {n : Nat} {f : Nat -> Bool} : Mv n f = true <-> ∀ i, i < n -> f i = true := by
 unfold Mv
 rw [Am]
 exact ⟨fun h i hi => h i (List.mem_range.2 hi), fun h i hi => h i (List.mem_range.1 hi)⟩
theorem Ans {p : Nat -> Prop} {i : Nat} (h : ∀ k, k < i -> p k) (hi : p i) : ∀ k, k < i + 1 -> p k := fun k hk => by
 by_cases e : k = i
 ·subst e; exact hi
 exact h k (by omega)
def Ut (row : Int) (q : Nat) : Int := Eu .and .i64 (row.fdiv (2 ^ min q 64)) 1
def Rc (c : List Int) (i : Nat) : Int := (c[i]?).getD 0
def Ajx (c : List Int) (p : Nat) : Bool := !(decide (Rc c p < 0) || ((Rc c p).fdiv (2 ^ min c.length 64) != 0) || (Ut (Rc c p) p != 0)) && Mv c.length fun q => Ut (Rc c p) q == Ut (Rc c q) p
def Sp (c : List Int) : Bool := decide (1 <= c.length) && decide (c.length <= 8) && Mv c.length (Ajx c)
def Za (c : List Int) (p q : Int) : Bool := decide (0 <= p) && decide (0 <= q) && decide (p < c.length) && decide (q < c.length) && (Ut (Rc c p.toNat) q.toNat == 1)
def Av8 (s : Int) (p : Nat) : Bool := Eu .and .u64 ((IntKind.u64.wrap s).fdiv (2 ^ min p 64)) 1 == 1
theorem Ab9 (c : List Int) (hl : c.length <= 1000000) : PP 107 [] [.mI c] [] (.lb (Sp c)) := by
 refine Eb Tryz.func107 ?_
 refine Bw <| .seq ?_
 refine Bw ?_
 refine B7 ?_ ?_ <;> intro h13
 ·refine Bw ?_
  refine B6 ?_
  simp [go_sem]
  rw [Bool.eq_false_iff]; intro h; simp only [Sp, Ah, decide_eq_true_eq] at h; omega
 refine Bv <| .seq <| .R <| .block ?_
 refine Cs c.length (fun i1 (y1 : Unit) => ⟨[(0, .mI c), (14, .mI c), (15, .li c.length), (16, .li i1)], []⟩) (fun i1 y1 => ∀ k, k < i1 -> Ajx c k = true) (()) ⟨[], Ds (by decide) ?_ ?_, by simp⟩ (by intro k h; omega) fun i1 y1 hi1 hy1 => ?_
 ·simp [go_sem]
 ·simp [go_sem]
 refine Bw <| .seq ?_
 refine B7 ?_ ?_ <;> intro h17
 ·have hx : c[i1]? = some c[i1] := Aa (by omega)
  generalize c[i1] = x at hx
  have hxa : Rc c i1 = x := by simp [Rc, hx]
  refine Bv <| .seq <| .block <| .H hx <| .seq ?_
  refine VW.H ok0 ?_
  refine B7 ?_ ?_ <;> intro h36
  ·refine Bw ?_
   refine B6 ?_
   simp [go_sem]
   rw [Bool.eq_false_iff]; intro h; simp only [Sp, Ah] at h; have h2 := Zm.1 h.2 i1 h17; simp only [Ajx, Ah, hxa, Bool.not_eq_true', Bool.or_eq_false_iff, decide_eq_false_iff_not, bne_eq_false_iff_eq] at h2; rcases h36 with (h36 | h36) | h36; exact h2.1.1.1 h36; exact h36 h2.1.1.2; exact h36 h2.1.2
  refine Bv <| .R <| .block ?_
  refine Cs c.length (fun i2 (y2 : Unit) => ⟨[(0, .mI c), (3, .li i1), (4, .li x), (14, .mI c), (15, .li c.length), (16, .li i1), (38, .li c.length), (39, .li i2)], []⟩) (fun i2 y2 => ∀ k, k < i2 -> (Ut (Rc c i1) k == Ut (Rc c k) i1) = true) (()) ⟨[], Ds (by decide) ?_ ?_, by simp⟩ (by intro k h; omega) fun i2 y2 hi2 hy2 => ?_
  ·simp [go_sem]
  ·simp [go_sem]
  refine Bw <| .seq ?_
  refine B7 ?_ ?_ <;> intro h40
  ·have hz : c[i2]? = some c[i2] := Aa (by omega)
   generalize c[i2] = z at hz
   have hza : Rc c i2 = z := by simp [Rc, hz]
   refine Bv <| .seq <| .block <| .R ?_
   refine VW.G (cj2 hx hz) ?_
   refine B7 ?_ ?_ <;> intro h53
   ·refine Bw ?_
    refine B6 ?_
    simp [go_sem]
    rw [Bool.eq_false_iff]; intro h; simp only [Sp, Ah] at h; have h2 := Zm.1 h.2 i1 h17; simp only [Ajx, Ah] at h2; have h3 := Zm.1 h2.2 i2 h40; rw [hxa, hza] at h3; exact h53 (by simpa [Ut] using h3)
   refine Bv <| .R1 ?_
   refine ⟨by omega, (), ?_, [], Ds (by decide) ?_ ?_, by simp⟩
   ·refine Ans hy2 ?_; rw [hxa, hza]; simpa [Ut] using h53
   ·simp [go_sem, Dt ((i2 : Int) + 1)]
   simp [go_sem]
  refine B5 <| .R1 ?_
  refine ⟨by omega, (), ?_, [], Ds (by decide) ?_ ?_, by simp⟩
  ·refine Ans hy1 ?_; simp only [Ajx, hxa, Ah]; refine ⟨?_, Ly (by intro k hk; have := hy2 k (by omega); rwa [hxa] at this)⟩; have hn : ¬ x < 0 := (by omega); simp [Ut, hn, h36.1.2, h36.2]
  ·simp [go_sem, Dt ((i1 : Int) + 1)]
  simp [go_sem]
 refine B5 <| .R ?_
 refine B6 ?_
 simp [go_sem]
 have he : i1 = c.length := by omega
 subst he
 simp only [Sp, Ah, decide_eq_true_eq]; exact ⟨⟨by omega, by omega⟩, Ly hy1⟩
theorem Zv (s : Int) (p : Nat) : PP 247 [] [.li s, .li p] [] (.lb (Av8 s p)) := by
 refine Eb Tryz.func247 ?_
 refine Bw ?_
 refine VW.H ok0 ?_
 refine B6 ?_
 simp [go_sem, Av8]
theorem Hl (c : List Int) (p q : Int) (hl : c.length <= 1000000) : PP 142 [] [.mI c, .li p, .li q] [] (.lb (Za c p q)) := by
 refine Eb Tryz.func142 ?_
 refine Bw <| .seq ?_
 refine Bw ?_
 refine B7 ?_ ?_ <;> intro h24
 ·refine Bw ?_
  refine B6 ?_
  simp [go_sem]
  first
   | (rw [Bool.eq_false_iff]; intro h; simp only [Za, Ah, decide_eq_true_eq] at h; omega)
   | (have h1 := h24.1.1.1; have h2 := h24.1.1.2; have h3 := h24.1.2; have h4 := h24.2; simp [Za, Ut, hxa, h1, h2, h3, h4])
 have hx : c[p.toNat]? = some c[p.toNat] := Aa (by omega)
 generalize c[p.toNat] = x at hx
 have hxa : Rc c p.toNat = x := by simp only [Rc, hx, Bh]
 refine Bv <| .H hx ?_
 refine B6 ?_
 simp [go_sem]
 first
  | (rw [Bool.eq_false_iff]; intro h; simp only [Za, Ah, decide_eq_true_eq] at h; omega)
  | (have h1 := h24.1.1.1; have h2 := h24.1.1.2; have h3 := h24.1.2; have h4 := h24.2; simp [Za, Ut, hxa, h1, h2, h3, h4])
def Axx (r : AV) : Prop := ∃ a b : Int, r = .tup [.li a, .li b]
theorem Ab0 (c : List Int) (s : Int) (hl : c.length <= 1000000) : ∃ res, PP 220 [] [.mI c, .li s] [] res /\ Axx res := by
 refine Ek Tryz.func220 ?_
 refine Bq <| .seq ?_
 refine Bq <| .block ?_
 refine VX.range c.length (fun i1 => ⟨[(0, .mI c), (1, .li s), (9, .li c.length), (10, .li i1)], []⟩) (wk ok0 []) fun i1 hi1 => ?_
 refine Bq <| .seq ?_
 refine Br ?_ ?_ <;> intro h11
 ·refine Bp <| .seq <| .block <| .R <| .seq ?_
  refine B8 ok0 (Zv s i1) ?_
  refine Br ?_ ?_ <;> intro h16
  ·refine Bt <| .R1 ?_
   refine ⟨by omega, [], Ds (by decide) ?_ ?_, by simp⟩
   ·simp [go_sem, Dt ((i1 : Int) + 1)]
   simp [go_sem]
  refine Bp <| .R <| .block ?_
  refine VX.range c.length (fun i2 => ⟨[(0, .mI c), (1, .li s), (6, .li i1), (9, .li c.length), (10, .li i1), (18, .li c.length), (19, .li i2)], []⟩) (wk ok0 []) fun i2 hi2 => ?_
  refine Bq <| .seq ?_
  refine Br ?_ ?_ <;> intro h20
  ·refine Bp <| .seq <| .block <| .R ?_
   refine B4 (by rfl) fun K1 hK1 => ?_
   simp [go_sem]
   refine RCG ?_
   simp [go_sem]
   first | refine .lo (Zv s i2) rfl (by simp) ?_ | refine .skip ?_
   simp [go_sem]
   refine RCG ?_
   simp [go_sem]
   first | refine .lo (Hl c i1 i2 hl) rfl (by simp) ?_ | refine .skip ?_
   simp [go_sem]
   refine hK1 _ ?_; clear hK1
   refine Br ?_ ?_ <;> intro h35
   ·refine Bq ?_
    refine Bz (Ex ?_); simp [go_sem]
    exact ⟨_, _, rfl⟩
   refine Bp <| .R1 ?_
   refine ⟨by omega, [], Ds (by decide) ?_ ?_, by simp⟩
   ·simp [go_sem, Dt ((i2 : Int) + 1)]
   simp [go_sem]
  refine Bt <| .R1 ?_
  refine ⟨by omega, [], Ds (by decide) ?_ ?_, by simp⟩
  ·simp [go_sem, Dt ((i1 : Int) + 1)]
  simp [go_sem]
 refine Bt <| .R ?_
 refine Bz (Ex ?_); simp [go_sem]
 exact ⟨_, _, rfl⟩
def Ej (n lo hi : Int) : Bool := decide (lo <= n) && decide (n <= hi)
def It (p : Fk) : Bool := (Ej p.ring 0 1 && Ej p.grp 0 3) && (Ej p.mi 1 60 && Ej p.ma 1 60 && Ej p.ye 1 60) && (Ej p.re 0 60 && Ej p.wa 0 60 && Ej p.cl 0 60) &&
 (decide (p.mi <= p.ma) && decide (IntKind.i64.wrap (p.wa + p.cl) <= p.ma) && ((p.wa == 0) == (p.cl == 0)))
theorem Api {α : Type} {l : List α} {p : α -> Prop} {i : Nat} {y : α} (h : ∀ k x, k < i -> l[k]? = some x -> p x) (hy : l[i]? = some y) (hi : p y) : ∀ k x, k < i + 1 -> l[k]? = some x -> p x := fun k x hk hx => by
 by_cases e : k = i
 ·subst e; rw [hy] at hx; injection hx with hx; subst hx; exact hi
 exact h k x (by omega) hx
def Mr (j : Fr) (p : Nat) : Fk := (j.phs[p]?).getD ⟨0, 0, 0, 0, 0, 0, 0, 0⟩
def Xz (j : Fr) (p q : Nat) : Bool := (p != q) && ((Mr j p).ring == (Mr j q).ring || (Mr j p).grp != (Mr j q).grp) && !Za j.con p q
def Vd (j : Fr) : Bool := Mv j.phs.length fun p => Mv j.phs.length fun q => !Xz j p q
theorem Eg (n lo hi : Int) : PP 79 [] [.li n, .li lo, .li hi] [] (.lb (Ej n lo hi)) := by
 refine Eb Tryz.func79 ?_
 iterate 2 refine Bw ?_
 refine B6 ?_
 simp [go_sem, Ej]
theorem Agp (p : Fk) : PP 108 [] [p.g] [] (.lb (It p)) := by
 refine Eb Tryz.func108 ?_
 refine Bw <| .seq ?_
 refine Bx (by rfl) fun K1 hK1 => ?_
 simp [go_sem]
 refine .lo (Eg _ _ _) rfl (by simp) ?_
 simp [go_sem]
 refine RCG ?_
 simp [go_sem]
 first | refine .lo (Eg _ _ _) rfl (by simp) ?_ | refine .skip ?_
 simp [go_sem]
 refine hK1 _ ?_; clear hK1
 refine B7 ?_ ?_ <;> intro h12
 ·refine Bw ?_
  refine B6 ?_
  simp [go_sem]
  unfold It
  revert h12
  cases Ej p.ring 0 1 <;> cases Ej p.grp 0 3 <;> simp [It]
 refine Bv <| .seq ?_
 refine Bx (by rfl) fun K1 hK1 => ?_
 simp [go_sem]
 refine .lo (Eg _ _ _) rfl (by simp) ?_
 simp [go_sem]
 refine RCG ?_
 simp [go_sem]
 first | refine .lo (Eg _ _ _) rfl (by simp) ?_ | refine .skip ?_
 simp [go_sem]
 refine RCG ?_
 simp [go_sem]
 first | refine .lo (Eg _ _ _) rfl (by simp) ?_ | refine .skip ?_
 simp [go_sem]
 refine hK1 _ ?_; clear hK1
 refine B7 ?_ ?_ <;> intro h28
 ·refine Bw ?_
  refine B6 ?_
  simp [go_sem]
  unfold It
  revert h28
  cases Ej p.mi 1 60 <;> cases Ej p.ma 1 60 <;> cases Ej p.ye 1 60 <;> simp [It]
 refine Bv <| .seq ?_
 refine Bx (by rfl) fun K1 hK1 => ?_
 simp [go_sem]
 refine .lo (Eg _ _ _) rfl (by simp) ?_
 simp [go_sem]
 refine RCG ?_
 simp [go_sem]
 first | refine .lo (Eg _ _ _) rfl (by simp) ?_ | refine .skip ?_
 simp [go_sem]
 refine RCG ?_
 simp [go_sem]
 first | refine .lo (Eg _ _ _) rfl (by simp) ?_ | refine .skip ?_
 simp [go_sem]
 refine hK1 _ ?_; clear hK1
 refine B7 ?_ ?_ <;> intro h44
 ·refine Bw ?_
  refine B6 ?_
  simp [go_sem]
  unfold It
  revert h44
  cases Ej p.re 0 60 <;> cases Ej p.wa 0 60 <;> cases Ej p.cl 0 60 <;> simp [It]
 refine Bv <| .R ?_
 refine B6 ?_
 simp [go_sem]
 simp_all [It]
theorem Agq (j : Fr) (h1 : j.phs.length <= 1000000) (h2 : j.con.length <= 1000000) : PP 109 [] [j.g] [] (.lb (Vd j)) := by
 refine Eb Tryz.func109 ?_
 refine Bw ?_
 refine VW.scope ?_
 refine Bw <| .seq ?_
 refine VW.label ?_
 refine Dr <| .R <| .block ?_
 refine Cs j.phs.length (fun i1 (y1 : Unit) => ⟨[(1, .ptr 0 0), (3, .lb true), (9, .mPhase j.phs), (10, .li j.phs.length), (11, .li i1)], [.box 88 [.mPhase j.phs, .mI j.con, .li j.start]]⟩) (fun i1 y1 => ∀ k, k < i1 -> (Mv j.phs.length fun q => !Xz j k q) = true) (()) ⟨[0], Ds (by decide) ?_ ?_, by simp⟩ (by intro k h; omega) fun i1 y1 hi1 hy1 => ?_
 ·simp [go_sem]
 ·simp [go_sem]
 refine Bw <| .seq ?_
 refine B7 ?_ ?_ <;> intro h12
 ·have hxa : j.phs[i1]? = some j.phs[i1] := Aa (by omega)
  generalize j.phs[i1] = a at hxa
  have haa : Mr j i1 = a := by simp only [Mr, hxa, Bh]
  refine Bv <| .seq <| .block <| .H hxa ?_
  refine Bw <| .block ?_
  refine Cs j.phs.length (fun i2 (y2 : Unit) => ⟨[(1, .ptr 0 0), (3, .lb true), (4, .li i1), (5, .ptr 1 0), (9, .mPhase j.phs), (10, .li j.phs.length), (11, .li i1), (17, .mPhase j.phs), (18, .li j.phs.length), (19, .li i2)], [.box 88 [.mPhase j.phs, .mI j.con, .li j.start], .box 124 [.li a.ring, .li a.grp, .li a.mi, .li a.ma, .li a.ye, .li a.re, .li a.wa, .li a.cl]]⟩) (fun i2 y2 => ∀ k, k < i2 -> (!Xz j i1 k) = true) (()) ⟨[0, 1], Ds (by decide) ?_ ?_, by simp⟩ (by intro k h; omega) fun i2 y2 hi2 hy2 => ?_
  ·simp [go_sem]
  ·simp [go_sem]
  refine Bw <| .seq ?_
  refine B7 ?_ ?_ <;> intro h20
  ·have hxb : j.phs[i2]? = some j.phs[i2] := Aa (by omega)
   generalize j.phs[i2] = b at hxb
   have hab : Mr j i2 = b := by simp only [Mr, hxb, Bh]
   refine Bv <| .seq <| .block <| .H hxb ?_
   refine Bx (by rfl) fun K1 hK1 => ?_
   simp +contextual [go_sem]
   refine RCG ?_
   simp +contextual [go_sem]
   first | refine .lo (Hl j.con i1 i2 h2) rfl (by simp) ?_ | refine .skip ?_
   simp +contextual [go_sem]
   refine hK1 _ ?_; clear hK1
   refine B7 ?_ ?_ <;> intro h48
   ·refine Bw <| .exit ?_
    refine Bw ?_
    refine B6 ?_
    simp [go_sem]
    have e : i1 ≠ i2 := by omega
    have hb : Xz j i1 i2 = true := by simp [Xz, haa, hab, e, h48.2]; exact h48.1.2
    exact X9 h12 (X9 h20 (by simp [hb]))
   refine Bv <| .R1 ?_
   refine ⟨by omega, (), ?_, [0, 1], Ds (by decide) ?_ ?_, by simp⟩
   ·refine Ans hy2 ?_; by_cases e : i1 = i2; simp [Xz, e]; have h := h48 (by omega); by_cases c1 : a.ring = b.ring \/ ¬ a.grp = b.grp; simp [Xz, h c1]; rw [not_or, Classical.not_not] at c1; simp [Xz, haa, hab, c1.1, c1.2]
   ·simp [go_sem, Dt ((i2 : Int) + 1)]
   simp [go_sem]
  refine B5 <| .R1 ?_
  refine ⟨by omega, (), ?_, [0], Ds (by decide) ?_ ?_, by simp⟩
  ·refine Ans hy1 (Ly (by intro k hk; exact hy2 k (by omega)))
  ·simp [go_sem, Dt ((i1 : Int) + 1)]
  simp [go_sem]
 refine B5 <| .R ?_
 refine B6 ?_
 simp [go_sem]
 exact Ly fun k hk => hy1 k (by omega)
def Xy (j : Fr) : Nat -> Int
 | 0 => 0
 | i + 1 => Eu .or .i64 (Xy j i) (IntKind.i64.wrap (1 * 2 ^ min (Mr j i).grp.toNat 64))
def Px (j : Fr) : Bool := decide (1 <= j.phs.length) && decide (j.phs.length <= 8) && decide (j.con.length = j.phs.length) && Sp j.con && Ej j.start 0 60 && Mv j.phs.length (fun p => It (Mr j p)) &&
 (Eu .and .i64 (Xy j j.phs.length) (IntKind.i64.wrap (Xy j j.phs.length + 1)) == 0) && Vd j
theorem Ql {p : Fk} (h : It p = true) : 0 <= p.ring /\ p.ring <= 1 /\ 0 <= p.grp /\ p.grp <= 3 := by
 simp only [It, Ej, Ah, decide_eq_true_eq] at h
 omega
theorem Ok (j : Fr) (h1 : j.phs.length <= 1000000) (h2 : j.con.length <= 1000000) : PP 80 [] [j.g] [] (.lb (Px j)) := by
 refine Eb Tryz.func80 ?_
 refine Bw ?_
 refine Bw <| .seq ?_
 refine Bx (by rfl) fun K1 hK1 => ?_
 simp [go_sem]
 refine RCG ?_
 simp [go_sem]
 first | refine .lo (Ab9 j.con h2) rfl (by simp) ?_ | refine .skip ?_
 simp [go_sem]
 refine hK1 _ ?_; clear hK1
 refine B7 ?_ ?_ <;> intro h28
 ·refine Bw ?_
  refine B6 ?_
  simp [go_sem]
  rw [Bool.eq_false_iff]; intro h; simp only [Px, Ah, decide_eq_true_eq] at h; rcases h28 with ((h28 | h28) | h28) | h28 <;> first | omega | simp_all
 refine Bv <| .seq <| .S (fun K kk => by simp [go_sem]; refine .lo (Eg _ _ _) rfl (by simp) ?_; simp [go_sem]; exact kk) ?_
 refine B7 ?_ ?_ <;> intro h32
 ·refine Bw ?_
  refine B6 ?_
  simp [go_sem]
  simp [Px, h32]
 refine Bv <| .R <| .seq ?_
 refine Bw <| .block ?_
 refine Cs j.phs.length (fun i1 (y1 : Unit) => ⟨[(1, .ptr 0 0), (4, .li (Xy j i1)), (34, .mPhase j.phs), (35, .li j.phs.length), (36, .li i1)], [.box 88 [.mPhase j.phs, .mI j.con, .li j.start]]⟩) (fun i1 y1 => ∀ k, k < i1 -> It (Mr j k) = true) (()) ⟨[0], Ds (by decide) ?_ ?_, by simp⟩ (by intro k h; omega) fun i1 y1 hi1 hy1 => ?_
 ·simp [go_sem, Xy]
 ·simp [go_sem, Xy]
 refine Bw <| .seq ?_
 refine B7 ?_ ?_ <;> intro h37
 ·have hxa : j.phs[i1]? = some j.phs[i1] := Aa (by omega)
  generalize j.phs[i1] = a at hxa
  have haa : Mr j i1 = a := by simp only [Mr, hxa, Bh]
  refine Bv <| .seq <| .block <| .H hxa <| .seq ?_
  refine Df ok0 (Agp a) ?_
  refine B7 ?_ ?_ <;> intro h42
  ·refine Bw ?_
   refine B6 ?_
   simp [go_sem]
   have ha : Mv j.phs.length (fun p => It (Mr j p)) = false := X9 h37 (by simp [haa, h42])
   simp [Px, ha]
  have hg := Ql h42
  refine Bv <| .H1 ok0 ?_
  refine Cl ?_
  refine ⟨by omega, (), ?_, [0], Ds (by decide) ?_ ?_, by simp⟩
  ·refine Ans hy1 ?_; rw [haa]; exact h42
  ·simp [go_sem, Dt ((i1 : Int) + 1), Xy, haa]
  simp [go_sem, Xy, haa]
 refine B5 ?_
 refine Bx (by rfl) fun K1 hK1 => ?_
 simp [go_sem]
 refine RCG ?_
 simp [go_sem]
 first | refine .lo (Agq j h1 h2) rfl (by simp) ?_ | refine .skip ?_
 simp [go_sem]
 refine hK1 _ ?_; clear hK1
 refine B6 ?_
 simp [go_sem]
 have he : i1 = j.phs.length := by omega
 subst he
 have ha : Mv j.phs.length (fun p => It (Mr j p)) = true := Ly hy1
 have h3 := h28.1.1.1; have h4 := h28.1.1.2; have h5 := h28.1.2; have h6 : 1 <= j.phs.length := (by omega); have h7 : j.phs.length <= 8 := (by omega); have h8 : j.con.length = j.phs.length := (by omega)
 simp [Px, ha, h32, h28.2, h6, h7, h8]
def Aew (a : TAg) : Bool := decide (a.sec.length = 8) && decide (a.lims.length = 4) && Mv a.lims.length (fun i => Ej (Rc a.lims i) 0 8) && (Ej a.ri 0 63 && Ej a.cls 0 3 && Ej a.rq 0 4 && Ej a.se 1 2 && Ej a.bu 0 1000 && Ej a.ra 0 a.bu)
theorem Vw (a : TAg) (h1 : a.sec.length <= 1000000) (h2 : a.lims.length <= 1000000) : PP 81 [] [a.g] [] (.lb (Aew a)) := by
 refine Eb Tryz.func81 ?_
 refine Bw <| .seq ?_
 refine Bw ?_
 refine B7 ?_ ?_ <;> intro h14
 ·refine Bw ?_
  refine B6 ?_
  simp [go_sem]
  have hh : ¬ (a.sec.length = 8 /\ a.lims.length = 4) := by omega
  rw [Bool.eq_false_iff]; intro h; simp only [Aew, Ah, decide_eq_true_eq] at h; exact hh h.1.1
 refine Bv <| .seq <| .R <| .block ?_
 refine Cs a.lims.length (fun i1 (y1 : Unit) => ⟨[(1, .ptr 0 0), (16, .mI a.lims), (17, .li a.lims.length), (18, .li i1)], [.box 60 [.mY a.sec, .li a.ri, .li a.cls, .mI a.lims, .li a.rq, .li a.se, .li a.ra, .li a.bu]]⟩) (fun i1 y1 => ∀ k, k < i1 -> Ej (Rc a.lims k) 0 8 = true) (()) ⟨[0], Ds (by decide) ?_ ?_, by simp⟩ (by intro k h; omega) fun i1 y1 hi1 hy1 => ?_
 ·simp [go_sem]
 ·simp [go_sem]
 refine Bw <| .seq ?_
 refine B7 ?_ ?_ <;> intro h19
 ·have hxx : a.lims[i1]? = some a.lims[i1] := Aa (by omega)
  generalize a.lims[i1] = x at hxx
  have hax : Rc a.lims i1 = x := by simp only [Rc, hxx, Bh]
  refine Bv <| .seq <| .block <| .H hxx ?_
  refine Ce (fun K kk => by simp [go_sem]; refine .lo (Eg _ _ _) rfl (by simp) ?_; simp [go_sem]; exact kk) ?_
  refine B7 ?_ ?_ <;> intro h24
  ·refine Bw ?_
   refine B6 ?_
   simp [go_sem]
   have ha : Mv a.lims.length (fun i => Ej (Rc a.lims i) 0 8) = false := X9 h19 (by simp [hax, h24])
   simp [Aew, ha]
  refine Bv <| .R1 ?_
  refine ⟨by omega, (), ?_, [0], Ds (by decide) ?_ ?_, by simp⟩
  ·refine Ans hy1 ?_; rw [hax]; first | exact h24 | exact h25 | exact h26
  ·simp [go_sem, Dt ((i1 : Int) + 1)]
  simp [go_sem]
 refine B5 ?_
 refine Bx (by rfl) fun K1 hK1 => ?_
 simp [go_sem]
 refine .lo (Eg _ _ _) rfl (by simp) ?_
 simp [go_sem]
 refine RCG ?_
 simp [go_sem]
 first | refine .lo (Eg _ _ _) rfl (by simp) ?_ | refine .skip ?_
 simp [go_sem]
 refine RCG ?_
 simp [go_sem]
 first | refine .lo (Eg _ _ _) rfl (by simp) ?_ | refine .skip ?_
 simp [go_sem]
 refine RCG ?_
 simp [go_sem]
 first | refine .lo (Eg _ _ _) rfl (by simp) ?_ | refine .skip ?_
 simp [go_sem]
 refine RCG ?_
 simp [go_sem]
 first | refine .lo (Eg _ _ _) rfl (by simp) ?_ | refine .skip ?_
 simp [go_sem]
 refine RCG ?_
 simp [go_sem]
 first | refine .lo (Eg _ _ _) rfl (by simp) ?_ | refine .skip ?_
 simp [go_sem]
 refine hK1 _ ?_; clear hK1
 refine B6 ?_
 simp [go_sem]
 have he : i1 = a.lims.length := by omega
 subst he
 have ha : Mv a.lims.length (fun i => Ej (Rc a.lims i) 0 8) = true := Ly hy1
 have h6 : a.sec.length = 8 := (by omega); have h7 : a.lims.length = 4 := (by omega)
 simp only [Aew, ha, h6, decide_true, Bool.true_and]
 rw [decide_eq_true h7, Bool.true_and, Bool.true_and]
structure Zn (c : Fa) : Prop where
  juns : c.juns.length <= 1000000
  ags : c.ags.length <= 1000000
  jun : ∀ j ∈ c.juns, j.phs.length <= 1000000 /\ j.con.length <= 1000000
  ag : ∀ a ∈ c.ags, a.sec.length <= 1000000 /\ a.lims.length <= 1000000
def Mt (c : Fa) : Bool := Ej c.juns.length 1 4 && Ej c.ags.length 1 4 && c.juns.all Px && c.ags.all Aew && (Ej c.per 1 600 && Ej c.cap 0 100 && Ej c.hold 1 60 && Ej c.lock 0 600)
theorem Arr {α : Type} {l : List α} {f : α -> Bool} {i : Nat} {x : α} (hx : l[i]? = some x) (h : f x = false) : l.all f = false := by
 rw [List.all_eq_false]
 exact ⟨x, Ac hx, by simp [h]⟩
theorem Ank {α : Type} {l : List α} {f : α -> Bool} (h : ∀ i x, i < l.length -> l[i]? = some x -> f x = true) : l.all f = true := by
 rw [Am]
 intro x hx
 obtain ⟨i, hi⟩ := A3.1 hx
 exact h i x (Ab.1 hi).1 hi
theorem Aek (c : Fa) (hb : Zn c) : PP 53 [] [c.g] [] (.lb (Mt c)) := by
 refine Eb Tryz.func53 ?_
 have hb1 := hb.juns
 have hb2 := hb.ags
 refine Bw <| .seq ?_
 refine Bx (by rfl) fun K1 hK1 => ?_
 simp [go_sem]
 refine .lo (Eg _ _ _) rfl (by simp) ?_
 simp [go_sem]
 refine RCG ?_
 simp [go_sem]
 first | refine .lo (Eg _ _ _) rfl (by simp) ?_ | refine .skip ?_
 simp [go_sem]
 refine hK1 _ ?_; clear hK1
 refine B7 ?_ ?_ <;> intro h18
 ·refine Bw ?_
  refine B6 ?_
  simp [go_sem]
  rcases h18 with h | h <;> simp [Mt, h]
 refine Bv <| .seq <| .R <| .block ?_
 refine Cs c.juns.length (fun i1 (y1 : Unit) => ⟨[(1, .ptr 0 0), (20, .mJun c.juns), (21, .li c.juns.length), (22, .li i1)], [.box 30 [.mJun c.juns, .mAg c.ags, .li c.per, .li c.cap, .li c.hold, .li c.lock]]⟩) (fun i1 y1 => ∀ k x, k < i1 -> c.juns[k]? = some x -> Px x = true) (()) ⟨[0], Ds (by decide) ?_ ?_, by simp⟩ (by intro k x h; omega) fun i1 y1 hi1 hy1 => ?_
 ·simp [go_sem]
 ·simp [go_sem]
 refine Bw <| .seq ?_
 refine B7 ?_ ?_ <;> intro h23
 ·have hxa : c.juns[i1]? = some c.juns[i1] := Aa (by omega)
  generalize c.juns[i1] = a at hxa
  refine Bv <| .seq <| .block <| .H hxa ?_
  refine Df ok0 (Ok a (hb.jun a (Ac hxa)).1 (hb.jun a (Ac hxa)).2) ?_
  refine B7 ?_ ?_ <;> intro h28
  ·refine Bw ?_
   refine B6 ?_
   simp [go_sem]
   have ha : c.juns.all Px = false := Arr hxa h28
   simp [Mt, ha]
  refine Bv <| .R1 ?_
  refine ⟨by omega, (), ?_, [0], Ds (by decide) ?_ ?_, by simp⟩
  ·exact Api hy1 hxa (by first | exact h27 | exact h26 | exact h28)
  ·simp [go_sem, Dt ((i1 : Int) + 1)]
  simp [go_sem]
 refine B5 <| .seq <| .R <| .block ?_
 refine Cs c.ags.length (fun i2 (y2 : Unit) => ⟨[(1, .ptr 0 0), (31, .mAg c.ags), (32, .li c.ags.length), (33, .li i2)], [.box 30 [.mJun c.juns, .mAg c.ags, .li c.per, .li c.cap, .li c.hold, .li c.lock]]⟩) (fun i2 y2 => ∀ k x, k < i2 -> c.ags[k]? = some x -> Aew x = true) (()) ⟨[0], Ds (by decide) ?_ ?_, by simp⟩ (by intro k x h; omega) fun i2 y2 hi2 hy2 => ?_
 ·simp [go_sem]
 ·simp [go_sem]
 refine Bw <| .seq ?_
 refine B7 ?_ ?_ <;> intro h34
 ·have hxa : c.ags[i2]? = some c.ags[i2] := Aa (by omega)
  generalize c.ags[i2] = a at hxa
  refine Bv <| .seq <| .block <| .H hxa ?_
  refine Df ok0 (Vw a (hb.ag a (Ac hxa)).1 (hb.ag a (Ac hxa)).2) ?_
  refine B7 ?_ ?_ <;> intro h39
  ·refine Bw ?_
   refine B6 ?_
   simp [go_sem]
   have ha : c.ags.all Aew = false := Arr hxa h39
   simp [Mt, ha]
  refine Bv <| .R1 ?_
  refine ⟨by omega, (), ?_, [0], Ds (by decide) ?_ ?_, by simp⟩
  ·exact Api hy2 hxa (by first | exact h37 | exact h38 | exact h39)
  ·simp [go_sem, Dt ((i2 : Int) + 1)]
  simp [go_sem]
 refine B5 ?_
 refine Bx (by rfl) fun K1 hK1 => ?_
 simp [go_sem]
 refine .lo (Eg _ _ _) rfl (by simp) ?_
 simp [go_sem]
 refine RCG ?_
 simp [go_sem]
 first | refine .lo (Eg _ _ _) rfl (by simp) ?_ | refine .skip ?_
 simp [go_sem]
 refine RCG ?_
 simp [go_sem]
 first | refine .lo (Eg _ _ _) rfl (by simp) ?_ | refine .skip ?_
 simp [go_sem]
 refine RCG ?_
 simp [go_sem]
 first | refine .lo (Eg _ _ _) rfl (by simp) ?_ | refine .skip ?_
 simp [go_sem]
 refine hK1 _ ?_; clear hK1
 refine B6 ?_
 simp [go_sem]
 have e1 : i1 = c.juns.length := by omega
 have e2 : i2 = c.ags.length := by omega
 subst e1 e2
 have h5 : c.juns.all Px = true := Ank hy1
 have h6 : c.ags.all Aew = true := Ank hy2
 simp only [Mt, h18.1, h18.2, h5, h6, Bool.true_and]
def Jl (j : Fr) (r g : Int) : Nat -> List Int
 | 0 => []
 | i + 1 => if (Mr j i).ring = r /\ (Mr j i).grp = g then Jl j r g i ++ [(i : Int)] else Jl j r g i
theorem Wy (j : Fr) (r g : Int) : ∀ i, (Jl j r g i).length <= i
 | 0 => by simp [Jl]
 | i + 1 => by
  have := Wy j r g i
  simp only [Jl]
  split
  ·simp; omega
  omega
def Ajr (j : Fr) (r g : Int) : List Int := Jl j r g j.phs.length
theorem Aio (j : Fr) (r g : Int) (h1 : j.phs.length <= 1000000) : PP 224 [] [j.g, .li r, .li g] [.row 3 1 true false (tI (Ajr j r g))] (.own 0 (Ajr j r g).length) := by
 refine Eb Tryz.func224 ?_
 refine Bw ?_
 refine Bw <| .seq ?_
 refine Bw <| .block ?_
 refine Cm 7 3 1 (by decide) (k' := 1) (by simp [go_sem]) ?_
 simp [go_sem]
 refine Cc j.phs.length (fun i1 => ⟨[(1, .li r), (2, .li g), (7, .own 0 (Jl j r g i1).length), (11, .mPhase j.phs), (12, .li j.phs.length), (13, .li i1)], [.row 3 1 true false (tI (Jl j r g i1))]⟩) ⟨[1], Ds (by decide) ?_ ?_, by simp⟩ fun i1 hi1 => ?_
 ·simp [go_sem, Jl]
 ·simp [go_sem, Jl]
 refine Bw <| .seq ?_
 refine B7 ?_ ?_ <;> intro h14
 ·have hxa : j.phs[i1]? = some j.phs[i1] := Aa (by omega)
  generalize j.phs[i1] = a at hxa
  have haa : Mr j i1 = a := by simp only [Mr, hxa, Bh]
  have hln := Wy j r g i1
  refine Bv <| .seq <| .block <| .H hxa ?_
  refine Bw ?_
  refine B7 ?_ ?_ <;> intro h27
  ·have hOf : Jl j r g (i1 + 1) = Jl j r g i1 ++ [(i1 : Int)] := by simp only [Jl]; rw [haa, if_pos h27]
   refine VW.H1 ok0 ?_
   refine Cl ?_
   refine ⟨by omega, [0], Ds (by decide) ?_ ?_, by simp⟩
   ·simp [go_sem, Dt ((i1 : Int) + 1), hOf, h14, h27]
   simp [go_sem, hOf, h14, h27]
  have hOf : Jl j r g (i1 + 1) = Jl j r g i1 := by simp only [Jl]; rw [haa, if_neg (fun h => h27 h.1 h.2)]
  refine Bv <| .R1 ?_
  refine ⟨by omega, [0], Ds (by decide) ?_ ?_, by simp⟩
  ·simp [go_sem, Dt ((i1 : Int) + 1), hOf, h14, h27]
  simp [go_sem, hOf, h14, h27]
 refine B5 <| .R ?_
 have he : i1 = j.phs.length := by omega
 subst he
 refine VW.ret (Ry [0] (by simp [go_sem]) (by decide) (by simp) (by simp [go_sem, Ajr]) ?_)
 repeat' (first | exact .nil | refine .cons (by simp [go_sem, Ajr]) ?_)
theorem Anr (j : Fr) (r g : Int) (h1 : j.phs.length <= 1000000) : PP 224 [] [j.g, .li r, .li g] [] (.mI (Ajr j r g)) := (Aio j r g h1).frozA (by simp [go_sem])
end Go.Proofs.YtkkimgjinbaemaaGreat
