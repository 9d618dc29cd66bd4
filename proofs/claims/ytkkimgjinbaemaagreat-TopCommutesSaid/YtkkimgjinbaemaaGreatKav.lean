/- The walk. -/
import Derived.Test.YtkkimgjinbaemaaGreatKau
namespace Go.Proofs.YtkkimgjinbaemaaGreat
open Go.RowKit
set_option linter.unusedVariables false
set_option linter.unusedSimpArgs false
set_option maxRecDepth 100000
set_option maxHeartbeats 4000000
section
variable {P : Program}
theorem Rel.rebase {E : Ent} {β : Nat -> Option Nat} {st : St} {a : Act} {w : World} (r : Rel E β st a w) {l : Nat} {o o' : Obj} (hl : E.kb l = some o) (ho' : Uh o' = false) (hld : l ∉ E.ds) (hlt : l < E.w0.heap.size) :
 Rel { E with w0 := E.w0.putObj l o', kb := fun b => if b = l then some o' else E.kb b } β st a (w.putObj l o') := by
 obtain ⟨hlw, hlo⟩ := r.kb l o hl
 have hltw : l < w.heap.size := (Aw.1 hlw).1
 have hsz : (w.putObj l o').heap.size = w.heap.size := by simp [World.putObj]
 have hsz0 : (E.w0.putObj l o').heap.size = E.w0.heap.size := by simp [World.putObj]
 have hfar : ∀ b, b ≠ l -> (w.putObj l o').heap[b]? = w.heap[b]? := fun b hb => World.putObj_heap_other hb
 have hcell : ∀ b cur ty fz, w.heap[b]? = some (.cells cur ty fz) -> b ≠ l := fun b cur ty fz h e => by
  subst e
  rw [h] at hlw
  rw [show o = .cells cur ty fz from (Option.some.inj hlw).symm] at hlo
  cases hlo
 have hC : ({ E with w0 := E.w0.putObj l o', kb := fun b => if b = l then some o' else E.kb b } : Ent).C β st (w.putObj l o') = E.C β st (w.putObj l o') := by
  show VC.mk _ _ _ _ _ _ _ = VC.mk _ _ _ _ _ _ _
  rw [hsz0]
  rfl
 have s : Sl (E.C β st w) (E.C β st (w.putObj l o')) :=
  ⟨rfl, fun _ h => h, fun _ h => h, fun _ h => h, Nat.le_of_eq hsz.symm, fun b _ h => h, fun b cur ty fz _ _ h => (hfar b (hcell b _ _ _ h)).trans h, fun id ty cs h => ⟨⟨cs, h⟩, rfl⟩, fun id ty k fr fz es h => ⟨fr, fz, es, h, Aj _, fun _ => ⟨rfl, fun b cur hb hc => ⟨cur, (hfar b (hcell b _ _ _ hc)).trans hc, rfl⟩⟩⟩⟩
 refine ⟨r.sz, fun t => by rw [hC]; exact (r.sl t).stepW s, r.df, fun id => ?_, r.inj, fun i b hi hb => ?_, ?_, ?_, fun b o h => ?_, r.dk.1, fun D hD => ?_⟩
 ·rw [hC]
  have hr := r.ob id
  cases hq : st.o id with
  | gone => trivial
  | box ty cs =>
   rw [hq] at hr
   refine hr.stepW s rfl fun b hb => ?_
   obtain ⟨b', cur, q1, q2, _⟩ := hr
   have q1 : β id = some b' := q1
   have hb : β id = some b := hb
   rw [hb] at q1
   injection q1 with q1
   subst q1
   exact hfar b (hcell b _ _ _ q2)
  | row ty k fr fz es =>
   rw [hq] at hr
   refine hr.stepW s rfl fun b hb => ?_
   have h2 := hr.2
   rw [hb] at h2
   obtain ⟨cur, c, q2, _⟩ := h2
   exact hfar b (hcell b _ _ _ q2)
 ·have := r.rng i b hi hb
  refine ⟨by rw [hsz]; exact this.1, ?_⟩
  show (E.w0.putObj l o').heap.size <= b \/ E.M b
  rw [hsz0]
  exact this.2
 ·have h := r.kp
  refine ⟨h.os, h.tape, h.output, ?_, fun b hb hm => ?_⟩
  ·show (E.w0.putObj l o').heap.size <= (w.putObj l o').heap.size
   rw [hsz, hsz0]; exact h.size
  have hb : b < (E.w0.putObj l o').heap.size := hb
  rw [hsz0] at hb
  show (w.putObj l o').heap[b]? = (E.w0.putObj l o').heap[b]?
  by_cases e : b = l
  ·rw [e, World.putObj_heap_same hltw, World.putObj_heap_same hlt]
  rw [hfar b e, World.putObj_heap_other e]
  exact h.block b hb hm
 ·rw [hC]
  have hct := r.ct.stepW s
  refine ⟨hct.box, fun id ty k fr fz es h => ?_⟩
  obtain ⟨fr', fz', es', h1, h2, h3⟩ := hct.row id ty k fr fz es h
  refine ⟨fr', fz', es', h1, h2, fun e => ?_⟩
  obtain ⟨h4, h5⟩ := h3 e
  refine ⟨h4, fun b cur hb hc => ?_⟩
  have hc : (E.w0.putObj l o').heap[b]? = some (.cells cur ty (0, 0)) := hc
  by_cases e1 : b = l
  ·rw [e1, World.putObj_heap_same hlt] at hc
   injection hc with hc
   rw [hc] at ho'
   cases ho'
  rw [World.putObj_heap_other e1] at hc
  exact h5 b cur hb hc
 ·have h : (if b = l then some o' else E.kb b) = some o := h
  by_cases e : b = l
  ·rw [if_pos e] at h
   injection h with h
   subst h
   rw [e]
   exact ⟨World.putObj_heap_same hltw, ho'⟩
  rw [if_neg e] at h
  exact ⟨(hfar b e).trans (r.kb b o h).1, (r.kb b o h).2⟩
 have := r.dk.2 D hD
 refine ⟨?_, ?_⟩
 ·show (if D = l then some o' else E.kb D) = _
  rw [if_neg fun e => hld (by rw [<- e]; exact hD)]
  exact this.1
 show (E.w0.putObj l o').heap.size <= D
 rw [hsz0]; exact this.2
theorem Aiq {n : Nat} {sl : List (Nat × AV)} {K : Exit -> St -> Prop} {ps : List Tmp} {asg : Code} {body : Code} {gf : FuncId} {caps : List AV} {items : List (List AV)} (hit : Sn P gf caps items) (f : Nat -> List Ob) (hlive : ∀ i id, (St.mk sl (f i)).o id ≠ .gone -> ((St.mk sl (f i)).o id).live)
 (hps : ∀ p ∈ ps, p < n) (sA : Nat -> List AV -> St) (hcl : ∀ vs ∈ items, vs.length = ps.length /\ Il (fun _ => none) vs = vs)
  (Inv : Nat -> Prop) (hI0 : Inv 0) (hasg : ∀ i vs, items[i]? = some vs -> Inv i -> VW P n (f i).length asg ⟨I3 ps vs sl, f i⟩ (fun e s => e = .normal /\ s = sA i vs)) (hround : ∀ i vs, items[i]? = some vs -> Inv i -> VW P n (f i).length body (sA i vs) (Gh (f i).length sl (f (i + 1)) (Inv (i + 1)) K)) (hdone : Inv items.length -> K .normal ⟨sl, f items.length⟩)
  {E E1 : Ent} {F : Fence} (hF : FOk E F) (hle : Ej E E1) (hn : E.n = n) {β : Nat -> Option Nat} {a : Act} {W : World} (r : Rel E1 β ⟨sl, f 0⟩ a W) {lb : Array Value} (hlb : Br (E1.C β ⟨sl, f 0⟩ W) (.fn gf caps) (.func (.func gf) #[] lb))
  {l : Nat} {rec : LoopState -> Option Code -> Loop} {fn : FuncId} {dd : Nat} (hrec : rec = fun st pe => { state := st, pending := pe, fn := fn, tmps := a.tmps, params := ps.toArray, assign := asg, body := body, defers := dd })
  (hkl : E1.kb l = some (.loop (rec .ready none))) (hld : l ∉ E1.ds) (hlge : E1.w0.heap.size <= l) (hEl : E.kb l = none) :
  Calls P gf (#[.func (.yield l) #[] #[]] ++ lb) W fun e w3 => ∃ v, e = .returned v /\ ∃ jump w4, (Instr.endLoop l).run P w3 = .ok jump w4 /\ (match jump with
   | none => Uj E K .normal a w4
   | some c => c.wpIn F 0 P (Uj E K) a w4) := by
 have hn1 : E1.n = n := by obtain ⟨⟨ds, kb, rfl⟩, _⟩ := hle; exact hn
 let up : Obj -> Ent := fun o => { E1 with kb := fun b => if b = l then some o else E1.kb b }
 have hup : up (.loop (rec .ready none)) = E1 := by
  show ({ E1 with kb := fun b => if b = l then some (.loop (rec .ready none)) else E1.kb b } : Ent) = E1
  have : (fun b => if b = l then some (Obj.loop (rec .ready none)) else E1.kb b) = E1.kb := funext fun b => by
   by_cases e : b = l
   ·rw [if_pos e, e, hkl]
   rw [if_neg e]
  rw [this]
 have hupup : ∀ o o', ({ up o with kb := fun b => if b = l then some o' else (up o).kb b } : Ent) = up o' := fun o o' => by
  show ({ E1 with kb := _ } : Ent) = { E1 with kb := _ }
  have : (fun b => if b = l then some o' else (if b = l then some o else E1.kb b)) = fun b => if b = l then some o' else E1.kb b := funext fun b => by
   by_cases e : b = l
   ·rw [if_pos e, if_pos e]
   rw [if_neg e, if_neg e, if_neg e]
  rw [<- this]
 have hupl : ∀ o, (up o).kb l = some o := fun o => if_pos rfl
 have hupE : ∀ o, Ej E (up o) := fun o => by
  obtain ⟨⟨ds, kb, rfl⟩, h2⟩ := hle
  refine ⟨⟨ds, _, rfl⟩, fun b o' h => ?_⟩
  show (if b = l then some o else _) = some o'
  rw [if_neg fun e => by subst e; rw [hEl] at h; cases h]
  exact h2 b o' h
 have hput : ∀ {o : Obj} {β : Nat -> Option Nat} {s : St} {W1 : World} (o' : Obj), Uh o' = false -> Rel (up o) β s a W1 -> Rel (up o') β s a (W1.putObj l o') := fun {o β s W1} o' ho' h => by
  have := h.putK (o := o) (o' := o') (hupl o) ho' hld hlge
  rw [hupup] at this
  exact this
 let J : Nat -> Bool -> (Nat -> Prop) -> World -> Prop := fun i s L W' => match s with
  | false => Inv i /\ ∃ β', Rel (up (.loop (rec .ready none))) β' ⟨sl, f i⟩ a W' /\ (∀ b, L b <-> (E1.C β' ⟨sl, f i⟩ W').lives b)
  | true => ∃ c e ob' β', Ao1 c e /\ K e ⟨sl, ob'⟩ /\ Rel (up (.loop (rec .done (some c)))) β' ⟨sl, ob'⟩ a W' /\ (∀ b, L b <-> (E1.C β' ⟨sl, ob'⟩ W').lives b)
 have h := hit.2 (E1.C β ⟨sl, f 0⟩ W) lb W (Aj _) (fun _ _ => rfl) hlb l (fun b => (E1.C β ⟨sl, f 0⟩ W).lives b) J (fun b ⟨id, h1, h2⟩ => (r.rng id b (fun e => by have h2 : ((St.mk sl (f 0)).o id).live := h2; rw [e] at h2; exact h2) h1).1) (fun b hb => hb.2.1) ?_ ?_ ⟨hI0, β, by rw [hup]; exact r, fun b => Iff.rfl⟩
 ·refine h.mono ?_
  rintro e W' ⟨⟨v, rfl⟩, i, s, L', hJ, hs⟩
  refine ⟨v, rfl, ?_⟩
  cases s with
  | false =>
   obtain ⟨hI, β', r', _⟩ := hJ
   have hi := hs rfl
   subst hi
   have hh := (r'.kb l _ (hupl _)).1
   refine ⟨none, _, ?_, ⟨_, _, β', hupE (.loop { rec .ready none with state := .exhausted }), hdone hI, hput _ rfl r'⟩⟩
   have := run_endLoop (P := P) hh (by rw [hrec]; simp)
   rw [hrec] at this ⊢
   exact this
  | true =>
   obtain ⟨c, e, ob', β', hj, hK, r', _⟩ := hJ
   have hh := (r'.kb l _ (hupl _)).1
   refine ⟨some c, W'.putObj l (.loop { rec .done (some c) with state := .exhausted }), ?_, ?_⟩
   ·have := run_endLoop (P := P) hh (by rw [hrec]; simp)
    rw [hrec] at this ⊢
    exact this
   have hp : Uj E K e a (W'.putObj l (.loop { rec .done (some c) with state := .exhausted })) := ⟨_, _, β', hupE _, hK, hput _ rfl r'⟩
   rcases hj with ⟨rfl, rfl⟩ | ⟨id, rfl, rfl⟩ | ⟨t, rfl, rfl⟩
   ·exact wpIn_ret hp
   ·exact wpIn_exit hp
   exact wpIn_goto hp
 ·intro i s L W1 W2 hJ hk
  cases s with
  | false =>
   obtain ⟨hI, β', r', hL⟩ := hJ
   exact ⟨hI, β', r'.grow hk, hL⟩
  | true =>
   obtain ⟨c, e, ob', β', hj, hK, r', hL⟩ := hJ
   exact ⟨c, e, ob', β', hj, hK, r'.grow hk, hL⟩
 intro i L W1 vs us ⟨hI, βi, ri, hL⟩ hLs hvs hus hv
 have hh := ri.kb l _ (hupl _)
 obtain ⟨hlen, hren⟩ := hcl vs (Ac hvs)
 have hy := run_yield (P := P) (args := us) hh.1 (by rw [hrec]; simp [hus, hlen])
 have hvs' : ∀ (j : Nat) (v : AV) (u : Value), vs[j]? = some v -> us.toList[j]? = some u -> Br ((up (.loop (rec .ready none))).C βi ⟨sl, f i⟩ W1) v u := fun j v u h1 h2 => by
  have h3 := hv j v u h1 (by simpa using h2)
  have h4 := Br.ren (C := VCZ W.heap.size ((E1.C β ⟨sl, f 0⟩ W).S false) L W1) (C' := (up (.loop (rec .ready none))).C βi ⟨sl, f i⟩ W1) (ρ := fun _ => none) rfl (fun id j h => by cases h) (fun fr b hb => ?_) h3
  ·have : v.ren (fun _ => none) = v := by
    have h5 : (Il (fun _ => none) vs)[j]? = some v := by rw [hren]; exact h1
    rw [Kh, h1] at h5
    simpa using h5
   rwa [this] at h4
  obtain ⟨q1, q2, q3⟩ := hb
  rw [Ww] at q2
  refine ⟨q1, fun hl => q2 ((hL b).2 hl), ?_⟩
  have q3 : W.heap.size <= b \/ False \/ ((E1.C β ⟨sl, f 0⟩ W).S false b /\ (fr = true -> False)) := q3
  rcases q3 with q3 | q3 | ⟨q3, q4⟩
  ·have := r.kp.size
   exact .inl (by show E1.w0.heap.size <= b; omega)
  ·exact q3.elim
  have q5 := q3.2.2
  cases fr with
  | true => exact (q4 rfl).elim
  | false => exact q5
 have hpar := Aiw (C := (up (.loop (rec .ready none))).C βi ⟨sl, f i⟩ W1) (n := n) ps vs us.toList sl a.tmps (ri.sz.trans hn1) hps hlen.symm (by simpa using hus) hvs' ri.sl
 have htm : (ps.toArray.zip us).foldl (fun tmps (t, a) => tmps.setIfInBounds t a) a.tmps = (ps.zip us.toList).foldl (fun t (p, v) => t.setIfInBounds p v) a.tmps := by
  rw [<- Array.foldl_toList, Array.toList_zip]
 refine ⟨fn, (ps.zip us.toList).foldl (fun t (p, v) => t.setIfInBounds p v) a.tmps, asg, body, ?_, ?_⟩
 ·rw [hrec] at hy
  rw [<- htm]
  exact hy
 generalize hT : (ps.zip us.toList).foldl (fun t (p, v) => t.setIfInBounds p v) a.tmps = T at hpar
 refine roundIn_of_wpIn trivial ?_
 have hbusy : ({ rec .ready none with state := .busy } : Loop) = rec .busy none := by rw [hrec]
 have rb := hput (.loop (rec .busy none)) rfl ri
 have hszb : (W1.putObj l (.loop (rec .busy none))).heap.size = W1.heap.size := by simp [World.putObj]
 have hlt : l < W1.heap.size := (Aw.1 hh.1).1
 have rin := ri.inner (sl := I3 ps vs sl) (tmps := T) (hpar.1.trans hn1.symm) hpar.2
 refine wpIn_mono (hasg i vs hvs hI ((up (.loop (rec .ready none))).under βi ⟨sl, f i⟩ W1) (Fence.wide.inRound l) ⟨hn1, fun id hid => Dx ⟨sl, f i⟩ id hid⟩ (.inr ⟨l, rec .ready none, rfl, hupl _⟩) βi ⟨T, []⟩ W1 rin) ?_
 rintro e a2 W2 ⟨E2, s2, β2, hle2, ⟨rfl, rfl⟩, r2⟩
 obtain ⟨⟨ds2, kb2, rfl⟩, hk2⟩ := hle2
 have hkl2 : kb2 l = some (.loop (rec .ready none)) := hk2 l _ (hupl _)
 have hW2 : W2.heap[l]? = some (.loop (rec .ready none)) := (r2.kb l _ hkl2).1
 refine ⟨_, run_beginRound hW2 (by rw [hrec]), ?_⟩
 rw [hbusy]
 have hld2 : l ∉ ds2 := fun h => by
  have h1 : kb2 l = some (.deferred (some [])) := (r2.dk.2 l h).1
  rw [hkl2] at h1
  injection h1 with h1
  cases h1
 have hS : ∀ g b, ((up (.loop (rec .ready none))).C βi ⟨sl, f i⟩ W1).S g b <-> ((up (.loop (rec .busy none))).C βi ⟨sl, f i⟩ (W1.putObj l (.loop (rec .busy none)))).S g b := fun g b => by
  constructor
  ·exact fun h => ⟨by show b < (W1.putObj l (.loop (rec .busy none))).heap.size; rw [hszb]; exact h.1, h.2.1, h.2.2⟩
  exact fun h => ⟨by have h1 : b < (W1.putObj l (.loop (rec .busy none))).heap.size := h.1; rw [hszb] at h1; exact h1, h.2.1, h.2.2⟩
 have r2b := r2.rebase (l := l) (o' := .loop (rec .busy none)) hkl2 rfl hld2 hlt
 have hEq : ({ ({ (up (.loop (rec .ready none))).under βi ⟨sl, f i⟩ W1 with ds := ds2, kb := kb2 } : Ent) with w0 := W1.putObj l (.loop (rec .busy none)), kb := fun b => if b = l then some (.loop (rec .busy none)) else kb2 b } : Ent) =
  { (up (.loop (rec .busy none))).under βi ⟨sl, f i⟩ (W1.putObj l (.loop (rec .busy none))) with ds := ds2, kb := fun b => if b = l then some (.loop (rec .busy none)) else kb2 b } := by
  have e1 : (fun b => ((up (.loop (rec .ready none))).C βi ⟨sl, f i⟩ W1).S false b) = fun b => ((up (.loop (rec .busy none))).C βi ⟨sl, f i⟩ (W1.putObj l (.loop (rec .busy none)))).S false b := funext fun b => propext (hS false b)
  have e2 : (fun b => ((up (.loop (rec .ready none))).C βi ⟨sl, f i⟩ W1).S true b) = fun b => ((up (.loop (rec .busy none))).C βi ⟨sl, f i⟩ (W1.putObj l (.loop (rec .busy none)))).S true b := funext fun b => propext (hS true b)
  have key : ∀ (w : World) (o : Nat -> Ob) (β x x' y y') (n : Nat) (ds : List Nat) (kb : Nat -> Option Obj), x = x' -> y = y' -> Ent.mk w o β x y n ds kb = Ent.mk w o β x' y' n ds kb := by
   rintro w o β x _ y _ n ds kb rfl rfl
   rfl
  exact key _ _ _ _ _ _ _ _ _ _ e1 e2
 have hr2b : Rel { (up (.loop (rec .busy none))).under βi ⟨sl, f i⟩ (W1.putObj l (.loop (rec .busy none))) with ds := ds2, kb := fun b => if b = l then some (.loop (rec .busy none)) else kb2 b } β2 (sA i vs) a2 (W2.putObj l (.loop (rec .busy none))) := hEq ▸ r2b
 have hleb : Ej ((up (.loop (rec .busy none))).under βi ⟨sl, f i⟩ (W1.putObj l (.loop (rec .busy none)))) { (up (.loop (rec .busy none))).under βi ⟨sl, f i⟩ (W1.putObj l (.loop (rec .busy none))) with ds := ds2, kb := fun b => if b = l then some (.loop (rec .busy none)) else kb2 b } := by
  refine ⟨⟨_, _, rfl⟩, fun b o h => ?_⟩
  have h : (if b = l then some (.loop (rec .busy none)) else E1.kb b) = some o := h
  show (if b = l then some (.loop (rec .busy none)) else kb2 b) = some o
  by_cases e : b = l
  ·rw [if_pos e] at h ⊢; exact h
  rw [if_neg e] at h ⊢
  refine hk2 b o ?_
  show (if b = l then some (.loop (rec .ready none)) else E1.kb b) = some o
  rw [if_neg e]
  exact h
 have hwalk := hround i vs hvs hI { (up (.loop (rec .busy none))).under βi ⟨sl, f i⟩ (W1.putObj l (.loop (rec .busy none))) with ds := ds2, kb := fun b => if b = l then some (.loop (rec .busy none)) else kb2 b } (Fence.wide.inRound l) ⟨hn1, fun id hid => Dx ⟨sl, f i⟩ id hid⟩ (.inr ⟨l, rec .busy none, rfl, if_pos rfl⟩) β2 a2 _ hr2b
 refine wpIn_mono hwalk ?_
 rintro e a3 W3 ⟨E3, s3, β3, hle3, hk, r3⟩
 have hle3 := hleb.trans hle3
 have hl3 : W3.heap[l]? = some (.loop (rec .busy none)) := (r3.kb l _ (hle3.kb l _ (hupl _))).1
 have fin : ∀ (ob' : List Ob), WkE (f i).length s3 ⟨[], ob'⟩ -> ∃ β4, Rel (up (.loop (rec .busy none))) β4 ⟨sl, ob'⟩ a W3 /\ (∀ b, b < W1.heap.size -> ¬ L b -> (b ≠ l -> W3.heap[b]? = W1.heap[b]?) /\ ¬ (E1.C β4 ⟨sl, ob'⟩ W3).lives b) /\ W1.heap.size <= W3.heap.size := fun ob' ⟨sel, hw, hm⟩ => by
  obtain ⟨β4, r4⟩ := r3.weak hw fun id hid => hm id (Nat.lt_of_not_le fun hle => hid (by
   obtain ⟨⟨ds, kb, rfl⟩, _⟩ := hle3
   exact Dx ⟨sl, f i⟩ id hle))
  obtain ⟨h1, h2, h3⟩ := rb.outer (hlive i) hle3 r4
  have hsz : (W1.putObj l (.loop (rec .busy none))).heap.size = W1.heap.size := by simp [World.putObj]
  refine ⟨β4, h1, fun b hb hnl => ?_, by rw [hsz] at h3; exact h3⟩
  obtain ⟨q1, q2⟩ := h2 b (by rw [hsz]; exact hb) fun hl => hnl ((hL b).2 hl)
  exact ⟨fun hbl => q1.trans (World.putObj_heap_other hbl), q2⟩
 have endr : ∀ (jump : Option Code), (Instr.endRound l jump).run P W3 = .ok (.bool jump.isNone) (W3.putObj l (.loop (rec (if jump.isNone then .ready else .done) jump))) := fun jump => by
  have := run_endRound (P := P) jump hl3
  rw [hrec] at this ⊢
  exact this
 have rest : ∀ (s : Bool) (jump : Option Code) (ob' : List Ob), WkE (f i).length s3 ⟨[], ob'⟩ -> jump.isNone = (!s) -> (∀ β4 L', Rel (up (.loop (rec (if jump.isNone then .ready else .done) jump))) β4 ⟨sl, ob'⟩ a (W3.putObj l (.loop (rec (if jump.isNone then .ready else .done) jump))) -> (∀ b, L' b <-> (E1.C β4 ⟨sl, ob'⟩ (W3.putObj l (.loop (rec (if jump.isNone then .ready else .done) jump)))).lives b) -> J (i + 1) s L' (W3.putObj l (.loop (rec (if jump.isNone then .ready else .done) jump)))) ->
  ∃ v w', (Instr.endRound l jump).run P W3 = .ok v w' /\ Za J i L W1 (.returned v) w' := fun s jump ob' hwk hs hJ => by
  obtain ⟨β4, r4, h2, h3⟩ := fin ob' hwk
  have r5 := hput (.loop (rec (if jump.isNone then .ready else .done) jump)) rfl r4
  have hsz : (W3.putObj l (.loop (rec (if jump.isNone then .ready else .done) jump))).heap.size = W3.heap.size := by simp [World.putObj]
  refine ⟨_, _, endr jump, s, fun b => (E1.C β4 ⟨sl, ob'⟩ W3).lives b, by rw [hs], hJ β4 _ r5 fun b => Iff.rfl, fun b ⟨id, q1, q2⟩ => ?_, by rw [hsz]; exact h3, fun b cur ty fz hnl hc => ?_, fun b hb hnl => (h2 b hb hnl).2⟩
  ·have q2 : ((St.mk sl ob').o id).live := q2
   exact (r5.rng id b (fun e => by rw [e] at q2; exact q2) q1).1
  have hbl : b ≠ l := fun e => by
   subst e
   rw [hh.1] at hc
   cases hc
  exact (World.putObj_heap_other hbl).trans (((h2 b (Aw.1 hc).1 hnl).1 hbl).trans hc)
 cases e with
 | normal => exact rest false none _ hk.1 rfl fun β4 L' h1 h2 => ⟨hk.2, β4, h1, h2⟩
 | ret =>
  obtain ⟨ob', h1, h2⟩ := hk
  exact rest true (some .ret) ob' h1 rfl fun β4 L' h3 h4 => ⟨.ret, .ret, ob', β4, .inl ⟨rfl, rfl⟩, h2, h3, h4⟩
 | exit id =>
  obtain ⟨ob', h1, h2⟩ := hk
  exact rest true (some (.exit id)) ob' h1 rfl fun β4 L' h3 h4 => ⟨_, _, ob', β4, .inr (.inl ⟨id, rfl, rfl⟩), h2, h3, h4⟩
 | goto t =>
  obtain ⟨ob', h1, h2⟩ := hk
  exact rest true (some (.goto t)) ob' h1 rfl fun β4 L' h3 h4 => ⟨_, _, ob', β4, .inr (.inr ⟨t, rfl, rfl⟩), h2, h3, h4⟩
 | panic ch => exact hk.elim
 | outgrown => exact hk.elim
theorem VW.rangeFnA {n m : Nat} {sl : List (Nat × AV)} {K : Exit -> St -> Prop} {g : Tmp} {ps : List Tmp} {asg : Code} {body : Code} {gf : FuncId} {caps : List AV} {items : List (List AV)} (hit : Sn P gf caps items) (f : Nat -> List Ob) (hg : Ce sl g = .fn gf caps)
 (hlive : ∀ i id, (St.mk sl (f i)).o id ≠ .gone -> ((St.mk sl (f i)).o id).live) (hps : ∀ p ∈ ps, p < n) (sA : Nat -> List AV -> St) (hcl : ∀ vs ∈ items, vs.length = ps.length /\ Il (fun _ => none) vs = vs)
  (Inv : Nat -> Prop) (hI0 : Inv 0) (hasg : ∀ i vs, items[i]? = some vs -> Inv i -> VW P n (f i).length asg ⟨I3 ps vs sl, f i⟩ (fun e s => e = .normal /\ s = sA i vs)) (hround : ∀ i vs, items[i]? = some vs -> Inv i -> VW P n (f i).length body (sA i vs) (Gh (f i).length sl (f (i + 1)) (Inv (i + 1)) K)) (hdone : Inv items.length -> K .normal ⟨sl, f items.length⟩) :
  VW P n m (.rangeFunc (.tmp g) ps.toArray (asg) body) ⟨sl, f 0⟩ K := fun E F hE hF β a w r => by
 refine wpIn_rangeFunc ?_
 intro fn hfn
 have hr := r.sl g
 rw [hg] at hr
 generalize hug : a.tmps.getD g undef = ug at hr
 cases hr with
 | fn gf' caps' lb hl hcr =>
 have hgv : Br (E.C β ⟨sl, f 0⟩ w) (.fn gf caps) (.func (.func gf) #[] lb) := .fn gf caps lb hl hcr
 have hev : a.eval (.tmp g) = .func (.func gf) #[] lb := hug
 have hkd : ∀ b o, E.kb b = some o -> b < w.heap.size := fun b o h => (Aw.1 (r.kb b o h).1).1
 have hw0 := r.kp.size
 have core : ∀ (l : Nat) (mark : List Deferred) (W : World) (E1 : Ent) (rec : LoopState -> Option Code -> Loop) (dd : Nat) (hrec : rec = fun st pe => { state := st, pending := pe, fn := fn, tmps := a.tmps, params := ps.toArray, assign := asg, body := body, defers := dd }),
  (Instr.enterLoop fn a.tmps ps.toArray (asg) body F.round).run P w = .ok (l, mark) W -> Ej E E1 -> Rel E1 β ⟨sl, f 0⟩ { a with defers := mark ++ a.defers } W -> (∀ b, b < w.heap.size -> W.heap[b]? = w.heap[b]?) -> w.heap.size <= W.heap.size ->
   E1.kb l = some (.loop (rec .ready none)) -> l ∉ E1.ds -> w.heap.size <= l -> ∃ (l : Nat) (mark : List Deferred) (w₁ : World) (d : Deferred) (w₁' : World) (f : FuncId) (args : Array Value) (w₂ : World),
   (Instr.enterLoop fn a.tmps ps.toArray (asg) body F.round).run P w = .ok (l, mark) w₁ /\
   (resolve a.eval (rangeCall (.tmp g) l) 0).run P w₁ = .ok d w₁' /\
   (∀ f', Target.leads P w₁' d.target d.args = some f' -> F.fn f') /\
   (invoke d.target d.args).run P w₁' = .ok (.enter f args) w₂ /\
   (F.depth.isSome = true -> 1 <= 0) /\
   CallsIn F (0 - 1) P f args w₂ (rangePost F 0 P l (Uj E K) { a with defers := mark ++ a.defers }) := by
  intro l mark W E1 rec dd hrec hent hle r1 hWs hWz hkl hld hlge
  refine ⟨l, mark, W, { target := .fn (.func gf) lb, args := #[.func (.yield l) #[] #[]] }, W, gf, #[.func (.yield l) #[] #[]] ++ lb, W, hent, ?_, ?_, ?_, hF.depth, ?_⟩
  ·simp only [resolve, hev]
   simp [go_sem]
  ·intro f' _; exact hF.fn f'
  ·have := Oi hit.1 (us := #[.func (.yield l) #[] #[]] ++ lb) (w := W)
   simp [invoke, this]
  refine (hF.calls ?_)
  have hEl : E.kb l = none := by
   cases hq : E.kb l with
   | none => rfl
   | some o => have := hkd l o hq; omega
  have hE1w : E1.w0.heap.size <= l := by
   obtain ⟨⟨ds, kb, rfl⟩, _⟩ := hle
   show E.w0.heap.size <= l
   omega
  have hlb : Br (E1.C β ⟨sl, f 0⟩ W) (.fn gf caps) (.func (.func gf) #[] lb) := by
   have s : Ks (E.C β ⟨sl, f 0⟩ w) (E1.C β ⟨sl, f 0⟩ W) := by
    obtain ⟨⟨ds, kb, rfl⟩, _⟩ := hle
    exact ⟨rfl, fun _ h => h, fun _ h => h, fun _ h => h, hWz, fun b _ h => h, fun b hb _ => hWs b hb, fun id ty cs h => ⟨⟨cs, h⟩, rfl⟩, fun id ty k' fr fz es h => ⟨fr, fz, es, h, Aj _, fun _ => ⟨rfl, fun b cur hb hc => ⟨cur, (hWs b (r.rng id b (by have h : (St.mk sl (f 0)).o id = _ := h; rw [h]; simp) hb).1).trans hc, rfl⟩⟩⟩⟩
   exact hgv.step s
  refine (Aiq hit f hlive hps sA hcl Inv hI0 hasg hround hdone hF hle hE.1 (a := { a with defers := mark ++ a.defers }) r1 hlb (rec := rec) (fn := fn) (dd := dd) hrec hkl hld hE1w hEl).mono ?_
  rintro e w3 ⟨v, rfl, h⟩
  exact h
 have hsz1 : ∀ o : Obj, (w.alloc o).heap.size = w.heap.size + 1 := fun o => by simp
 rcases hF with rfl | ⟨l0, r0, rfl, hk0⟩
 ·obtain ⟨r1, hle1⟩ := r.lay (o := .deferred (some [])) rfl
  obtain ⟨r2, hle2⟩ := r1.lay (o := .loop { state := .ready, pending := none, fn := fn, tmps := a.tmps, params := ps.toArray, assign := asg, body := body, defers := w.heap.size }) rfl
  have hD : ∀ D ∈ E.ds, D < w.heap.size := fun D h => hkd D _ (r.dk.2 D h).1
  have hkD : (if w.heap.size = (w.alloc (.deferred (some []))).heap.size then some (Obj.loop { state := .ready, pending := none, fn := fn, tmps := a.tmps, params := ps.toArray, assign := asg, body := body, defers := w.heap.size }) else if w.heap.size = w.heap.size then some (.deferred (some [])) else E.kb w.heap.size) = some (.deferred (some [])) := by
   rw [hsz1, if_neg (by omega), if_pos rfl]
  have r3 := r2.mark (D := w.heap.size) hkD (fun h => by have := hD _ h; omega) hw0
  refine core ((w.alloc (.deferred (some []))).heap.size) [dmk w.heap.size] _ _ (fun st pe => { state := st, pending := pe, fn := fn, tmps := a.tmps, params := ps.toArray, assign := asg, body := body, defers := w.heap.size }) w.heap.size rfl ?_ ?_ r3 (fun b hb => ?_) ?_ (if_pos rfl) ?_ (by rw [hsz1]; omega)
  ·rw [hsz1]
   exact run_enterLoop_outer _ _ _ _ _
  ·exact ⟨⟨_, _, rfl⟩, fun b o h => (hle1.trans hle2).kb b o h⟩
  ·exact (Below.heap_alloc _ _ _ (by rw [hsz1]; omega)).trans (Below.heap_alloc _ _ _ hb)
  ·rw [World.size_alloc, World.size_alloc]; omega
  rw [hsz1]
  intro h
  rcases List.mem_cons.1 h with h | h
  ·omega
  have := hD _ h; omega
 obtain ⟨r1, hle1⟩ := r.lay (o := .loop { state := .ready, pending := none, fn := fn, tmps := a.tmps, params := ps.toArray, assign := asg, body := body, defers := r0.defers }) rfl
 refine core w.heap.size [] _ _ (fun st pe => { state := st, pending := pe, fn := fn, tmps := a.tmps, params := ps.toArray, assign := asg, body := body, defers := r0.defers }) r0.defers rfl (run_enterLoop_inner (r.kb l0 _ hk0).1 _ _ _ _ _) hle1 r1 (fun b hb => Below.heap_alloc _ _ _ hb) (by simp) (if_pos rfl) (fun h => ?_) (Aj _)
 have := hkd _ _ (r.dk.2 _ h).1
 omega
end
section
variable {P : Program}
theorem VW.rangeFn {n m : Nat} {sl : List (Nat × AV)} {K : Exit -> St -> Prop} {g : Tmp} {ps : List Tmp} {al : List Oper} {aid : Nat} {body : Code} {gf : FuncId} {caps : List AV} {items : List (List AV)} (hit : Sn P gf caps items) (f : Nat -> List Ob) (hg : Ce sl g = .fn gf caps)
 (hlive : ∀ i id, (St.mk sl (f i)).o id ≠ .gone -> ((St.mk sl (f i)).o id).live) (hps : ∀ p ∈ ps, p < n) (hal : Aoh n al = true) (hcl : ∀ vs ∈ items, vs.length = ps.length /\ Il (fun _ => none) vs = vs)
  (Inv : Nat -> Prop) (hI0 : Inv 0) (hround : ∀ i vs, items[i]? = some vs -> Inv i -> VW P n (f i).length body (Nz al ⟨I3 ps vs sl, f i⟩) (Gh (f i).length sl (f (i + 1)) (Inv (i + 1)) K)) (hdone : Inv items.length -> K .normal ⟨sl, f items.length⟩) :
  VW P n m (.rangeFunc (.tmp g) ps.toArray (.region aid al.toArray false) body) ⟨sl, f 0⟩ K :=
 VW.rangeFnA hit f hg hlive hps (fun i vs => Nz al ⟨I3 ps vs sl, f i⟩) hcl Inv hI0 (fun i vs _ _ E F hE hF β a w r => wpIn_region_lit (Aog hF al (by rw [hE.1]; exact hal) _ _ _ r fun a' r' => ⟨E, _, β, Ej.refl E, ⟨rfl, rfl⟩, r'⟩)) hround hdone
end
def Ua (l : List Dc) (s top : Int) : Bool := (Q4 l s).contains top
theorem Pf (l : List Dc) (s top : Int) : PP 258 [] [.mTok l, .li s, .li top] [] (.lb (Ua l s top)) := by
 refine B0 Tryz.func258 ?_
 refine VW.R <| .seq ?_
 refine VW.L ok0 (N4 l s) <| .block ?_
 refine VW.wkE (s' := ⟨[(5, .ptr 0 0), (6, .ptr 1 0), (10, .fn 206 [.iptr false [.li s] 0, .iptr false [.sl 6 (Ni l)] 0])], [.box 3 [.li top], .box 4 [.lb false]]⟩) ⟨[0, 1], Bp (by decide) ?_ ?_, by simp⟩ ?_
 ·simp [go_sem]
 ·simp [go_sem]
 refine VW.rangeFn (Rt l s) (fun j1 => [.box 3 [.li top], .box 4 [.lb false]]) (by rfl) (fun _ => Og rfl) (by decide) (by rfl) ?_ (fun j => ∀ i x, i < j -> (Q4 l s)[i]? = some x -> x ≠ top) ?_ (fun j1 vs hj1 hI1 => ?_) (fun hI1 => ?_)
 ·intro vs hvs
  obtain ⟨a, _, rfl⟩ := A4.1 hvs
  simp [go_sem]
 ·intro i x h; omega
 ·
  obtain ⟨a, ha, rfl⟩ := Bw hj1
  refine VW.block <| .R ?_
  refine VW.C ?_ ?_ <;> intro h14 <;> simp [go_sem] at h14
  ·refine VW.R ?_
   refine VW.ret ⟨[.box 3 [.li top], .box 4 [.lb true]], ⟨[0, 1], Bp (by decide) ?_ ?_, Dd rfl⟩, ?_⟩
   ·simp [go_sem]
   ·simp [go_sem]
   refine (B2 (by simp [go_sem]) ?_)
   have : Ua l s top = true := by unfold Ua; rw [List.contains_iff_mem]; exact h14 ▸ Ac ha
   simp [go_sem, this]
  refine VW.skip ?_
  refine ⟨⟨[0, 1], Bp (by decide) ?_ ?_, Dd rfl⟩, ?_⟩
  ·simp [go_sem]
  ·simp [go_sem]
  intro i x hi hx
  by_cases e : i = j1
  ·subst e; rw [ha] at hx; injection hx with hx; subst hx; exact h14
  exact hI1 i x (by omega) hx
 -- done
 refine VW.R ?_
 refine VW.ret (B2 (by simp [go_sem]) ?_)
 have : Ua l s top = false := by
  unfold Ua
  rw [List.contains_eq_any_beq, List.any_eq_false]
  intro x hx
  obtain ⟨i, hi⟩ := A3.1 hx
  have h2 := hI1 i x (by simpa using (Ab.1 hi).1) hi
  simp only [beq_iff_eq]
  exact fun e => h2 e.symm
 simp [go_sem, this]
section
variable {F : Fence} {n : Nat} {P : Program} {b : Frame} {a : Act} {k : List Item} {cs : List Frame} {w : World} {Q : Exit -> Act -> World -> Prop}
theorem Jt {c : Code} : step P (lone (b.atR a (.code (.scope c) :: k)) cs w) = .next (lone (b.atR a (.code c :: .inScope c :: k)) cs w) :=
 step_lone_go (by simp [stepG, stepG.exec, Frame.atR])
theorem Ab0 {c : Code} : step P (lone (b.atR a (.inScope c :: k)) cs w) = .next (lone (b.atR a k) cs w) :=
 step_lone_go (by simp [stepG, stepG.exec, Frame.atR])
theorem Ah4 {c : Code} (h : c.wpIn F n P (Exit.noGoto Q) a w) : (Code.scope c).wpIn F n P Q a w := by
 intro b k cs hro hb hr
 have h0 : (lone (b.atR a (.code (.scope c) :: k)) cs w).fenced P F := fenced_calm hb hr rfl
 obtain ⟨e, a₁, w₁, hq, harr⟩ := h b (.inScope c :: k) cs hro hb hr
 cases e with
 | normal => exact ⟨.normal, a₁, w₁, hq, .head h0 Jt (StepsIn.trans harr (.one (fenced_calm hb hr rfl) Ab0))⟩
 | exit id =>
  have hx : exitTo id (.inScope c :: k) = exitTo id k := by simp [exitTo]
  exact ⟨_, a₁, w₁, hq, fun k' hk => .head h0 Jt (harr.1 k' (by rw [hx]; exact hk)), fun hr' hk => let ⟨k₁, h1, h2⟩ := harr.2 hr' (by rw [hx]; exact hk); ⟨k₁, h1, .head h0 Jt h2⟩⟩
 | goto l => exact hq.elim
 | ret => exact ⟨_, a₁, w₁, hq, .of_steps (.one h0 Jt) harr⟩
 | panic ch => exact ⟨_, a₁, w₁, hq, .of_steps (.one h0 Jt) harr⟩
 | outgrown => exact ⟨_, a₁, w₁, hq, .of_steps (.one h0 Jt) harr⟩
end
section
variable {P : Program} {n m : Nat} {st : St} {K : Exit -> St -> Prop} {c : Code}
@[reducible] def Exit.vscope (K : Exit -> St -> Prop) : Exit -> St -> Prop
 | .goto _, _ => False
 | e, s => K e s
theorem VW.scope (h : VW P n m c st (Exit.vscope K)) : VW P n m (.scope c) st K := fun E F hE hF β a w r => by
 refine Ah4 (wpIn_mono (h E F hE hF β a w r) fun e a w ⟨E', s, β, h0, h1, h2⟩ => ?_)
 cases e with
 | goto l => exact h1.elim
 | normal => exact ⟨E', s, β, h0, h1, h2⟩
 | exit id => exact ⟨E', s, β, h0, h1, h2⟩
 | ret => exact ⟨E', s, β, h0, h1, h2⟩
 | panic ch => exact ⟨E', s, β, h0, h1, h2⟩
 | outgrown => exact ⟨E', s, β, h0, h1, h2⟩
theorem VX.scope (h : VX P n m c st (Exit.vscope K)) : VX P n m (.scope c) st K := by
 obtain ⟨e, s, h1, h2⟩ := h
 cases e with
 | goto l => exact h2.elim
 | _ =>
  refine ⟨_, s, .scope (h1.mono ?_), h2⟩
  rintro e' s' ⟨rfl, rfl⟩
  exact ⟨rfl, rfl⟩
end
section
variable {P : Program} {n m : Nat} {st : St} {K : Exit -> St -> Prop} {c : Code}
theorem VX.rangeE {γ : Type} (N : Nat) (f : Nat -> γ -> St) (Inv : Nat -> γ -> Prop) (x0 : γ) (h0 : WkE m st (f 0 x0)) (hi : Inv 0 x0) (round : ∀ i x, i <= N -> Inv i x -> VX P n m c (f i x) (Exit.vthen (fun s' => i < N /\ ∃ x', Inv (i + 1) x' /\ WkE m s' (f (i + 1) x')) K)) : VX P n m (.loop c) st K := by
 obtain ⟨sel, h1, h2⟩ := h0
 refine .loop_w (fun z s => ∃ i x, i + z = N /\ Inv i x /\ s = f i x) ⟨N, sel, f 0 x0, h1, h2, 0, x0, by omega, hi, rfl⟩ ?_
 rintro z s ⟨i, x, hi, hI, rfl⟩
 refine (round i x (by omega) hI).mono fun e s => ?_
 cases e with
 | normal =>
  rintro ⟨h3, x', h4, sel, h5, h6⟩
  exact ⟨z - 1, by omega, sel, _, h5, h6, i + 1, x', by omega, h4, rfl⟩
 | _ => exact fun h => h
theorem VX.whileE {γ : Type} (f : γ -> St) (Inv : γ -> Prop) (μ : γ -> Nat) (x0 : γ) (h0 : WkE m st (f x0)) (hi : Inv x0) (round : ∀ x, Inv x -> VX P n m c (f x) (Exit.vthen (fun s' => ∃ x', μ x' < μ x /\ Inv x' /\ WkE m s' (f x')) K)) : VX P n m (.loop c) st K := by
 obtain ⟨sel, h1, h2⟩ := h0
 refine .loop_w (fun z s => ∃ x, μ x = z /\ Inv x /\ s = f x) ⟨μ x0, sel, f x0, h1, h2, x0, rfl, hi, rfl⟩ ?_
 rintro z s ⟨x, rfl, hI, rfl⟩
 refine (round x hI).mono fun e s => ?_
 cases e with
 | normal =>
  rintro ⟨x', h3, h4, sel, h5, h6⟩
  exact ⟨_, h3, sel, _, h5, h6, x', rfl, h4, rfl⟩
 | _ => exact fun h => h
theorem VW.rangeE {γ : Type} (N : Nat) (f : Nat -> γ -> St) (Inv : Nat -> γ -> Prop) (x0 : γ) (h0 : WkE m st (f 0 x0)) (hi : Inv 0 x0) (round : ∀ i x, i <= N -> Inv i x -> VW P n m c (f i x) (Exit.vthen (fun s' => i < N /\ ∃ x', Inv (i + 1) x' /\ WkE m s' (f (i + 1) x')) K)) : VW P n m (.loop c) st K := by
 obtain ⟨sel, h1, h2⟩ := h0
 refine .loop_w (fun z s => ∃ i x, i + z = N /\ Inv i x /\ s = f i x) ⟨N, sel, f 0 x0, h1, h2, 0, x0, by omega, hi, rfl⟩ ?_
 rintro z s ⟨i, x, hi, hI, rfl⟩
 refine (round i x (by omega) hI).mono fun e s => ?_
 cases e with
 | normal =>
  rintro ⟨h3, x', h4, sel, h5, h6⟩
  exact ⟨z - 1, by omega, sel, _, h5, h6, i + 1, x', by omega, h4, rfl⟩
 | _ => exact fun h => h
theorem VW.whileE {γ : Type} (f : γ -> St) (Inv : γ -> Prop) (μ : γ -> Nat) (x0 : γ) (h0 : WkE m st (f x0)) (hi : Inv x0) (round : ∀ x, Inv x -> VW P n m c (f x) (Exit.vthen (fun s' => ∃ x', μ x' < μ x /\ Inv x' /\ WkE m s' (f x')) K)) : VW P n m (.loop c) st K := by
 obtain ⟨sel, h1, h2⟩ := h0
 refine .loop_w (fun z s => ∃ x, μ x = z /\ Inv x /\ s = f x) ⟨μ x0, sel, f x0, h1, h2, x0, rfl, hi, rfl⟩ ?_
 rintro z s ⟨x, rfl, hI, rfl⟩
 refine (round x hI).mono fun e s => ?_
 cases e with
 | normal =>
  rintro ⟨x', h3, h4, sel, h5, h6⟩
  exact ⟨_, h3, sel, _, h5, h6, x', rfl, h4, rfl⟩
 | _ => exact fun h => h
def As2 (P : Program) (n m : Nat) (t : Nat) (X y : Code) (K : Exit -> St -> Prop) (s : St) : Prop :=
 ∃ (sl : List (Nat × AV)) (ob : List Ob) (b : Bool) (a : Nat) (k : IntKind) (v : Int) (xs : List Int) (ds : List Nat), s = ⟨sl, ob⟩ /\ OrC n t a k X xs ds /\ t < n /\ (t == a) = false /\ Ce sl t = .lb b /\ Ce sl a = .lit (.int k v) /\ (∀ d ∈ ds, Ce ((t, .lb (b || xs.any fun x => v == x)) :: sl) d = .any) /\
  VX P n m y ⟨(t, .lb (b || xs.any fun x => v == x)) :: sl, ob⟩ K
theorem VX.orcases2 {id : Nat} {l : List Oper} {t : Nat} {X y : Code} (hd : Cw n l = true) (h : ∀ K1 : St -> Prop, (∀ s, As2 P n m t X y K s -> K1 s) -> runs P (Dg l) st K1) : VX P n m (.seq (.seq (.region id l.toArray false) (.cond (.tmp t) .skip X)) y) st K := by
 obtain ⟨s, h1, sl, ob, b, a, k, v, xs, ds, rfl, h2, h3, h4, h5, h6, h7, e, s2, h8, h9⟩ := Mu _ _ (h _ fun _ h => h)
 refine ⟨e, s2, .seq (.region_seq hd fun K1 hK1 => Ic _ _ ?_ h1), h9⟩
 rintro s' rfl
 exact hK1 _ (VW.orcases1 h2 h3 h4 h5 h6 h7 h8)
theorem VX.region1 {id : Nat} {l : List Oper} (hd : Cw n l = true) (h : ∀ K1 : St -> Prop, (∀ s, K .normal s -> K1 s) -> runs P (Dg l) st K1) : VX P n m (.region id l.toArray false) st K := .region hd h
end
section
variable {P : Program}
def Aov (P : Program) (rs : List ResultVar) (Φ : AV -> Prop) (e : Exit) (st : St) : Prop := ∃ res, Pu P 0 rs [] res e st /\ Φ res
theorem Am7 {st : St} {rs : List ResultVar} {Φ : AV -> Prop} (hc : S9 P st rs) (h : Φ ((Jk P st rs).ren fun _ => none).low) : Aov P rs Φ .ret st := ⟨_, B2 hc rfl, h⟩
theorem Apw {f : FuncId} {fn : Func} {c : Code} {args : List AV} {Φ : AV -> Prop} (hf : P.funcs[f]? = some fn) (hb : fn.body = some c) (hn : (fn.name == "runtime.NumGoroutine") = false) {rs : List ResultVar} (hrs : fn.results = rs.toArray) (hk : args.length <= fn.ntmps)
 (h : VX P fn.ntmps 0 c ⟨E8 0 args, []⟩ (Aov P rs Φ)) : ∃ res, B8 P f [] args [] res /\ Φ res := by
 obtain ⟨e, s, h1, res, h2, h3⟩ := h
 refine ⟨res, Y0 hf hb hn hrs hk (h1.mono ?_), h3⟩
 rintro e' s' ⟨rfl, rfl⟩
 exact h2
def IsB (p : Bool -> Prop) (r : AV) : Prop := ∃ b, r = .lb b /\ p b
def IsI (p : Int -> Prop) (r : AV) : Prop := ∃ n, r = .li n /\ p n
theorem Aqa {p : Bool -> Prop} {b : Bool} : IsB p (.lb b) = p b := by
 apply propext
 constructor
 ·rintro ⟨b', h1, h2⟩
  injection h1 with h1
  injection h1 with h1
  subst h1
  exact h2
 exact fun h => ⟨b, rfl, h⟩
theorem Ap9 {p : Int -> Prop} {n : Int} : IsI p (.li n) = p n := by
 apply propext
 constructor
 ·rintro ⟨b', h1, h2⟩
  injection h1 with h1
  injection h1 with _ h1
  subst h1
  exact h2
 exact fun h => ⟨n, rfl, h⟩
attribute [go_sem] Aqa Ap9
end
def IsD {D : Type} (form : D -> AV) (Q : D -> Prop) (r : AV) : Prop := ∃ d, r = form d /\ Q d
theorem got {P : Program} {f : FuncId} {args : List AV} {D : Type} {form : D -> AV} {Q : D -> Prop} (h : ∃ res, B8 P f [] args [] res /\ IsD form Q res) : ∃ d, B8 P f [] args [] (form d) /\ Q d := by
  obtain ⟨res, h1, d, rfl, h2⟩ := h
  exact ⟨d, h1, h2⟩
def Ct {D : Type} (f : FuncId) (args : List AV) (F : D -> AV) (Q : D -> Prop) : Prop := ∃ res, PP f [] args [] res /\ IsD F Q res
end Go.Proofs.YtkkimgjinbaemaaGreat
