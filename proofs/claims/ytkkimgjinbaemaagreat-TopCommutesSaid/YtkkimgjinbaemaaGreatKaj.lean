/- The walk. -/
import Derived.Test.YtkkimgjinbaemaaGreatKai
namespace Go.Proofs.YtkkimgjinbaemaaGreat
open Go.RowKit
set_option linter.unusedVariables false
set_option linter.unusedSimpArgs false
set_option maxRecDepth 100000
set_option maxHeartbeats 4000000
section
variable {P : Program}
inductive Gd where
  | no
  | at (d : Tmp) (want : Bool)
  | bad
def Kn (ops : Array Oper) (o : Oper) : Gd := match o.guard with
 | none => .no
 | some (j, want) => match (ops[j]?).bind (·.dst) with
  | some d => .at d want
  | none => .bad
def St.gb (st : St) : Gd -> Bool
 | .no => true
 | .at d want => (Ce st.sl d).sb && (C4 (Ce st.sl d).sv == want)
 | .bad => false
def St.gc (st : St) : Gd -> Prop
 | .no => True
 | .at d _ => F7 (Ce st.sl d).sv = true
 | .bad => False
theorem So {E : Ent} {β : Nat -> Option Nat} {st : St} {a : Act} {w : World} (r : Rel E β st a w) (ops : Array Oper) (o : Oper) (hc : st.gc (Kn ops o)) : Region.wanted o (yielded ops a.tmps) = st.gb (Kn ops o) := by
 unfold Kn at hc ⊢
 unfold Region.wanted
 cases hg : o.guard with
 | none => rfl
 | some jw =>
  obtain ⟨j, want⟩ := jw
  rw [hg] at hc
  simp only at hc ⊢
  cases hd : (ops[j]?).bind (·.dst) with
  | none => rw [hd] at hc; exact hc.elim
  | some d =>
   rw [hd] at hc
   simp only [St.gc, St.gb, yielded, hd, Option.bind_some] at hc ⊢
   have hr := Jl r (.tmp d)
   simp only [St.raw, Act.eval] at hr
   generalize Ce st.sl d = v at hc hr ⊢
   obtain ⟨h1, h2⟩ := hr.sv
   cases hb : v.sb with
   | true =>
    obtain ⟨e1, e2⟩ := Jn hc (h1 hb)
    have : a.tmps[d]? = some (.bool (C4 v.sv)) := by
     rw [Av] at e2
     cases hq : a.tmps[d]? with
     | none => rw [hq] at e2; cases e2
     | some q => rw [hq] at e2; rw [<- e2]; rfl
    rw [this]
    simp
   | false =>
    have e2 := h2 hb
    have : ∀ b, a.tmps[d]? ≠ some (.bool b) := fun b e => by
     rw [Av, e] at e2
     cases e2
    cases hq : a.tmps[d]? with
    | none => simp
    | some q => cases q <;> first | exact absurd hq (this _) | simp
def Mo (raw : Operand -> AV) : Op -> Prop
 | .move x => (raw x).sb = true
 | .assign x => (raw x).sb = true
 | .box _ x => (raw x).sb = true
 | .load _ x => (raw x).sb = true
 | .fieldAddr _ x _ => (raw x).sb = true
 | .nilCheck x => (raw x).sb = true
 | .unOp _ _ x => (raw x).sb = true
 | .extract x _ => (raw x).sb = true
 | .convert _ _ x => (raw x).sb = true
 | .store _ x y => (raw x).sb = true /\ (raw y).sb = true
 | .binOp _ _ x y _ => (raw x).sb = true /\ (raw y).sb = true
 | .indexAddr _ x y => (raw x).sb = true /\ (raw y).sb = true
 | op => (op.operands.toList.all fun x => (raw x).sb) = true
theorem Ag0 {raw : Operand -> AV} {op : Op} (h : Mo raw op) : ∀ x ∈ op.operands, (raw x).sb = true := by
 unfold Mo at h
 split at h <;> first
  | (intro x hx; simp [Op.operands] at hx; subst hx; exact h)
  | (intro x hx; simp [Op.operands] at hx; rcases hx with hx | hx <;> subst hx <;> first | exact h.1 | exact h.2)
  | (intro x hx; exact Am.1 h x (by simpa using hx))
def Eu (P : Program) (op : Op) (ty : TypeId) (st : St) (nid : Nat) : Prop :=
 match op with
 | .pick c a b => (Un (st.raw c) (st.raw a) (st.raw b)).c
 | op => Mo st.raw op /\ (vop P op ty st.raw st.o nid).c
def Fs (P : Program) (op : Op) (ty : TypeId) (st : St) (nid : Nat) : AV × List (Nat × Ob) :=
 match op with
 | .pick c a b => ((Un (st.raw c) (st.raw a) (st.raw b)).v, [])
 | op => ((vop P op ty st.raw st.o nid).v, (vop P op ty st.raw st.o nid).up)
theorem Aay {op : Op} {ty : TypeId} {st : St} {nid : Nat} (h : ∀ c a b, op ≠ .pick c a b) : Fs P op ty st nid = ((vop P op ty st.raw st.o nid).v, (vop P op ty st.raw st.o nid).up) := by
 unfold Fs
 split
 ·rename_i c a b; exact absurd rfl (h c a b)
 rfl
theorem Aa2 {op : Op} {ty : TypeId} {st : St} {nid : Nat} (h : ∀ c a b, op ≠ .pick c a b) : Eu P op ty st nid = (Mo st.raw op /\ (vop P op ty st.raw st.o nid).c) := by
 unfold Eu
 split
 ·rename_i c a b; exact absurd rfl (h c a b)
 rfl
def Qq (P : Program) (op : Op) (ty : TypeId) (st : St) (nid : Nat) (e : AV × List (Nat × Ob)) : Prop :=
 match op with
 | .call { callee := .value fo, args, .. } => ((st.raw fo).sb = true /\ (args.toList.all fun x => (st.raw x).sb) = true) /\ (Ao2 P fo args.toList st.raw st.o nid e \/ ∃ f caps sel σr res, (st.raw fo).sv = .fn f caps /\ Tw P f (args.toList.map (fun x => (st.raw x).sv) ++ caps) st.o nid sel σr res /\ e = J2 sel nid σr res)
 | op => Eu P op ty st nid /\ e = Fs P op ty st nid
theorem Apl {E : Ent} {β : Nat -> Option Nat} {st : St} {a : Act} {w : World} (r : Rel E β st a w) {o : Oper} {c x y : Operand} (hop : o.op = .pick c x y) (hd : ∀ x, o.dst = some x -> x < E.n) (hc : (Un (st.raw c) (st.raw x) (st.raw y)).c) {Q : Exit -> Act -> World -> Prop} :
 o.wp P a w (fun a' w' => ∃ β', Rel E β' (st.after o.dst (Un (st.raw c) (st.raw x) (st.raw y)).v []) a' w') Q := by
 obtain ⟨h1, h2, h3, h4⟩ := hc
 obtain ⟨e1, e2⟩ := Jn h1 ((Jl r c).sv.1 h2)
 unfold Oper.wp
 have hrun : ∃ v, (execOp a.eval o).run P w = .ok (.value v) w /\ Br (E.C β st w) (Un (st.raw c) (st.raw x) (st.raw y)).v v := by
  obtain ⟨dst, op, ty, pos, af, gd⟩ := o
  simp only at hop
  subst hop
  simp only [Un]
  cases hb : C4 (st.raw c).sv with
  | true =>
   obtain ⟨g1, g2⟩ := h3 hb
   obtain ⟨q1, q2⟩ := Jn g1 ((Jl r x).sv.1 g2)
   exact ⟨a.eval x, by simp [execOp, e2, hb, asBool], by rw [q2]; exact .lit _⟩
  | false =>
   obtain ⟨g1, g2⟩ := h4 hb
   obtain ⟨q1, q2⟩ := Jn g1 ((Jl r y).sv.1 g2)
   exact ⟨a.eval y, by simp [execOp, e2, hb, asBool], by rw [q2]; exact .lit _⟩
 obtain ⟨v, h5, h6⟩ := hrun
 rw [h5]
 exact ⟨β, r.put h6 o.dst hd⟩
theorem Ara {E : Ent} {β : Nat -> Option Nat} {st : St} {a : Act} {w : World} (r : Rel E β st a w) {o : Oper} (hd : ∀ x, o.dst = some x -> x < E.n) {nid : Nat} {e : AV × List (Nat × Ob)} (hn : ∀ p ∈ e.2, nid <= p.1 -> st.o p.1 = .gone) (h : Qq P o.op o.type st nid e) {Q : Exit -> Act -> World -> Prop} :
 o.wp P a w (fun a' w' => ∃ β', Rel E β' (st.after o.dst e.1 e.2) a' w') Q := by
 unfold Qq at h
 split at h
 ·rename_i fo args ts hop
  have hops : ∀ x ∈ o.op.operands, (st.raw x).sb = true := fun x hx => by
   rw [hop] at hx
   simp only [Op.operands, Call.operands, Array.mem_append] at hx
   rcases hx with hx | hx
   ·simp at hx; subst hx; exact h.1.1
   exact Am.1 h.1.2 x (by simpa using hx)
  rcases h.2 with h2 | ⟨f, caps, sel, σr, res, h3, h4, rfl⟩
  ·exact Ap2 r hop hd hops h2 hn
  exact Aob r hop hd hops h3 h4 hn
 rename_i hno
 obtain ⟨h1, rfl⟩ := h
 by_cases hp : ∃ c x y, o.op = .pick c x y
 ·obtain ⟨c, x, y, hop⟩ := hp
  rw [hop] at h1 ⊢
  exact Apl r hop hd h1
 have e1 := Aay (P := P) (ty := o.type) (st := st) (nid := nid) fun c x y e => hp ⟨c, x, y, e⟩
 have e2 := Aa2 (P := P) (ty := o.type) (st := st) (nid := nid) fun c x y e => hp ⟨c, x, y, e⟩
 rw [e1] at hn ⊢
 rw [e2] at h1
 exact Ast r hd hn (Ag0 h1.1) h1.2
theorem Rel.putLe {E : Ent} {β : Nat -> Option Nat} {s : St} {d : Option Tmp} {v v' : AV} {a : Act} {w : World} (r : Rel E β (s.put d v) a w) (h : ∀ C u, Br C v u -> Br C v' u) : Rel E β (s.put d v') a w := by
 cases d with
 | none => exact r
 | some d =>
  have hC : E.C β (s.put (some d) v') w = E.C β (s.put (some d) v) w := by rw [Xr, Xr]
  refine ⟨r.sz, fun t => ?_, r.df, fun id => by rw [hC]; exact r.ob id, r.inj, r.rng, r.kp, by rw [hC]; exact r.ct, r.kb, r.dk⟩
  rw [hC]
  have := r.sl t
  simp only [St.put, Ce] at this ⊢
  cases hb : d == t with
  | true =>
   rw [hb] at this
   exact h _ _ this
  | false =>
   rw [hb] at this
   exact this
def St.afterG (st : St) (g : Gd) (d : Option Tmp) (e : AV × List (Nat × Ob)) : St := match g with
 | .no => st.after d e.1 e.2
 | g => st.after d (.gd (st.gb g) e.1) (bif st.gb g then e.2 else [])
def FOk (E : Ent) (F : Fence) : Prop := F = Fence.wide \/ ∃ l r, F = Fence.wide.inRound l /\ E.kb l = some (.loop r)
theorem FOk.fn {E : Ent} {F : Fence} (h : FOk E F) (f : FuncId) : F.fn f := by
 rcases h with rfl | ⟨l, r, rfl, _⟩ <;> exact trivial
theorem FOk.depth {E : Ent} {F : Fence} (h : FOk E F) : F.depth.isSome = true -> 1 <= 0 := by
 rcases h with rfl | ⟨l, r, rfl, _⟩ <;> intro h <;> cases h
theorem FOk.calls {E : Ent} {F : Fence} (h : FOk E F) {n : Nat} {f : FuncId} {args : Array Value} {w : World} {R : Ending -> World -> Prop} (hc : Calls P f args w R) : CallsIn F n P f args w R := by
 rcases h with rfl | ⟨l, r, rfl, _⟩
 ·exact callsIn_wide.2 hc
 exact (callsIn_wide (n := n)).2 hc
theorem FOk.rows {E : Ent} {F : Fence} (h : FOk E F) {n : Nat} {row : String} {args : Array Value} {w : World} {R : Value -> World -> Prop} (hc : Rows P row args w R) : RowsIn F n P row args w R := by
 rcases h with rfl | ⟨l, r, rfl, _⟩
 ·exact fun c cs _ => let ⟨v, w', r, s⟩ := hc c cs; ⟨v, w', r, stepsIn_wide.2 s⟩
 exact fun c cs _ => let ⟨v, w', r, s⟩ := hc c cs; ⟨v, w', r, stepsIn_wide.2 s⟩
theorem Na {E : Ent} {F : Fence} (hF : FOk E F) {o : Oper} (hnd : ∀ c, o.op ≠ .defer c) {a : Act} {w : World} {K : Act -> World -> Prop} {Q : Exit -> Act -> World -> Prop} (h : o.wp P a w K fun _ _ _ => False) : o.wpIn F 0 P a w K Q := by
 refine ⟨fun f _ => hF.fn f, ?_⟩
 rw [Oper.semAt_eq _ _ _ hnd]
 unfold Oper.wp at h
 generalize (execOp a.eval o).run P w = r at h
 cases r with
 | ok x w' =>
  cases x with
  | value v => exact h
  | skip => exact h
  | defer d => exact h
  | enter f args =>
   refine ⟨hF.depth, (hF.calls h).mono ?_⟩
   intro e w'' he
   cases e with
   | returned v => exact he
   | panicked c => exact he.elim
   | outgrown => obtain ⟨_, _, hx⟩ := he; exact hx.elim
  | row row args => exact ⟨hF.depth, hF.rows h⟩
  | _ => exact h.elim
 | halt x w' =>
  cases x with
  | panic v => exact h.elim
  | _ => exact h.elim
theorem Afh {op : Op} {ty : TypeId} {st : St} {nid : Nat} {e : AV × List (Nat × Ob)} (h : Qq P op ty st nid e) : ∀ c, op ≠ .defer c := by
 rintro c rfl
 exact h.1.2.elim
theorem P9 {E : Ent} {β : Nat -> Option Nat} {st : St} {a : Act} {w : World} (r : Rel E β st a w) {ops : Array Oper} {o : Oper} (hd : ∀ x, o.dst = some x -> x < E.n) {nid : Nat} (hg : st.gc (Kn ops o)) {e : AV × List (Nat × Ob)} (hn : st.gb (Kn ops o) = true -> ∀ p ∈ e.2, nid <= p.1 -> st.o p.1 = .gone) (h : st.gb (Kn ops o) = true -> Qq P o.op o.type st nid e)
 {F : Fence} (hF : FOk E F) {K : Act -> World -> Prop} {Q : Exit -> Act -> World -> Prop} (hK : ∀ β' a' w', Rel E β' (st.afterG (Kn ops o) o.dst e) a' w' -> K a' w') :
  if Region.wanted o (yielded ops a.tmps) then o.wpIn F 0 P a w K Q else (∀ f, o.about P w a.eval = some f -> F.fn f) /\ K (a.put o.dst undef) w := by
 rw [So r ops o hg]
 cases hb : st.gb (Kn ops o) with
 | true =>
  rw [if_pos rfl]
  refine Oper.wpIn_mono (fun a' w' h' => ?_) (Na hF (Afh (h hb)) (Ara r hd (hn hb) (h hb)))
  obtain ⟨β', r'⟩ := h'
  refine hK β' a' w' ?_
  unfold St.afterG
  split
  ·exact r'
  rw [hb]
  simp only [cond_true]
  unfold St.after at r' ⊢
  rw [Va] at r' ⊢
  exact r'.putLe fun C u hu => .gd true _ u (fun _ => hu) fun e => by cases e
 | false =>
  rw [if_neg (by simp)]
  refine ⟨fun f _ => hF.fn f, hK β _ w ?_⟩
  unfold St.afterG
  split
  ·rename_i hno
   rw [hno] at hb
   cases hb
  rw [hb]
  simp only [cond_false, St.after, St.sets]
  exact r.put (.gd false _ _ (fun e => by cases e) fun _ => rfl) o.dst hd
structure VO where
  d : Option Tmp
  op : Op
  ty : TypeId
  g : Gd
def Dg (l : List Oper) : List VO := l.map fun o => ⟨o.dst, o.op, o.type, Kn l.toArray o⟩
def runs (P : Program) : List VO -> St -> (St -> Prop) -> Prop
 | [], st, K => K st
 | v :: os, st, K => st.gc v.g /\
  if Ck v.op then ∃ e : AV × List (Nat × Ob), (st.gb v.g = true -> Qq P v.op v.ty st st.ob.length e) /\ runs P os (st.afterG v.g v.d e) K
  else (st.gb v.g = true -> Eu P v.op v.ty st st.ob.length) /\ runs P os (st.afterG v.g v.d (Fs P v.op v.ty st st.ob.length)) K
theorem Dx (st : St) : ∀ i, st.ob.length <= i -> st.o i = .gone := fun i hi => by
 simp only [St.o]
 rw [Ad, Ar hi]; rfl
theorem Zd {op : Op} {ty : TypeId} {st : St} {nid : Nat} (hc : Ck op = false) (h : Eu P op ty st nid) : Qq P op ty st nid (Fs P op ty st nid) := by
 unfold Qq
 split
 ·cases hc
 exact ⟨h, rfl⟩
theorem U1 {E : Ent} {F : Fence} (hF : FOk E F) {ops : Array Oper} {K : St -> Prop} {Q : Exit -> Act -> World -> Prop} (hQ : ∀ st β a w, K st -> Rel E β st a w -> Q .normal a w) : ∀ (l : List Oper) (hd : ∀ o ∈ l, ∀ x, o.dst = some x -> x < E.n) (st : St) (β : Nat -> Option Nat) (a : Act) (w : World),
 runs P (l.map fun o => ⟨o.dst, o.op, o.type, Kn ops o⟩) st K -> Rel E β st a w -> wpListIn F 0 P ops Q l a w
 | [], _, st, β, a, w, h, r => hQ st β a w h r
 | o :: l, hd, st, β, a, w, h, r => by
  obtain ⟨hg, h⟩ := h
  unfold wpListIn
  simp only at h hg
  cases hc : Ck o.op with
  | true =>
   rw [hc, if_pos rfl] at h
   obtain ⟨e, h1, h2⟩ := h
   exact P9 r (hd o (by simp)) hg (fun _ p _ hp => Dx st p.1 hp) h1 hF fun β' a' w' r' => U1 hF hQ l (fun x hx => hd x (by simp [hx])) _ β' a' w' h2 r'
  | false =>
   rw [hc, if_neg (by simp)] at h
   obtain ⟨h1, h2⟩ := h
   exact P9 r (hd o (by simp)) hg (fun _ p _ hp => Dx st p.1 hp) (fun hb => Zd hc (h1 hb)) hF fun β' a' w' r' => U1 hF hQ l (fun x hx => hd x (by simp [hx])) _ β' a' w' h2 r'
structure Ej (E E' : Ent) : Prop where
  ex : ∃ ds kb, E' = { E with ds := ds, kb := kb }
  kb : ∀ b o, E.kb b = some o -> E'.kb b = some o
theorem Ej.refl (E : Ent) : Ej E E := ⟨⟨E.ds, E.kb, rfl⟩, fun _ _ h => h⟩
theorem Ej.trans {E E' E2 : Ent} (h : Ej E E') (h' : Ej E' E2) : Ej E E2 := by
 obtain ⟨⟨ds, kb, rfl⟩, h1⟩ := h
 obtain ⟨⟨ds2, kb2, rfl⟩, h2⟩ := h'
 exact ⟨⟨ds2, kb2, rfl⟩, fun b o h => h2 b o (h1 b o h)⟩
theorem Ej.ok {E E' : Ent} (h : Ej E E') {n m : Nat} (hE : E.n = n /\ ∀ id, m <= id -> E.o0 id = .gone) : E'.n = n /\ ∀ id, m <= id -> E'.o0 id = .gone := by
 obtain ⟨⟨ds, kb, rfl⟩, _⟩ := h
 exact hE
theorem FOk.le {E E' : Ent} {F : Fence} (h : FOk E F) (hle : Ej E E') : FOk E' F := by
 rcases h with h | ⟨l, r, h1, h2⟩
 ·exact .inl h
 exact .inr ⟨l, r, h1, hle.kb _ _ h2⟩
def Uj (E : Ent) (K : Exit -> St -> Prop) : Exit -> Act -> World -> Prop := fun e a w => ∃ E' st β, Ej E E' /\ K e st /\ Rel E' β st a w
theorem Uj.mono {E E' : Ent} {K K' : Exit -> St -> Prop} (hle : Ej E E') {e : Exit} {a : Act} {w : World} (hk : ∀ s, K e s -> K' e s) (h : Uj E' K e a w) : Uj E K' e a w := by
 obtain ⟨E2, st, β, h1, h2, h3⟩ := h
 exact ⟨E2, st, β, hle.trans h1, hk _ h2, h3⟩
def VW (P : Program) (n m : Nat) (c : Code) (st : St) (K : Exit -> St -> Prop) : Prop :=
 ∀ (E : Ent) (F : Fence), (E.n = n /\ ∀ id, m <= id -> E.o0 id = .gone) -> FOk E F -> ∀ β a w, Rel E β st a w -> c.wpIn F 0 P (Uj E K) a w
section
variable {n m : Nat} {st : St} {K K' : Exit -> St -> Prop}
theorem VW.mono {c : Code} (h : VW P n m c st K) (hk : ∀ e s, K e s -> K' e s) : VW P n m c st K' := fun E F hE hF β a w r => wpIn_mono (h E F hE hF β a w r) fun e a w ⟨E', s, β, h0, h1, h2⟩ => ⟨E', s, β, h0, hk e s h1, h2⟩
@[reducible] def Exit.vthen (next : St -> Prop) (K : Exit -> St -> Prop) : Exit -> St -> Prop
 | .normal, s => next s
 | e, s => K e s
theorem VW.seq {x y : Code} (h : VW P n m x st (Exit.vthen (fun s => VW P n m y s K) K)) : VW P n m (.seq x y) st K := fun E F hE hF β a w r => by
 refine wpIn_seq (wpIn_mono (h E F hE hF β a w r) fun e a w ⟨E', s, β, h0, h1, h2⟩ => ?_)
 cases e with
 | normal => exact wpIn_mono (h1 E' F (h0.ok hE) (hF.le h0) β a w h2) fun e a w hp => hp.mono h0 fun _ h => h
 | exit id => exact ⟨E', s, β, h0, h1, h2⟩
 | goto l => exact ⟨E', s, β, h0, h1, h2⟩
 | ret => exact ⟨E', s, β, h0, h1, h2⟩
 | panic ch => exact ⟨E', s, β, h0, h1, h2⟩
 | outgrown => exact ⟨E', s, β, h0, h1, h2⟩
theorem VW.skip (h : K .normal st) : VW P n m .skip st K := fun E F hE hF β a w r => wpIn_skip ⟨E, st, β, Ej.refl E, h, r⟩
theorem VW.label {l : Nat} (h : K .normal st) : VW P n m (.label l) st K := fun E F hE hF β a w r => wpIn_label ⟨E, st, β, Ej.refl E, h, r⟩
theorem VW.exit {id : Nat} (h : K (.exit id) st) : VW P n m (.exit id) st K := fun E F hE hF β a w r => wpIn_exit ⟨E, st, β, Ej.refl E, h, r⟩
theorem VW.goto {l : Nat} (h : K (.goto l) st) : VW P n m (.goto l) st K := fun E F hE hF β a w r => wpIn_goto ⟨E, st, β, Ej.refl E, h, r⟩
theorem VW.ret (h : K .ret st) : VW P n m .ret st K := fun E F hE hF β a w r => wpIn_ret ⟨E, st, β, Ej.refl E, h, r⟩
theorem VW.cond {c : Operand} {x y : Code} (hb : F7 (st.raw c).sv = true) (hs : (st.raw c).sb = true) (ht : C4 (st.raw c).sv = true -> VW P n m x st K) (hf : C4 (st.raw c).sv = false -> VW P n m y st K) : VW P n m (.cond c x y) st K := fun E F hE hF β a w r => by
 obtain ⟨_, e2⟩ := Jn hb ((Jl r c).sv.1 hs)
 refine wpIn_cond_split e2 (fun e => ht e E F hE hF β a w r) fun e => hf e E F hE hF β a w r
@[reducible] def Exit.vblock (id : Nat) (K : Exit -> St -> Prop) : Exit -> St -> Prop
 | .exit id', s => if id' = id then K .normal s else K (.exit id') s
 | e, s => K e s
theorem VW.block {id : Nat} {c : Code} (h : VW P n m c st (Exit.vblock id K)) : VW P n m (.block id c) st K := fun E F hE hF β a w r => by
 refine wpIn_block (wpIn_mono (h E F hE hF β a w r) fun e a w ⟨E', s, β, h0, h1, h2⟩ => ?_)
 cases e with
 | exit id' =>
  unfold Exit.inBlock
  unfold Exit.vblock at h1
  simp only at h1 ⊢
  split
  ·rename_i e; rw [if_pos e] at h1; exact ⟨E', s, β, h0, h1, h2⟩
  rename_i e; rw [if_neg e] at h1; exact ⟨E', s, β, h0, h1, h2⟩
 | normal => exact ⟨E', s, β, h0, h1, h2⟩
 | goto l => exact ⟨E', s, β, h0, h1, h2⟩
 | ret => exact ⟨E', s, β, h0, h1, h2⟩
 | panic ch => exact ⟨E', s, β, h0, h1, h2⟩
 | outgrown => exact ⟨E', s, β, h0, h1, h2⟩
theorem VW.loop {c : Code} (I : Nat -> St -> Prop) (z : Nat) (h0 : I z st) (round : ∀ z s, I z s -> VW P n m c s (Exit.vthen (fun s' => ∃ z', z' < z /\ I z' s') K)) : VW P n m (.loop c) st K := fun E F hE hF β a w r => by
 refine wpIn_loop (fun a w => ∃ n s β E', Ej E E' /\ I n s /\ Rel E' β s a w) (fun a w => Classical.epsilon fun n => (∃ s β E', Ej E E' /\ I n s /\ Rel E' β s a w) /\ ∀ n' s β E', Ej E E' -> I n' s -> Rel E' β s a w -> n <= n') ⟨z, st, β, E, Ej.refl E, h0, r⟩ ?_
 rintro a w ⟨n1, s1, β1, E1, hl1, hI, r1⟩
 have hleast : ∀ a w, (∃ n s β E', Ej E E' /\ I n s /\ Rel E' β s a w) -> ∃ n, (∃ s β E', Ej E E' /\ I n s /\ Rel E' β s a w) /\ ∀ n' s β E', Ej E E' -> I n' s -> Rel E' β s a w -> n <= n' := by
  rintro a w ⟨n, h⟩
  induction n using Nat.strongRecOn with
  | _ n ih =>
   by_cases hm : ∃ n', n' < n /\ ∃ s β E', Ej E E' /\ I n' s /\ Rel E' β s a w
   ·obtain ⟨n', hlt, h'⟩ := hm
    exact ih n' hlt h'
   exact ⟨n, h, fun n' s β E' h0 h1 h2 => Nat.le_of_not_lt fun hlt => hm ⟨n', hlt, s, β, E', h0, h1, h2⟩⟩
 obtain ⟨⟨s0, β0, E0, hl0, hI0, r0⟩, hmin⟩ := Classical.epsilon_spec (hleast a w ⟨n1, s1, β1, E1, hl1, hI, r1⟩)
 refine wpIn_mono (round _ s0 hI0 E0 F (hl0.ok hE) (hF.le hl0) β0 a w r0) fun e a' w' ⟨E', s, β, h0, h1, h2⟩ => ?_
 cases e with
 | normal =>
  obtain ⟨n', hlt, hI'⟩ := h1
  refine ⟨⟨n', s, β, E', hl0.trans h0, hI', h2⟩, ?_⟩
  have := Classical.epsilon_spec (hleast a' w' ⟨n', s, β, E', hl0.trans h0, hI', h2⟩)
  exact Nat.lt_of_le_of_lt (this.2 n' s β E' (hl0.trans h0) hI' h2) hlt
 | exit id => exact ⟨E', s, β, hl0.trans h0, h1, h2⟩
 | goto l => exact ⟨E', s, β, hl0.trans h0, h1, h2⟩
 | ret => exact ⟨E', s, β, hl0.trans h0, h1, h2⟩
 | panic ch => exact ⟨E', s, β, hl0.trans h0, h1, h2⟩
 | outgrown => exact ⟨E', s, β, hl0.trans h0, h1, h2⟩
def Cw (n : Nat) (l : List Oper) : Bool := l.all fun o => match o.dst with | some d => decide (d < n) | none => true
theorem Lm {n : Nat} {l : List Oper} (h : Cw n l = true) : ∀ o ∈ l, ∀ x, o.dst = some x -> x < n := fun o ho x hx => by
 have := Am.1 h o ho
 rw [hx] at this
 simpa using this
theorem VW.region {id : Nat} {l : List Oper} (hd : Cw n l = true) (h : runs P (Dg l) st (K .normal)) : VW P n m (.region id l.toArray false) st K := fun E F hE hF β a w r =>
 wpIn_region_lit (U1 hF (fun s β a w h1 h2 => ⟨E, s, β, Ej.refl E, h1, h2⟩) l (fun o ho x hx => by rw [hE.1]; exact Lm hd o ho x hx) st β a w h r)
theorem VW.region_seq {id : Nat} {l : List Oper} {y : Code} (hd : Cw n l = true) (h : ∀ K1 : St -> Prop, (∀ s, VW P n m y s K -> K1 s) -> runs P (Dg l) st K1) : VW P n m (.seq (.region id l.toArray false) y) st K :=
 .seq (.region hd (h _ fun _ h => h))
end
end
end Go.Proofs.YtkkimgjinbaemaaGreat
