/- The walk. -/
import Derived.Test.YtkkimgjinbaemaaGreatKag
namespace Go.Proofs.YtkkimgjinbaemaaGreat
open Go.RowKit
set_option linter.unusedVariables false
set_option linter.unusedSimpArgs false
set_option maxRecDepth 100000
set_option maxHeartbeats 4000000
section
variable {P : Program}
structure Aa9 (P : Program) (f : FuncId) : Prop where
  ex : ∃ fn, P.funcs[f]? = some fn /\ fn.body.isNone = false /\ (fn.name == "runtime.NumGoroutine") = false
def E8 (n : Nat) : List AV -> List (Nat × AV)
 | [] => []
 | c :: cs => (n, c) :: E8 (n + 1) cs
theorem Iq : ∀ (cs : List AV) (n t : Nat), Ce (E8 n cs) t = if n <= t then cs.getD (t - n) .any else .any
 | [], n, t => by simp [E8, Ce]
 | c :: cs, n, t => by
  rw [E8, Ce, Iq cs (n + 1) t]
  by_cases h : n = t
  ·subst h; simp
  have : (n == t) = false := by simp [h]
  rw [this]
  simp only [cond_false]
  by_cases h1 : n + 1 <= t
  ·rw [if_pos h1, if_pos (by omega), show t - n = (t - (n + 1)) + 1 by omega, List.getD_cons_succ]
  rw [if_neg h1, if_neg (by omega)]
def B8 (P : Program) (f : FuncId) (σa : List Ob) (args : List AV) (σr : List Ob) (res : AV) : Prop :=
 Aa9 P f /\ ∀ (E : Ent) (β : Nat -> Option Nat) (us : Array Value), E.n = args.length -> E.o0 = (St.mk [] σa).o -> E.β0 = β -> Rel E β ⟨E8 0 args, σa⟩ ⟨us, []⟩ E.w0 ->
  Calls P f us E.w0 fun e w' => ∃ v β', e = .returned v /\ Rel { E with n := 1 } β' ⟨[(0, res)], σr⟩ ⟨#[v], []⟩ w'
mutual
def AV.pass (o : Nat -> Ob) : AV -> AV
 | .own id n => .imm false (O2 (o id)) (Ik (o id))
 | .sub id n lo m => .imm false (O2 (o id)) (((Ik (o id)).drop lo).take m)
 | .agg cs => .agg (Hh o cs)
 | .tup cs => .tup (Hh o cs)
 | .fn f cs => .fn f (Hh o cs)
 | .lit v => .lit v
 | .nil k => .nil k
 | .imm fr k es => .imm fr k es
 | .iptr fr cs off => .iptr fr cs off
 | _ => .any
def Hh (o : Nat -> Ob) : List AV -> List AV
 | [] => []
 | c :: cs => c.pass o :: Hh o cs
end
mutual
def AV.passC (o : Nat -> Ob) : AV -> Prop
 | .own id n => Db (o id) = true /\ n = (Ik (o id)).length
 | .sub id n lo m => Db (o id) = true /\ n = (Ik (o id)).length
 | .agg cs => Ha o cs
 | .tup cs => Ha o cs
 | .fn f cs => Ha o cs
 | _ => True
def Ha (o : Nat -> Ob) : List AV -> Prop
 | [] => True
 | c :: cs => c.passC o /\ Ha o cs
end
mutual
def AV.bor : AV -> Bool
 | .own _ _ => true
 | .sub _ _ _ _ => true
 | .agg cs => Ql cs
 | .tup cs => Ql cs
 | .fn _ cs => Ql cs
 | _ => false
def Ql : List AV -> Bool
 | [] => false
 | c :: cs => c.bor || Ql cs
end
mutual
def AV.cln : AV -> Bool
 | .imm fr _ _ => fr
 | .iptr fr _ _ => fr
 | .agg cs => Cp cs
 | .tup cs => Cp cs
 | .fn _ cs => Cp cs
 | .gd _ v => v.cln
 | _ => true
def Cp : List AV -> Bool
 | [] => true
 | c :: cs => c.cln && Cp cs
end
def Ob.cln : Ob -> Bool
 | .row _ _ fr _ _ => fr
 | .box _ cs => Cp cs
 | .gone => true
def Ob.shift (N : Nat) : Ob -> Ob
 | .box ty cs => .box ty (Lc N cs)
 | o => o
theorem Pq (o : Nat -> Ob) : ∀ (cs : List AV) (i : Nat), (Hh o cs)[i]? = (cs[i]?).map (AV.pass o)
 | [], i => by simp [Hh]
 | c :: cs, 0 => by simp [Hh]
 | c :: cs, i + 1 => by simp [Hh, Pq o cs i]
theorem Kk (o : Nat -> Ob) : ∀ (cs : List AV), (Hh o cs).length = cs.length
 | [] => rfl
 | c :: cs => by simp [Hh, Kk o cs]
theorem Gf {o : Nat -> Ob} : ∀ {cs : List AV} (h : Ha o cs) {i : Nat} {c : AV}, cs[i]? = some c -> c.passC o
 | [], _, i, c, h => by simp at h
 | d :: cs, ⟨h1, h2⟩, 0, c, h => by simp at h; subst h; exact h1
 | d :: cs, ⟨h1, h2⟩, i + 1, c, h => by simp at h; exact Gf h2 h
theorem Sj : ∀ {cs : List AV} (h : Ql cs = false) {i : Nat} {c : AV}, cs[i]? = some c -> c.bor = false
 | [], _, i, c, h => by simp at h
 | d :: cs, h', 0, c, h => by simp at h; subst h; simp only [Ql, Bool.or_eq_false_iff] at h'; exact h'.1
 | d :: cs, h', i + 1, c, h => by simp at h; simp only [Ql, Bool.or_eq_false_iff] at h'; exact Sj h'.2 h
theorem Ko : ∀ {cs : List AV} (h : Cp cs = true) {i : Nat} {c : AV}, cs[i]? = some c -> c.cln = true
 | [], _, i, c, h => by simp at h
 | d :: cs, h', 0, c, h => by simp at h; subst h; simp only [Cp, Ah] at h'; exact h'.1
 | d :: cs, h', i + 1, c, h => by simp at h; simp only [Cp, Ah] at h'; exact Ko h'.2 h
theorem Br.pass {E : Ent} {β : Nat -> Option Nat} {st : St} {a : Act} {w : World} (r : Rel E β st a w) {C0 : VC} (hh : C0.h = w.heap) (hl : ∀ b, ¬ C0.lives b) (hB : C0.B = w.heap.size) (bor : Bool) (him : ∀ b, (bor = true \/ (E.C β st w).S false b) -> C0.im b) (hfr : ∀ b, (E.C β st w).S true b -> C0.fr b)
 {c : AV} {u : Value} (h : Br (E.C β st w) c u) (hc : c.passC st.o) (hb : bor = false -> c.bor = false) : Br C0 (c.pass st.o) u := by
 have hsize : C0.h.size = w.heap.size := by rw [hh]
 have hS : ∀ fr b, (E.C β st w).S fr b -> C0.S fr b := fun fr b hb => ⟨by rw [hsize]; exact hb.1, hl b, .inr (.inr ⟨him b (.inr (VC.S_weak hb)), fun e => hfr b (by rw [e] at hb; exact hb)⟩)⟩
 have hT : ∀ fr t u, Do w.heap ((E.C β st w).S fr) t u -> Do C0.h (C0.S fr) t u := fun fr t u h => by
  rw [hh]
  exact h.keep (fun _ _ => rfl) (hS fr)
 have hT2 : bor = true -> ∀ fr t u, Do w.heap ((E.C β st w).S fr) t u -> Do C0.h (C0.S false) t u := fun hb fr t u h => by
  rw [hh]
  exact h.keep (fun _ _ => rfl) fun b hs => ⟨by rw [hsize]; exact hs.1, hl b, .inr (.inr ⟨him b (.inl hb), fun e => by cases e⟩)⟩
 have hsrc : bor = true -> ∀ (x : AV) (u : Value) (k : Nat), Src (E.C β st w) u (Mt st.o x) k (Dr st.o x) -> Br C0 (.imm false k (Dr st.o x)) u := by
  intro hb x u k hsr
  obtain ⟨A, c, rfl, hle, hel, hs⟩ := hsr
  refine .imm _ _ _ _ ?_
  rcases hs with he | ⟨b, off, cur, ty, fz, rfl, hcur, hcell⟩
  ·rw [he]; exact .nil _ _ _
  have hcur' : C0.h[b]? = some (.cells cur ty fz) := by rw [hh]; exact hcur
  have hlt : b < w.heap.size := by
   apply Classical.byContradiction
   intro hge
   have : w.heap[b]? = some (.cells cur ty fz) := hcur
   rw [Array.getElem?_eq_none (by omega)] at this
   cases this
  have hch : ∀ (i : Nat) (e : List T) (j : Nat) (x' : T), (Dr st.o x)[i]? = some e -> e[j]? = some x' -> Do C0.h (C0.S false) x' ((cur[off + i * k + j]?).getD undef) /\ cur[off + i * k + j]? = some ((cur[off + i * k + j]?).getD undef) := fun i e j x' he hx => by
   obtain ⟨u, q1, q2⟩ := hcell i e j x' he hx
   rw [q1]
   exact ⟨hT2 hb _ _ _ q2, rfl⟩
  exact .sl k _ b off c cur ty fz (fun i j => (cur[off + i * k + j]?).getD undef) hcur' ⟨by rw [hsize]; exact hlt, hl b, .inr (.inr ⟨him b (.inl hb), fun e => by cases e⟩)⟩ hle hel (fun i e j x' he hx => (hch i e j x' he hx).2) fun i e j x' he hx => (hch i e j x' he hx).1
 induction h with
 | any u => exact .any u
 | lit v => exact .lit v
 | nil k A => exact .nil k A
 | imm fr k es u h => exact .imm fr k es u (hT fr _ _ h)
 | own id n u h =>
  have hbt : bor = true := by
   cases bor
   ·have := hb rfl; cases this
   rfl
  exact hsrc hbt (.own id n) u (O2 (st.o id)) (Ub r (.own id n u h) ⟨hc.1, rfl, hc.2⟩)
 | sub id n lo m u h =>
  have hbt : bor = true := by
   cases bor
   ·have := hb rfl; cases this
   rfl
  exact hsrc hbt (.sub id n lo m) u (O2 (st.o id)) (Ub r (.sub id n lo m u h) ⟨hc.1, rfl, hc.2⟩)
 | ptr id off u h => exact .any u
 | rptr id n i off u h => exact .any u
 | bsl id n u h => exact .any u
 | iptr fr cs off b o cur ty fz us h1 h2 h3 =>
  exact .iptr fr cs off b o cur ty fz us (by rw [hh]; exact h1) (hS fr b h2) fun j x hx => ⟨(h3 j x hx).1, hT fr _ _ (h3 j x hx).2⟩
 | agg cs us h1 h2 ih =>
  refine .agg _ _ (by rw [Kk]; exact h1) fun i c u hc' hu => ?_
  rw [Pq] at hc'
  cases hx : cs[i]? with
  | none => rw [hx] at hc'; cases hc'
  | some x =>
   rw [hx] at hc'
   simp only [Ai, Option.some.injEq] at hc'
   subst hc'
   exact ih i x u hx hu (Gf hc hx) fun e => Sj (by have := hb e; simpa [AV.bor] using this) hx
 | tup cs us h1 h2 ih =>
  refine .tup _ _ (by rw [Kk]; exact h1) fun i c u hc' hu => ?_
  rw [Pq] at hc'
  cases hx : cs[i]? with
  | none => rw [hx] at hc'; cases hc'
  | some x =>
   rw [hx] at hc'
   simp only [Ai, Option.some.injEq] at hc'
   subst hc'
   exact ih i x u hx hu (Gf hc hx) fun e => Sj (by have := hb e; simpa [AV.bor] using this) hx
 | fn f cs us h1 h2 ih =>
  refine .fn f _ _ (by rw [Kk]; exact h1) fun i c u hc' hu => ?_
  rw [Pq] at hc'
  cases hx : cs[i]? with
  | none => rw [hx] at hc'; cases hc'
  | some x =>
   rw [hx] at hc'
   simp only [Ai, Option.some.injEq] at hc'
   subst hc'
   exact ih i x u hx hu (Gf hc hx) fun e => Sj (by have := hb e; simpa [AV.bor] using this) hx
 | gd t v u h1 h2 ih => exact .any u
theorem Br.back {C1 C2 : VC} {N : Nat} (hh : C2.h = C1.h) (ho : ∀ j, C1.ob j ≠ .gone -> C2.ob (N + j) = (C1.ob j).shift N /\ C2.β (N + j) = C1.β j) (bor : Bool) (hS : ∀ fr b, (bor = true -> fr = true) -> C1.S fr b -> C2.S fr b)
 {c : AV} {u : Value} (h : Br C1 c u) (hc : bor = true -> c.cln = true) : Br C2 (c.shift N) u := by
 have hT : ∀ fr, (bor = true -> fr = true) -> ∀ t u, Do C1.h (C1.S fr) t u -> Do C2.h (C2.S fr) t u := fun fr hf t u h => by
  rw [hh]
  exact h.keep (fun _ _ => rfl) fun b => hS fr b hf
 induction h with
 | any u => exact .any u
 | lit v => exact .lit v
 | nil k A => exact .nil k A
 | imm fr k es u h => exact .imm fr k es u (hT fr hc _ _ h)
 | own id n u h =>
  obtain ⟨h0, ty, k, fr, fz, es, h1, h2, h3⟩ := h
  obtain ⟨e1, e2⟩ := ho id (by rw [h1]; simp)
  exact .own _ _ _ ⟨h0, ty, k, fr, fz, es, by rw [e1, h1]; rfl, h2, fun e => by
   have := h3 e
   rw [e2, hh]; exact this⟩
 | sub id n lo m u h =>
  obtain ⟨h0, ty, k, fr, fz, es, h1, h2, h3⟩ := h
  obtain ⟨e1, e2⟩ := ho id (by rw [h1]; simp)
  exact .sub _ _ _ _ _ ⟨h0, ty, k, fr, fz, es, by rw [e1, h1]; rfl, h2, fun e => by
   have := h3 e
   rw [e2]; exact this⟩
 | ptr id off u h =>
  obtain ⟨ty, cs, b, h1, h2, h3⟩ := h
  obtain ⟨e1, e2⟩ := ho id (by rw [h1]; simp)
  exact .ptr _ _ _ ⟨ty, _, b, by rw [e1, h1]; rfl, by rw [e2]; exact h2, h3⟩
 | bsl id n u h =>
  obtain ⟨ty, cs, b, c, h1, h2, h3⟩ := h
  obtain ⟨e1, e2⟩ := ho id (by rw [h1]; simp)
  exact .bsl _ _ _ ⟨ty, _, b, c, by rw [e1, h1]; rfl, by rw [e2]; exact h2, h3⟩
 | rptr id n i off u h =>
  obtain ⟨h0, ty, k, fr, fz, es, h1, h2, h3⟩ := h
  obtain ⟨e1, e2⟩ := ho id (by rw [h1]; simp)
  exact .rptr _ _ _ _ _ ⟨h0, ty, k, fr, fz, es, by rw [e1, h1]; rfl, h2, fun e => by
   have := h3 e
   rw [e2]; exact this⟩
 | iptr fr cs off b o cur ty fz us h1 h2 h3 =>
  exact .iptr fr cs off b o cur ty fz us (by rw [hh]; exact h1) (hS fr b hc h2) fun j x hx => ⟨(h3 j x hx).1, hT fr hc _ _ (h3 j x hx).2⟩
 | agg cs us h1 h2 ih =>
  refine .agg _ _ (by rw [Iz]; exact h1) fun i c u hc' hu => ?_
  rw [Lb] at hc'
  cases hx : cs[i]? with
  | none => rw [hx] at hc'; cases hc'
  | some x =>
   rw [hx] at hc'
   simp only [Ai, Option.some.injEq] at hc'
   subst hc'
   exact ih i x u hx hu fun e => Ko (by have := hc e; simpa [AV.cln] using this) hx
 | tup cs us h1 h2 ih =>
  refine .tup _ _ (by rw [Iz]; exact h1) fun i c u hc' hu => ?_
  rw [Lb] at hc'
  cases hx : cs[i]? with
  | none => rw [hx] at hc'; cases hc'
  | some x =>
   rw [hx] at hc'
   simp only [Ai, Option.some.injEq] at hc'
   subst hc'
   exact ih i x u hx hu fun e => Ko (by have := hc e; simpa [AV.cln] using this) hx
 | fn f cs us h1 h2 ih =>
  refine .fn f _ _ (by rw [Iz]; exact h1) fun i c u hc' hu => ?_
  rw [Lb] at hc'
  cases hx : cs[i]? with
  | none => rw [hx] at hc'; cases hc'
  | some x =>
   rw [hx] at hc'
   simp only [Ai, Option.some.injEq] at hc'
   subst hc'
   exact ih i x u hx hu fun e => Ko (by have := hc e; simpa [AV.cln] using this) hx
 | gd t v u h1 h2 ih => exact .gd t _ u (fun e => ih e fun e' => by have := hc e'; simpa [AV.cln] using this) h2
theorem Hi.back {C1 C2 : VC} {N : Nat} (hh : C2.h = C1.h) (ho : ∀ j, C1.ob j ≠ .gone -> C2.ob (N + j) = (C1.ob j).shift N /\ C2.β (N + j) = C1.β j) (bor : Bool) (hS : ∀ fr b, (bor = true -> fr = true) -> C1.S fr b -> C2.S fr b)
 {j : Nat} {o : Ob} (hj : C1.ob j = o) (h : Hi C1 j o) (hc : bor = true -> o.cln = true) : Hi C2 (N + j) (o.shift N) := by
 cases o with
 | gone => trivial
 | box ty cs =>
  obtain ⟨e1, e2⟩ := ho j (by rw [hj]; simp)
  obtain ⟨b, cur, h1, h2, h3, h4⟩ := h
  refine ⟨b, cur, by rw [e2]; exact h1, by rw [hh]; exact h2, by rw [Iz]; exact h3, fun i c u hc' hu => ?_⟩
  rw [Lb] at hc'
  cases hx : cs[i]? with
  | none => rw [hx] at hc'; cases hc'
  | some x =>
   rw [hx] at hc'
   simp only [Ai, Option.some.injEq] at hc'
   subst hc'
   exact ⟨Br.back hh ho bor hS (h4 i x u hx hu).1 fun e => Ko (hc e) hx, (h4 i x u hx hu).2⟩
 | row ty k fr fz es =>
  obtain ⟨e1, e2⟩ := ho j (by rw [hj]; simp)
  obtain ⟨h1, h2⟩ := h
  refine ⟨h1, ?_⟩
  rw [e2]
  cases hb : C1.β j with
  | none => rw [hb] at h2; exact h2
  | some b =>
   rw [hb] at h2
   obtain ⟨cur, c, g1, g2, g3, g4, g5⟩ := h2
   refine ⟨cur, c, by rw [hh]; exact g1, g2, g3, g4, fun i e j x he hx => ?_⟩
   obtain ⟨u, q1, q2⟩ := g5 i e j x he hx
   refine ⟨u, q1, ?_⟩
   rw [hh]
   exact q2.keep (fun _ _ => rfl) fun b => hS fr b hc
abbrev PP := B8 Tryz.prog
end
section
variable {P : Program}
def Hr (N n : Nat) : List Ob -> List (Nat × Ob)
 | [] => []
 | o :: os => (N + n, o.shift N) :: Hr N (n + 1) os
theorem Acm (N : Nat) : ∀ (os : List Ob) (n : Nat) (st : St) (i : Nat), (st.sets (Hr N n os)).o i = if N + n <= i /\ i < N + n + os.length then (os.getD (i - (N + n)) .gone).shift N else st.o i
 | [], n, st, i => by simp [Hr, St.sets]; omega
 | o :: os, n, st, i => by
  rw [Hr, St.sets, Acm N os (n + 1), St.set_o]
  simp only [A6]
  by_cases h1 : N + (n + 1) <= i /\ i < N + (n + 1) + os.length
  ·rw [if_pos h1, if_pos (by omega), show i - (N + n) = (i - (N + (n + 1))) + 1 by omega, List.getD_cons_succ]
  rw [if_neg h1]
  by_cases h2 : i = N + n
  ·subst h2
   rw [if_pos rfl, if_pos (by omega)]; simp
  rw [if_neg h2, if_neg (by omega)]
theorem Ag1 (N : Nat) : ∀ (os : List Ob) (n i : Nat), N + n <= i -> i < N + n + os.length -> ∃ p ∈ Hr N n os, p.1 = i
 | [], n, i, h1, h2 => by simp at h2; omega
 | o :: os, n, i, h1, h2 => by
  by_cases e : i = N + n
  ·exact ⟨(N + n, o.shift N), by simp [Hr], e.symm⟩
  obtain ⟨p, h3, h4⟩ := Ag1 N os (n + 1) i (by omega) (by simp at h2; omega)
  exact ⟨p, by simp [Hr, h3], h4⟩
theorem Yz : ∀ (l : List (Nat × Ob)) (st : St), (st.sets l).sl = st.sl
 | [], st => rfl
 | p :: l, st => by rw [St.sets, Yz l]; rfl
theorem Va (d : Option Tmp) (v : AV) : ∀ (l : List (Nat × Ob)) (st : St), (st.put d v).sets l = (st.sets l).put d v
 | [], st => rfl
 | (id, o) :: l, st => by rw [St.sets, St.sets, St.put_set, Va d v l]
def Ao2 (P : Program) (fo : Operand) (args : List Operand) (raw : Operand -> AV) (o : Nat -> Ob) (nid : Nat) (e : AV × List (Nat × Ob)) : Prop :=
 ∃ f caps σr res, (raw fo).sv = .fn f caps /\ B8 P f [] (Hh o (args.map (fun x => (raw x).sv) ++ caps)) σr res /\ Ha o (args.map (fun x => (raw x).sv) ++ caps) /\
  (Ql (args.map (fun x => (raw x).sv) ++ caps) = true -> res.cln = true /\ σr.all Ob.cln = true) /\ e = (res.shift nid, Hr nid 0 σr)
theorem Oi {f : FuncId} (h : Aa9 P f) {us : Array Value} {w : World} : (callFunc f us).run P w = .ok (.enter f us) w := by
 obtain ⟨fn, h1, h2, h3⟩ := h.ex
 have h2' : ¬ fn.body = none := fun e => by rw [e] at h2; cases h2
 have h3' : ¬ fn.name = "runtime.NumGoroutine" := by simpa using h3
 unfold callFunc
 simp [h1, h2', h3']
theorem Ap2 {E : Ent} {β : Nat -> Option Nat} {st : St} {a : Act} {w : World} (r : Rel E β st a w) {o : Oper} {fo : Operand} {args : Array Operand} {ts : Array TypeId} (hop : o.op = .call { callee := .value fo, args := args, argTypes := ts }) {nid : Nat} (hd : ∀ x, o.dst = some x -> x < E.n)
 (hb : ∀ x ∈ o.op.operands, (st.raw x).sb = true) {e : AV × List (Nat × Ob)} (hc : Ao2 P fo args.toList st.raw st.o nid e) (hn : ∀ p ∈ e.2, nid <= p.1 -> st.o p.1 = .gone) {Q : Exit -> Act -> World -> Prop} :
  o.wp P a w (fun a' w' => ∃ β', Rel E β' (st.after o.dst e.1 e.2) a' w') Q := by
 obtain ⟨f, caps, σr, res, hf, hp, hpc, hcl, rfl⟩ := hc
 obtain ⟨hcal, hpure⟩ := hp
 have hev : ∀ x ∈ o.op.operands, Br (E.C β st w) (st.raw x).sv (a.eval x) := fun x hx => (Jl r x).sv.1 (hb x hx)
 rw [hop] at hev
 have hfo := hev fo (by simp [Op.operands, Call.operands])
 rw [hf] at hfo
 generalize hufo : a.eval fo = ufo at hfo
 cases hfo with
 | fn f cs ucs hl hcr =>
 generalize hav : args.toList.map (fun x => (st.raw x).sv) ++ caps = av at hpure hpc hcl
 have hus : ∀ (i : Nat) (c : AV) (u : Value), av[i]? = some c -> (args.map a.eval ++ ucs)[i]? = some u -> Br (E.C β st w) c u := by
  intro i c u hc hu
  rw [<- hav] at hc
  by_cases hi : i < args.size
  ·rw [Au (by simpa using hi), Ap] at hc
   rw [Bk (by simpa using hi), Array.getElem?_map] at hu
   have hx : args[i]? = some args[i] := Al hi
   have hx' : args.toList[i]? = some args[i] := by simp
   rw [hx'] at hc
   rw [hx] at hu
   simp only [Ai, Option.some.injEq] at hc hu
   subst hc hu
   exact hev args[i] (by simp [Op.operands, Call.operands])
  rw [Ao (by simp; omega)] at hc
  rw [Array.getElem?_append_right (by simp; omega)] at hu
  simp only [A2, Array.length_toList] at hc
  simp only [Array.size_map] at hu
  exact hcr _ c u hc hu
 have hlen : av.length = (args.map a.eval ++ ucs).size := by rw [<- hav]; simp [hl]
 let E' : Ent := ⟨w, fun _ => .gone, fun _ => none, fun b => Ql av = true \/ (E.C β st w).S false b, fun b => (E.C β st w).S true b, av.length, [], fun _ => none⟩
 have r0 : Rel E' (fun _ => none) ⟨E8 0 (Hh st.o av), []⟩ ⟨args.map a.eval ++ ucs, []⟩ w := by
  refine ⟨hlen.symm, fun t => ?_, rfl, fun id => trivial, fun i j b hi => absurd rfl hi, fun i b hi => absurd rfl hi, Kp.refl _ _, ⟨(fun id ty cs h => by cases h), (fun id ty k fr fz es h => by cases h)⟩, (fun b o h => by cases h), List.nodup_nil, fun D h => by cases h⟩
  show Br _ (Ce (E8 0 (Hh st.o av)) t) _
  rw [Iq, Nat.sub_zero, Ad, Pq]
  cases hx : av[t]? with
  | none => exact .any _
  | some x =>
   have ht : t < (args.map a.eval ++ ucs).size := by rw [<- hlen]; exact (Ab.1 hx).1
   rw [Av, Al ht]
   exact Br.pass r (C0 := E'.C (fun _ => none) ⟨E8 0 (Hh st.o av), []⟩ w) rfl (fun b ⟨id, h, _⟩ => by cases h) rfl (Ql av) (fun b h => h) (fun b h => h) (hus t x _ hx (Al ht)) (Gf hpc hx) fun e => Sj e hx
 have hcall := hpure E' (fun _ => none) _ (by show av.length = (Hh st.o av).length; rw [Kk]) (by funext i; simp [E', St.o]) rfl r0
 unfold Oper.wp
 have hrun : (execOp a.eval o).run P w = .ok (.enter f (args.map a.eval ++ ucs)) w := by
  obtain ⟨dst, op, ty, pos, af, gd⟩ := o
  simp only at hop
  subst hop
  simp only [execOp, resolve, hufo, Deferred.ofValue, Sem.run_bind, Sem.run_pure, Result.andThen_ok, invoke, Array.empty_append]
  exact Oi hcal
 rw [hrun]
 refine hcall.mono ?_
 rintro e w' ⟨v, β1, rfl, r1⟩
 show ∃ β', Rel E β' _ _ _
 have hlt1 : ∀ i b, (St.mk [(0, res)] σr).o i ≠ .gone -> β1 i = some b -> w.heap.size <= b /\ b < w'.heap.size := fun i b hi hb => by
  have := r1.rng i b hi hb
  refine ⟨?_, this.1⟩
  rcases this.2 with h | ⟨id, h, _⟩
  ·exact h
  exact absurd rfl h
 have hkeep : ∀ b, b < w.heap.size -> w'.heap[b]? = w.heap[b]? := fun b hb => r1.kp.block b hb fun ⟨id, h, _⟩ => absurd rfl h
 have hσ : ∀ i, (St.mk [(0, res)] σr).o i = σr.getD i .gone := fun i => rfl
 let β' : Nat -> Option Nat := fun i => if nid <= i /\ i < nid + σr.length then β1 (i - nid) else β i
 let st' : St := st.sets (Hr nid 0 σr)
 have ho' : ∀ i, st'.o i = if nid <= i /\ i < nid + σr.length then (σr.getD (i - nid) .gone).shift nid else st.o i := fun i => by
  have := Acm nid σr 0 st i
  simpa using this
 have hold : ∀ i, st.o i ≠ .gone -> ¬ (nid <= i /\ i < nid + σr.length) := fun i hi h => hi (by
  obtain ⟨q, hq1, hq2⟩ := Ag1 nid σr 0 i (by omega) (by omega)
  have := hn q hq1 (by omega)
  rw [hq2] at this
  exact this)
 have hshift : ∀ (o : Ob), o.shift nid ≠ .gone <-> o ≠ .gone := fun o => by cases o <;> simp [Ob.shift]
 have hnew : ∀ j, (St.mk [(0, res)] σr).o j ≠ .gone -> st'.o (nid + j) = ((St.mk [(0, res)] σr).o j).shift nid /\ β' (nid + j) = β1 j := fun j hj => by
  have hjl : j < σr.length := by
   apply Classical.byContradiction
   intro h
   exact hj (by rw [hσ, Ad, Ar (by omega)]; rfl)
  refine ⟨by rw [ho', if_pos (by omega), hσ]; congr 2; omega, ?_⟩
  show (if _ then _ else _) = _
  rw [if_pos (by omega)]
  congr 1; omega
 have s : Ks (E.C β st w) (E.C β' st' w') := by
  refine ⟨rfl, fun _ h => h, fun _ h => h, fun _ h => h, r1.kp.size, ?_, fun b hb _ => hkeep b hb, ?_, ?_⟩
  ·rintro b hb ⟨i, h1, h2⟩
   have hb : b < w.heap.size := hb
   have h1 : β' i = some b := h1
   have h2 : (st'.o i).live := h2
   by_cases hi : nid <= i /\ i < nid + σr.length
   ·have h1 : (if _ then _ else _) = _ := h1
    rw [if_pos hi] at h1
    have hng : (St.mk [(0, res)] σr).o (i - nid) ≠ .gone := fun e => by
     rw [ho', if_pos hi, <- hσ, e] at h2
     exact h2
    have := hlt1 _ b hng h1
    omega
   have h1 : (if _ then _ else _) = _ := h1
   rw [if_neg hi] at h1
   rw [ho', if_neg hi] at h2
   exact ⟨i, h1, h2⟩
  ·intro i ty cs h
   have h : st.o i = _ := h
   have hi := hold i (by rw [h]; simp)
   refine ⟨⟨cs, ?_⟩, if_neg hi⟩
   show st'.o i = _
   rw [ho', if_neg hi]; exact h
  intro i ty k fr fz es h
  have h : st.o i = _ := h
  have hi := hold i (by rw [h]; simp)
  refine ⟨fr, fz, es, ?_, Aj _, fun _ => ⟨if_neg hi, fun b cur hb hc => ⟨cur, ?_, rfl⟩⟩⟩
  ·show st'.o i = _
   rw [ho', if_neg hi]; exact h
  exact (hkeep b (r.rng i b (by rw [h]; simp) hb).1).trans hc
 have hS : ∀ fr b, (Ql av = true -> fr = true) -> (E'.C β1 ⟨[(0, res)], σr⟩ w').S fr b -> (E.C β' st' w').S fr b := by
  intro fr b hf hs
  by_cases hb : b < w.heap.size
  ·obtain ⟨h1, h2, h3⟩ := hs
   have g3 : w.heap.size <= b \/ E'.M b \/ (E'.im b /\ (fr = true -> E'.fr b)) := h3
   rcases g3 with g3 | ⟨id, g3, _⟩ | ⟨g3, g4⟩
   ·omega
   ·exact absurd rfl g3
   cases fr with
   | true => exact s.S (g4 rfl)
   | false =>
    rcases g3 with g5 | g5
    ·have := hf g5; cases this
    exact s.S g5
  obtain ⟨h1, h2, h3⟩ := hs
  refine ⟨h1, ?_, .inl ?_⟩
  ·rintro ⟨i, g1, g2⟩
   have g1 : β' i = some b := g1
   have g2 : (st'.o i).live := g2
   by_cases hi : nid <= i /\ i < nid + σr.length
   ·have g1 : (if _ then _ else _) = _ := g1
    rw [if_pos hi] at g1
    rw [ho', if_pos hi] at g2
    refine h2 ⟨i - nid, g1, ?_⟩
    show ((St.mk [(0, res)] σr).o (i - nid)).live
    rw [hσ]
    cases hq : σr.getD (i - nid) .gone with
    | gone => rw [hq] at g2; exact g2
    | box ty cs => trivial
    | row ty k fr fz es => rw [hq] at g2; exact g2
   have g1 : (if _ then _ else _) = _ := g1
   rw [if_neg hi] at g1
   rw [ho', if_neg hi] at g2
   have := (r.rng i b (fun e => by rw [e] at g2; exact g2) g1).1
   exact hb this
  have := r.kp.size
  show E.w0.heap.size <= b
  omega
 have r2 : Rel E β' st' a w' := by
  refine r.move s (Yz _ _) (fun i => ?_) ?_ ?_ ?_
  ·by_cases hi : nid <= i /\ i < nid + σr.length
   ·have e : i = nid + (i - nid) := by omega
    rw [e]
    have hr := r1.ob (i - nid)
    by_cases hg : (St.mk [(0, res)] σr).o (i - nid) = .gone
    ·rw [ho', if_pos (by omega), show nid + (i - nid) - nid = i - nid by omega, <- hσ, hg]; trivial
    rw [(hnew _ hg).1]
    refine Hi.back (C1 := E'.C β1 ⟨[(0, res)], σr⟩ w') (C2 := E.C β' st' w') rfl hnew (Ql av) hS rfl hr fun hb => ?_
    have hlt : i - nid < σr.length := by omega
    have := (hcl hb).2
    rw [Am] at this
    rw [hσ, Ad, Aa hlt]
    exact this _ (List.getElem_mem hlt)
   rw [ho', if_neg hi]
   by_cases hg : st.o i = .gone
   ·rw [hg]; trivial
   exact (r.ob i).step s (if_neg hi) fun b hb => hkeep b (r.rng i b hg hb).1
  ·intro i j b hi hj h1 h2
   have h1 : (if _ then _ else _) = _ := h1
   have h2 : (if _ then _ else _) = _ := h2
   rw [ho'] at hi hj
   by_cases ci : nid <= i /\ i < nid + σr.length
   ·rw [if_pos ci] at h1 hi
    rw [hshift] at hi
    by_cases cj : nid <= j /\ j < nid + σr.length
    ·rw [if_pos cj] at h2 hj
     rw [hshift] at hj
     have := r1.inj _ _ b hi hj h1 h2
     omega
    rw [if_neg cj] at h2 hj
    have := (r.rng j b hj h2).1
    have := (hlt1 _ b hi h1).1
    omega
   rw [if_neg ci] at h1 hi
   by_cases cj : nid <= j /\ j < nid + σr.length
   ·rw [if_pos cj] at h2 hj
    rw [hshift] at hj
    have := (r.rng i b hi h1).1
    have := (hlt1 _ b hj h2).1
    omega
   rw [if_neg cj] at h2 hj
   exact r.inj i j b hi hj h1 h2
  ·intro i b hi h1
   have h1 : (if _ then _ else _) = _ := h1
   rw [ho'] at hi
   have hsz := r.kp.size
   by_cases ci : nid <= i /\ i < nid + σr.length
   ·rw [if_pos ci] at h1 hi
    rw [hshift] at hi
    have := hlt1 _ b hi h1
    exact ⟨this.2, .inl (by omega)⟩
   rw [if_neg ci] at h1 hi
   have := r.rng i b hi h1
   have h3 := r1.kp.size
   have h3 : w.heap.size <= w'.heap.size := h3
   exact ⟨by omega, this.2⟩
  have h3 := r1.kp.size
  have h3 : w.heap.size <= w'.heap.size := h3
  have h4 := r.kp.size
  exact ⟨r1.kp.os.trans r.kp.os, r1.kp.tape.trans r.kp.tape, r1.kp.output.trans r.kp.output, by omega, fun b hb hm => (hkeep b (by omega)).trans (r.kp.block b hb hm)⟩
 refine ⟨β', ?_⟩
 show Rel E β' ((st.put o.dst _).sets _) _ w'
 rw [Va]
 refine r2.put ?_ o.dst hd
 exact Br.back (C1 := E'.C β1 ⟨[(0, res)], σr⟩ w') (C2 := E.C β' st' w') rfl hnew (Ql av) hS (r1.sl 0) fun hb => (hcl hb).1
end
end Go.Proofs.YtkkimgjinbaemaaGreat
