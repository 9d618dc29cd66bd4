/- The walk. -/
import Derived.Test.YtkkimgjinbaemaaGreatKac
namespace Go.Proofs.YtkkimgjinbaemaaGreat
open Go.RowKit
set_option linter.unusedVariables false
set_option linter.unusedSimpArgs false
set_option maxRecDepth 100000
set_option maxHeartbeats 4000000
section
variable {P : Program}
def idx (id : Nat) : List Nat -> Nat -> Option Nat
 | [], _ => none
 | x :: xs, n => if x = id then some n else idx id xs (n + 1)
theorem X4 {id : Nat} : ∀ {l : List Nat} {n j : Nat}, idx id l n = some j -> n <= j /\ l[j - n]? = some id
 | [], n, j, h => by cases h
 | x :: xs, n, j, h => by
  unfold idx at h
  split at h
  ·rename_i e; injection h with h; subst h; exact ⟨Aj _, by simp [e]⟩
  obtain ⟨h1, h2⟩ := X4 h
  exact ⟨by omega, by rw [show j - n = (j - (n + 1)) + 1 by omega, Bb]; exact h2⟩
def Sim : Ob -> Ob -> Prop
 | .gone, _ => True
 | .box ty _, o => ∃ cs, o = .box ty cs
 | .row ty k _ _ es, o => ∃ fr fz, o = .row ty k fr fz es
mutual
def AV.passR (o : Nat -> Ob) (ρ : Nat -> Option Nat) : AV -> AV
 | .own id n => match ρ id with | some j => .own j n | none => .imm false (Q8 (o id)) (Kj (o id))
 | .sub id n lo m => match ρ id with | some j => .sub j n lo m | none => .imm false (Q8 (o id)) (((Kj (o id)).drop lo).take m)
 | .ptr id off => match ρ id with | some j => .ptr j off | none => .any
 | .rptr id n i off => match ρ id with | some j => .rptr j n i off | none => .any
 | .bsl id n => match ρ id with | some j => .bsl j n | none => .any
 | .agg cs => .agg (Gu o ρ cs)
 | .tup cs => .tup (Gu o ρ cs)
 | .fn f cs => .fn f (Gu o ρ cs)
 | .lit v => .lit v
 | .nil k => .nil k
 | .imm fr k es => .imm fr k es
 | .iptr fr cs off => .iptr fr cs off
 | _ => .any
def Gu (o : Nat -> Ob) (ρ : Nat -> Option Nat) : List AV -> List AV
 | [] => []
 | c :: cs => c.passR o ρ :: Gu o ρ cs
end
mutual
def AV.borR (ρ : Nat -> Option Nat) : AV -> Bool
 | .own id _ => (ρ id).isNone
 | .sub id _ _ _ => (ρ id).isNone
 | .agg cs => R4 ρ cs
 | .tup cs => R4 ρ cs
 | .fn _ cs => R4 ρ cs
 | _ => false
def R4 (ρ : Nat -> Option Nat) : List AV -> Bool
 | [] => false
 | c :: cs => c.borR ρ || R4 ρ cs
end
theorem Ni (o : Nat -> Ob) (ρ : Nat -> Option Nat) : ∀ (cs : List AV) (i : Nat), (Gu o ρ cs)[i]? = (cs[i]?).map (AV.passR o ρ)
 | [], i => by simp [Gu]
 | c :: cs, 0 => by simp [Gu]
 | c :: cs, i + 1 => by simp [Gu, Ni o ρ cs i]
theorem Jr (o : Nat -> Ob) (ρ : Nat -> Option Nat) : ∀ (cs : List AV), (Gu o ρ cs).length = cs.length
 | [] => rfl
 | c :: cs => by simp [Gu, Jr o ρ cs]
theorem O9 {ρ : Nat -> Option Nat} : ∀ {cs : List AV} (h : R4 ρ cs = false) {i : Nat} {c : AV}, cs[i]? = some c -> c.borR ρ = false
 | [], _, i, c, h => by simp at h
 | d :: cs, h', 0, c, h => by simp at h; subst h; simp only [R4, Bool.or_eq_false_iff] at h'; exact h'.1
 | d :: cs, h', i + 1, c, h => by simp at h; simp only [R4, Bool.or_eq_false_iff] at h'; exact O9 h'.2 h
def Ob.passR (o : Nat -> Ob) (ρ : Nat -> Option Nat) : Ob -> Ob
 | .box ty cs => .box ty (Gu o ρ cs)
 | x => x
def Ob.passC (o : Nat -> Ob) : Ob -> Prop
 | .box _ cs => I6 o cs
 | _ => True
def Ob.borR (ρ : Nat -> Option Nat) : Ob -> Bool
 | .box _ cs => R4 ρ cs
 | _ => false
theorem Anb {E : Ent} {β : Nat -> Option Nat} {st : St} {a : Act} {w : World} (r : Rel E β st a w) {C0 : VC} (hh : C0.h = w.heap) {f : Bool} (hS : ∀ fr b, (E.C β st w).S fr b -> C0.S f b) {id : Nat} (hL : ∀ b, β id = some b -> C0.S f b)
 {ty k : Nat} {fr fz : Bool} {es : List (List T)} (ho : st.o id = .row ty k fr fz es) {A : Option Addr} {c lo m : Nat} (hlo : lo + m <= es.length) (hc : m <= c) (hA : m = 0 \/ ∃ b, β id = some b /\ A = some ⟨b, lo * k, none⟩) :
  F3 C0.h (C0.S f) (.sl k ((es.drop lo).take m)) (.slice A m c) := by
 obtain ⟨hk, hel, hcell⟩ := r.row_cells ho
 have hlen : ((es.drop lo).take m).length = m := by rw [A5, Bc]; omega
 rcases hA with rfl | ⟨b, hb, rfl⟩
 ·rw [List.take_zero]; exact .nil _ _ _
 rcases hcell with ⟨hb', _⟩ | ⟨b', cur, c', hb', g1, g2, g3, g4, g5⟩
 ·rw [hb'] at hb; cases hb
 rw [hb'] at hb
 injection hb with hb
 subst hb
 have hget : ∀ (i : Nat) (e : List T), ((es.drop lo).take m)[i]? = some e -> es[lo + i]? = some e := fun i e he => by
  have hi : i < m := by rw [<- hlen]; exact (Ab.1 he).1
  rw [Ag hi, Bd] at he
  exact he
 have hg : ∀ (i : Nat) (e : List T) (j : Nat) (x : T), ((es.drop lo).take m)[i]? = some e -> e[j]? = some x -> cur[lo * k + i * k + j]? = some ((cur[lo * k + i * k + j]?).getD undef) /\ F3 C0.h (C0.S f) x ((cur[lo * k + i * k + j]?).getD undef) := fun i e j x he hx => by
  obtain ⟨u, q1, q2⟩ := g5 (lo + i) e j x (hget i e he) hx
  have e1 : cur[lo * k + i * k + j]? = some u := by rw [<- q1, Be]
  rw [e1]
  refine ⟨rfl, ?_⟩
  rw [hh]
  exact q2.keep (fun _ _ => rfl) (hS fr)
 have hs := F3.sl (h := C0.h) (S := C0.S f) k ((es.drop lo).take m) b' (lo * k) c cur ty (0, 0) (fun i j => (cur[lo * k + i * k + j]?).getD undef) (by rw [hh]; exact g1) (hL b' hb') (by rw [hlen]; exact hc) (fun i e he => hel _ e (hget i e he)) (fun i e j x he hx => (hg i e j x he hx).1) fun i e j x he hx => (hg i e j x he hx).2
 rw [hlen] at hs
 exact hs
theorem Dv.passR {E : Ent} {β : Nat -> Option Nat} {st : St} {a : Act} {w : World} (r : Rel E β st a w) {C0 : VC} {ρ : Nat -> Option Nat} (hh : C0.h = w.heap) (hS : ∀ fr b, (E.C β st w).S fr b -> C0.S fr b) (bor : Bool) (hL : bor = true -> ∀ id b, ρ id = none -> st.o id ≠ .gone -> β id = some b -> C0.S false b)
 (ho : ∀ id j, ρ id = some j -> Sim (st.o id) (C0.ob j) /\ C0.β j = β id) {c : AV} {u : Value} (h : Dv (E.C β st w) c u) (hc : c.passC st.o) (hb : bor = false -> c.borR ρ = false) : Dv C0 (c.passR st.o ρ) u := by
 have hT : ∀ fr t u, F3 w.heap ((E.C β st w).S fr) t u -> F3 C0.h (C0.S fr) t u := fun fr t u h => by
  rw [hh]
  exact h.keep (fun _ _ => rfl) (hS fr)
 have hSf : ∀ fr b, (E.C β st w).S fr b -> C0.S false b := fun fr b h => VC.S_weak (hS fr b h)
 induction h with
 | any u => exact .any u
 | lit v => exact .lit v
 | nil k A => exact .nil k A
 | imm fr k es u h => exact .imm fr k es u (hT fr _ _ h)
 | own id n u h =>
  simp only [AV.passR]
  cases hr : ρ id with
  | none =>
   have hbt : bor = true := by
    cases bor
    ·have := hb rfl; simp [AV.borR, hr] at this
    rfl
   simp only
   obtain ⟨h1, h3⟩ := hc
   obtain ⟨ty, fz, hrow⟩ := Js h1
   refine .imm _ _ _ _ ?_
   rcases r.own_val hrow h h3 with ⟨_, he, A, rfl⟩ | ⟨b, cur, c, hb', g1, g2, g3, g4, rfl, g5⟩
   ·rw [he]; exact .nil _ _ _
   have := Anb r hh hSf (fun b h => hL hbt id b hr (by rw [hrow]; simp) h) hrow (A := some ⟨b, 0, none⟩) (c := c) (lo := 0) (m := (Kj (st.o id)).length) (by omega) g3 (.inr ⟨b, hb', by simp⟩)
   rwa [List.drop_zero, List.take_length] at this
  | some j =>
   obtain ⟨h0, ty, k, fr, fz, es, h1, h2, h3⟩ := h
   obtain ⟨e1, e2⟩ := ho id j hr
   have h1 : st.o id = _ := h1
   rw [h1] at e1
   obtain ⟨fr', fz', e1⟩ := e1
   exact .own _ _ _ ⟨h0, ty, k, fr', fz', es, e1, h2, fun e => by
    have := h3 e
    rw [e2, hh]; exact this⟩
 | sub id n lo m u h =>
  simp only [AV.passR]
  cases hr : ρ id with
  | none =>
   have hbt : bor = true := by
    cases bor
    ·have := hb rfl; simp [AV.borR, hr] at this
    rfl
   simp only
   obtain ⟨h1, h3⟩ := hc
   obtain ⟨ty, fz, hrow⟩ := Js h1
   obtain ⟨_, ty', k', fr', fz', es', ho', _, h5⟩ := h
   have ho' : st.o id = _ := ho'
   rw [hrow] at ho'
   injection ho' with e1 e2 e3 e4 e5
   subst e1 e2 e3 e4 e5
   obtain ⟨h6, A, c, rfl, h7, _, h8⟩ := h5 h3
   exact .imm _ _ _ _ (Anb r hh hSf (fun b h => hL hbt id b hr (by rw [hrow]; simp) h) hrow h6 h7 (h8.elim (fun e => .inl (by omega)) .inr))
  | some j =>
   obtain ⟨h0, ty, k, fr, fz, es, h1, h2, h3⟩ := h
   obtain ⟨e1, e2⟩ := ho id j hr
   have h1 : st.o id = _ := h1
   rw [h1] at e1
   obtain ⟨fr', fz', e1⟩ := e1
   exact .sub _ _ _ _ _ ⟨h0, ty, k, fr', fz', es, e1, h2, fun e => by
    have := h3 e
    rw [e2]; exact this⟩
 | bsl id n u h =>
  simp only [AV.passR]
  cases hr : ρ id with
  | none => exact .any u
  | some j =>
   obtain ⟨ty, cs, b, c, h1, h2, h3⟩ := h
   obtain ⟨e1, e2⟩ := ho id j hr
   have h1 : st.o id = _ := h1
   rw [h1] at e1
   obtain ⟨cs', e1⟩ := e1
   exact .bsl _ _ _ ⟨ty, cs', b, c, e1, by rw [e2]; exact h2, h3⟩
 | ptr id off u h =>
  simp only [AV.passR]
  cases hr : ρ id with
  | none => exact .any u
  | some j =>
   obtain ⟨ty, cs, b, h1, h2, h3⟩ := h
   obtain ⟨e1, e2⟩ := ho id j hr
   have h1 : st.o id = _ := h1
   rw [h1] at e1
   obtain ⟨cs', e1⟩ := e1
   exact .ptr _ _ _ ⟨ty, cs', b, e1, by rw [e2]; exact h2, h3⟩
 | rptr id n i off u h =>
  simp only [AV.passR]
  cases hr : ρ id with
  | none => exact .any u
  | some j =>
   obtain ⟨h0, ty, k, fr, fz, es, h1, h2, h3⟩ := h
   obtain ⟨e1, e2⟩ := ho id j hr
   have h1 : st.o id = _ := h1
   rw [h1] at e1
   obtain ⟨fr', fz', e1⟩ := e1
   exact .rptr _ _ _ _ _ ⟨h0, ty, k, fr', fz', es, e1, h2, fun e => by
    have := h3 e
    rw [e2]; exact this⟩
 | iptr fr cs off b o cur ty fz us h1 h2 h3 =>
  exact .iptr fr cs off b o cur ty fz us (by rw [hh]; exact h1) (hS fr b h2) fun j x hx => ⟨(h3 j x hx).1, hT fr _ _ (h3 j x hx).2⟩
 | agg cs us h1 h2 ih =>
  refine .agg _ _ (by rw [Jr]; exact h1) fun i c u hc' hu => ?_
  rw [Ni] at hc'
  cases hx : cs[i]? with
  | none => rw [hx] at hc'; cases hc'
  | some x =>
   rw [hx] at hc'
   simp only [Ai, Option.some.injEq] at hc'
   subst hc'
   exact ih i x u hx hu (Iw hc hx) fun e => O9 (by have := hb e; simpa [AV.borR] using this) hx
 | tup cs us h1 h2 ih =>
  refine .tup _ _ (by rw [Jr]; exact h1) fun i c u hc' hu => ?_
  rw [Ni] at hc'
  cases hx : cs[i]? with
  | none => rw [hx] at hc'; cases hc'
  | some x =>
   rw [hx] at hc'
   simp only [Ai, Option.some.injEq] at hc'
   subst hc'
   exact ih i x u hx hu (Iw hc hx) fun e => O9 (by have := hb e; simpa [AV.borR] using this) hx
 | fn f cs us h1 h2 ih =>
  refine .fn f _ _ (by rw [Jr]; exact h1) fun i c u hc' hu => ?_
  rw [Ni] at hc'
  cases hx : cs[i]? with
  | none => rw [hx] at hc'; cases hc'
  | some x =>
   rw [hx] at hc'
   simp only [Ai, Option.some.injEq] at hc'
   subst hc'
   exact ih i x u hx hu (Iw hc hx) fun e => O9 (by have := hb e; simpa [AV.borR] using this) hx
 | gd t v u h1 h2 ih => exact .any u
mutual
def AV.bk (B : Nat -> Nat) : AV -> AV
 | .own id n => .own (B id) n
 | .sub id n lo m => .sub (B id) n lo m
 | .ptr id off => .ptr (B id) off
 | .rptr id n i off => .rptr (B id) n i off
 | .bsl id n => .bsl (B id) n
 | .agg cs => .agg (bkL B cs)
 | .tup cs => .tup (bkL B cs)
 | .fn f cs => .fn f (bkL B cs)
 | .gd t v => .gd t (v.bk B)
 | .any => .any
 | .lit v => .lit v
 | .nil k => .nil k
 | .imm fr k es => .imm fr k es
 | .iptr fr cs off => .iptr fr cs off
def bkL (B : Nat -> Nat) : List AV -> List AV
 | [] => []
 | c :: cs => c.bk B :: bkL B cs
end
theorem X7 (B : Nat -> Nat) : ∀ (cs : List AV) (i : Nat), (bkL B cs)[i]? = (cs[i]?).map (AV.bk B)
 | [], i => by simp [bkL]
 | c :: cs, 0 => by simp [bkL]
 | c :: cs, i + 1 => by simp [bkL, X7 B cs i]
theorem Pz (B : Nat -> Nat) : ∀ (cs : List AV), (bkL B cs).length = cs.length
 | [] => rfl
 | c :: cs => by simp [bkL, Pz B cs]
def Ob.bk (B : Nat -> Nat) : Ob -> Ob
 | .box ty cs => .box ty (bkL B cs)
 | o => o
theorem Dv.bk {C1 C2 : VC} {B : Nat -> Nat} (hh : C2.h = C1.h) (ho : ∀ j, C1.ob j ≠ .gone -> C2.ob (B j) = (C1.ob j).bk B /\ C2.β (B j) = C1.β j) (bor : Bool) (hS : ∀ fr b, (bor = true -> fr = true) -> C1.S fr b -> C2.S fr b)
 {c : AV} {u : Value} (h : Dv C1 c u) (hc : bor = true -> c.cln = true) : Dv C2 (c.bk B) u := by
 have hT : ∀ fr, (bor = true -> fr = true) -> ∀ t u, F3 C1.h (C1.S fr) t u -> F3 C2.h (C2.S fr) t u := fun fr hf t u h => by
  rw [hh]
  exact h.keep (fun _ _ => rfl) fun b => hS fr b hf
 induction h with
 | any u => exact .any u
 | lit v => exact .lit v
 | nil k A => exact .nil k A
 | imm fr k es u h => exact .imm fr k es u (hT fr hc _ _ h)
 | own id n u h =>
  obtain ⟨h0, ty, k, fr, fz, es, h1, h2, h3⟩ := h
  obtain ⟨e1, e2⟩ := ho id (by rw [h1]; simp)
  exact .own _ _ _ ⟨h0, ty, k, fr, fz, es, by rw [e1, h1]; rfl, h2, fun e => by
   have := h3 e
   rw [e2, hh]; exact this⟩
 | sub id n lo m u h =>
  obtain ⟨h0, ty, k, fr, fz, es, h1, h2, h3⟩ := h
  obtain ⟨e1, e2⟩ := ho id (by rw [h1]; simp)
  exact .sub _ _ _ _ _ ⟨h0, ty, k, fr, fz, es, by rw [e1, h1]; rfl, h2, fun e => by
   have := h3 e
   rw [e2]; exact this⟩
 | ptr id off u h =>
  obtain ⟨ty, cs, b, h1, h2, h3⟩ := h
  obtain ⟨e1, e2⟩ := ho id (by rw [h1]; simp)
  exact .ptr _ _ _ ⟨ty, _, b, by rw [e1, h1]; rfl, by rw [e2]; exact h2, h3⟩
 | bsl id n u h =>
  obtain ⟨ty, cs, b, c, h1, h2, h3⟩ := h
  obtain ⟨e1, e2⟩ := ho id (by rw [h1]; simp)
  exact .bsl _ _ _ ⟨ty, _, b, c, by rw [e1, h1]; rfl, by rw [e2]; exact h2, h3⟩
 | rptr id n i off u h =>
  obtain ⟨h0, ty, k, fr, fz, es, h1, h2, h3⟩ := h
  obtain ⟨e1, e2⟩ := ho id (by rw [h1]; simp)
  exact .rptr _ _ _ _ _ ⟨h0, ty, k, fr, fz, es, by rw [e1, h1]; rfl, h2, fun e => by
   have := h3 e
   rw [e2]; exact this⟩
 | iptr fr cs off b o cur ty fz us h1 h2 h3 =>
  exact .iptr fr cs off b o cur ty fz us (by rw [hh]; exact h1) (hS fr b hc h2) fun j x hx => ⟨(h3 j x hx).1, hT fr hc _ _ (h3 j x hx).2⟩
 | agg cs us h1 h2 ih =>
  refine .agg _ _ (by rw [Pz]; exact h1) fun i c u hc' hu => ?_
  rw [X7] at hc'
  cases hx : cs[i]? with
  | none => rw [hx] at hc'; cases hc'
  | some x =>
   rw [hx] at hc'
   simp only [Ai, Option.some.injEq] at hc'
   subst hc'
   exact ih i x u hx hu fun e => Mk (by have := hc e; simpa [AV.cln] using this) hx
 | tup cs us h1 h2 ih =>
  refine .tup _ _ (by rw [Pz]; exact h1) fun i c u hc' hu => ?_
  rw [X7] at hc'
  cases hx : cs[i]? with
  | none => rw [hx] at hc'; cases hc'
  | some x =>
   rw [hx] at hc'
   simp only [Ai, Option.some.injEq] at hc'
   subst hc'
   exact ih i x u hx hu fun e => Mk (by have := hc e; simpa [AV.cln] using this) hx
 | fn f cs us h1 h2 ih =>
  refine .fn f _ _ (by rw [Pz]; exact h1) fun i c u hc' hu => ?_
  rw [X7] at hc'
  cases hx : cs[i]? with
  | none => rw [hx] at hc'; cases hc'
  | some x =>
   rw [hx] at hc'
   simp only [Ai, Option.some.injEq] at hc'
   subst hc'
   exact ih i x u hx hu fun e => Mk (by have := hc e; simpa [AV.cln] using this) hx
 | gd t v u h1 h2 ih => exact .gd t _ u (fun e => ih e fun e' => by have := hc e'; simpa [AV.cln] using this) h2
theorem Jo.bk {C1 C2 : VC} {B : Nat -> Nat} (hh : C2.h = C1.h) (ho : ∀ j, C1.ob j ≠ .gone -> C2.ob (B j) = (C1.ob j).bk B /\ C2.β (B j) = C1.β j) (bor : Bool) (hS : ∀ fr b, (bor = true -> fr = true) -> C1.S fr b -> C2.S fr b)
 {j : Nat} {o : Ob} (hj : C1.ob j = o) (h : Jo C1 j o) (hc : bor = true -> o.cln = true) : Jo C2 (B j) (o.bk B) := by
 cases o with
 | gone => trivial
 | box ty cs =>
  obtain ⟨e1, e2⟩ := ho j (by rw [hj]; simp)
  obtain ⟨b, cur, h1, h2, h3, h4⟩ := h
  refine ⟨b, cur, by rw [e2]; exact h1, by rw [hh]; exact h2, by rw [Pz]; exact h3, fun i c u hc' hu => ?_⟩
  rw [X7] at hc'
  cases hx : cs[i]? with
  | none => rw [hx] at hc'; cases hc'
  | some x =>
   rw [hx] at hc'
   simp only [Ai, Option.some.injEq] at hc'
   subst hc'
   exact ⟨Dv.bk hh ho bor hS (h4 i x u hx hu).1 fun e => Mk (hc e) hx, (h4 i x u hx hu).2⟩
 | row ty k fr fz es =>
  obtain ⟨e1, e2⟩ := ho j (by rw [hj]; simp)
  obtain ⟨h1, h2⟩ := h
  refine ⟨h1, ?_⟩
  rw [e2]
  cases hb : C1.β j with
  | none => rw [hb] at h2; exact h2
  | some b =>
   rw [hb] at h2
   obtain ⟨cur, c, g1, g2, g3, g4, g5⟩ := h2
   refine ⟨cur, c, by rw [hh]; exact g1, g2, g3, g4, fun i e j x he hx => ?_⟩
   obtain ⟨u, q1, q2⟩ := g5 i e j x he hx
   refine ⟨u, q1, ?_⟩
   rw [hh]
   exact q2.keep (fun _ _ => rfl) fun b => hS fr b hc
def bkN (sel : List Nat) (nid j : Nat) : Nat := if j < sel.length then sel.getD j 0 else nid + (j - sel.length)
def Ahj (B : Nat -> Nat) : List Nat -> List Ob -> List (Nat × Ob)
 | id :: sel, o :: os => (id, o.bk B) :: Ahj B sel os
 | _, _ => []
def Aex (B : Nat -> Nat) (nid : Nat) : List Ob -> List (Nat × Ob)
 | [] => []
 | o :: os => (nid, o.bk B) :: Aex B (nid + 1) os
theorem Afg (B : Nat -> Nat) : ∀ (os : List Ob) (nid : Nat) (st : St) (i : Nat), (st.sets (Aex B nid os)).o i = if nid <= i /\ i < nid + os.length then (os.getD (i - nid) .gone).bk B else st.o i
 | [], nid, st, i => by simp [Aex, St.sets]; omega
 | o :: os, nid, st, i => by
  rw [Aex, St.sets, Afg B os (nid + 1), St.set_o]
  simp only [A6]
  by_cases h1 : nid + 1 <= i /\ i < nid + 1 + os.length
  ·rw [if_pos h1, if_pos (by omega), show i - nid = (i - (nid + 1)) + 1 by omega, List.getD_cons_succ]
  rw [if_neg h1]
  by_cases h2 : i = nid
  ·subst h2
   rw [if_pos rfl, if_pos (by omega)]; simp
  rw [if_neg h2, if_neg (by omega)]
theorem Anu (B : Nat -> Nat) : ∀ (sel : List Nat) (os : List Ob) (st : St) (i : Nat), sel.Nodup -> sel.length <= os.length -> (st.sets (Ahj B sel os)).o i = match idx i sel 0 with | some j => (os.getD j .gone).bk B | none => st.o i := by
 have key : ∀ (sel : List Nat) (os : List Ob) (st : St) (i n : Nat), sel.Nodup -> sel.length <= os.length -> (st.sets (Ahj B sel os)).o i = match idx i sel n with | some j => (os.getD (j - n) .gone).bk B | none => st.o i := by
  intro sel
  induction sel with
  | nil => intro os st i n _ _; cases os <;> rfl
  | cons x xs ih =>
   intro os st i n hnd hl
   cases os with
   | nil => simp at hl
   | cons o os =>
    obtain ⟨h1, h2⟩ := List.nodup_cons.1 hnd
    have hi := ih os (st.set x (o.bk B)) i (n + 1) h2 (by simpa using hl)
    rw [Ahj, St.sets, hi, show idx i (x :: xs) n = if x = i then some n else idx i xs (n + 1) from rfl]
    by_cases e : x = i
    ·subst e
     rw [if_pos rfl]
     have : idx x xs (n + 1) = none := by
      cases hq : idx x xs (n + 1) with
      | none => rfl
      | some j => exact absurd (Ac (X4 hq).2) h1
     rw [this]
     simp [St.set_o]
    rw [if_neg e]
    cases hq : idx i xs (n + 1) with
    | none => simp only [St.set_o]; rw [if_neg (Ne.symm e)]
    | some j =>
     have := (X4 hq).1
     simp only
     rw [show j - n = (j - (n + 1)) + 1 by omega, List.getD_cons_succ]
 intro sel os st i hnd hl
 exact key sel os st i 0 hnd hl
theorem Aq3 {id : Nat} : ∀ {sel : List Nat} {j : Nat} (n : Nat), sel.Nodup -> sel[j]? = some id -> idx id sel n = some (n + j)
 | x :: xs, 0, n, _, h => by simp at h; subst h; simp [idx]
 | x :: xs, j + 1, n, hnd, h => by
  obtain ⟨h1, h2⟩ := List.nodup_cons.1 hnd
  simp only [Bb] at h
  unfold idx
  rw [if_neg fun e => h1 (by rw [e]; exact Ac h), Aq3 (n + 1) h2 h]
  congr 1; omega
theorem Aj6 (B : Nat -> Nat) : ∀ (sel : List Nat) (os : List Ob), sel.length <= os.length -> ∀ id ∈ sel, ∃ p ∈ Ahj B sel os, p.1 = id
 | [], _, _, id, h => by cases h
 | x :: xs, [], hl, id, h => by simp at hl
 | x :: xs, o :: os, hl, id, h => by
  cases h with
  | head => exact ⟨(x, o.bk B), by simp [Ahj], rfl⟩
  | tail _ h =>
   obtain ⟨p, h1, h2⟩ := Aj6 B xs os (by simpa using hl) id h
   exact ⟨p, List.mem_cons_of_mem _ h1, h2⟩
theorem Ajw (B : Nat -> Nat) : ∀ (os : List Ob) (nid i : Nat), nid <= i -> i < nid + os.length -> ∃ p ∈ Aex B nid os, p.1 = i
 | [], nid, i, h1, h2 => by simp at h2; omega
 | o :: os, nid, i, h1, h2 => by
  by_cases e : i = nid
  ·exact ⟨(nid, o.bk B), by simp [Aex], e.symm⟩
  obtain ⟨p, h3, h4⟩ := Ajw B os (nid + 1) i (by omega) (by simp at h2; omega)
  exact ⟨p, by simp [Aex, h3], h4⟩
theorem Zz : ∀ (l l' : List (Nat × Ob)) (st : St), st.sets (l ++ l') = (st.sets l).sets l'
 | [], l', st => rfl
 | p :: l, l', st => Zz l l' (st.set p.1 p.2)
mutual
def AV.ids : AV -> List Nat
 | .own id _ => [id]
 | .sub id _ _ _ => [id]
 | .ptr id _ => [id]
 | .rptr id _ _ _ => [id]
 | .bsl id _ => [id]
 | .agg cs => Gl cs
 | .tup cs => Gl cs
 | .fn _ cs => Gl cs
 | .gd _ v => v.ids
 | .any => []
 | .lit _ => []
 | .nil _ => []
 | .imm _ _ _ => []
 | .iptr _ _ _ => []
def Gl : List AV -> List Nat
 | [] => []
 | c :: cs => c.ids ++ Gl cs
end
def obI : Ob -> List Nat
 | .box _ cs => Gl cs
 | _ => []
def Ux (o : Nat -> Ob) : List Nat -> List Nat
 | [] => []
 | id :: l => obI (o id) ++ Ux o l
def rdC (o : Nat -> Ob) (l : List Nat) : List Nat := l ++ Ux o l
structure Wb (P : Program) (f : FuncId) (av : List AV) (o : Nat -> Ob) (nid : Nat) (sel : List Nat) (σr : List Ob) (res : AV) : Prop where
  nd : sel.Nodup
  live : ∀ id ∈ sel, (o id).live
  pure : Ei P f (sel.map fun id => (o id).passR o fun id => idx id sel 0) (Gu o (fun id => idx id sel 0) av) σr res
  args : I6 o av
  obs : ∀ id ∈ sel, (o id).passC o
  len : sel.length <= σr.length
  loc : ∀ id ∈ sel, id ∈ rdC o (Gl av) /\ ∀ x ∈ obI (o id), x ∈ rdC o (Gl av)
  cln : (R4 (fun id => idx id sel 0) av || sel.any fun id => (o id).borR fun id => idx id sel 0) = true -> res.cln = true /\ σr.all Ob.cln = true
def Oy (sel : List Nat) (nid : Nat) (σr : List Ob) (res : AV) : AV × List (Nat × Ob) :=
 (res.bk (bkN sel nid), Ahj (bkN sel nid) sel σr ++ Aex (bkN sel nid) nid (σr.drop sel.length))
theorem Arj {E : Ent} {β : Nat -> Option Nat} {st : St} {a : Act} {w : World} (r : Rel E β st a w) {o : Oper} {fo : Operand} {args : Array Operand} {ts : Array TypeId} (hop : o.op = .call { callee := .value fo, args := args, argTypes := ts }) {nid : Nat} (hd : ∀ x, o.dst = some x -> x < E.n)
 (hb : ∀ x ∈ o.op.operands, (st.raw x).sb = true) {f : FuncId} {caps : List AV} {sel : List Nat} {σr : List Ob} {res : AV} (hf : (st.raw fo).sv = .fn f caps) (hx : Wb P f (args.toList.map (fun x => (st.raw x).sv) ++ caps) st.o nid sel σr res)
  (hn : ∀ p ∈ (Oy sel nid σr res).2, nid <= p.1 -> st.o p.1 = .gone) {Q : Exit -> Act -> World -> Prop} :
  o.wp P a w (fun a' w' => ∃ β', Rel E β' (st.after o.dst (Oy sel nid σr res).1 (Oy sel nid σr res).2) a' w') Q := by
 obtain ⟨hnd, hlive, ⟨hcal, hpure⟩, hpc, hpo, hlen, _, hcl⟩ := hx
 have hev : ∀ x ∈ o.op.operands, Dv (E.C β st w) (st.raw x).sv (a.eval x) := fun x hx => (Lm r x).sv.1 (hb x hx)
 rw [hop] at hev
 have hfo := hev fo (by simp [Op.operands, Call.operands])
 rw [hf] at hfo
 generalize hufo : a.eval fo = ufo at hfo
 cases hfo with
 | fn f cs ucs hl hcr =>
 generalize hav : args.toList.map (fun x => (st.raw x).sv) ++ caps = av at hpure hpc hcl
 generalize hρ : (fun id => idx id sel 0) = ρ at hpure hcl
 have hρe : ∀ id, ρ id = idx id sel 0 := fun id => by rw [<- hρ]
 have hρo : ∀ {id j}, ρ id = some j -> sel[j]? = some id := fun {id j} h => by
  rw [hρe] at h
  have := (X4 h).2
  rwa [Nat.sub_zero] at this
 have hρi : ∀ {id j}, sel[j]? = some id -> ρ id = some j := fun {id j} h => by
  rw [hρe, Aq3 0 hnd h, Bm]
 generalize hbor : (R4 ρ av || sel.any fun id => (st.o id).borR ρ) = bor at hcl
 have hus : ∀ (i : Nat) (c : AV) (u : Value), av[i]? = some c -> (args.map a.eval ++ ucs)[i]? = some u -> Dv (E.C β st w) c u := by
  intro i c u hc hu
  rw [<- hav] at hc
  by_cases hi : i < args.size
  ·rw [Au (by simpa using hi), Ap] at hc
   rw [Bk (by simpa using hi), Array.getElem?_map] at hu
   have hx : args[i]? = some args[i] := Al hi
   have hx' : args.toList[i]? = some args[i] := by simp
   rw [hx'] at hc
   rw [hx] at hu
   simp only [Ai, Option.some.injEq] at hc hu
   subst hc hu
   exact hev args[i] (by simp [Op.operands, Call.operands])
  rw [Ao (by simp; omega)] at hc
  rw [Array.getElem?_append_right (by simp; omega)] at hu
  simp only [A2, Array.length_toList] at hc
  simp only [Array.size_map] at hu
  exact hcr _ c u hc hu
 have hlenA : av.length = (args.map a.eval ++ ucs).size := by rw [<- hav]; simp [hl]
 let σa : List Ob := sel.map fun id => (st.o id).passR st.o ρ
 let β0 : Nat -> Option Nat := fun j => (sel[j]?).bind β
 let E' : Ent := ⟨w, (St.mk [] σa).o, β0, fun b => bor = true \/ (E.C β st w).S false b, fun b => (E.C β st w).S true b, av.length, [], fun _ => none⟩
 have ho0 : ∀ j id, sel[j]? = some id -> (St.mk [] σa).o j = (st.o id).passR st.o ρ := fun j id h => by
  show (sel.map _).getD j Ob.gone = _
  rw [Ad, Ap, h]; rfl
 have hng0 : ∀ j, (St.mk [] σa).o j ≠ .gone -> ∃ id, sel[j]? = some id := fun j h => by
  cases hq : sel[j]? with
  | some id => exact ⟨id, rfl⟩
  | none =>
   refine absurd ?_ h
   show (sel.map _).getD j Ob.gone = _
   rw [Ad, Ap, hq]; rfl
 have hβ0 : ∀ j id, sel[j]? = some id -> β0 j = β id := fun j id h => by show (sel[j]?).bind β = _; rw [h]; rfl
 have hngs : ∀ id ∈ sel, st.o id ≠ .gone := fun id h e => by have := hlive id h; rw [e] at this; exact this
 have hM : ∀ b, E'.M b -> ∃ id ∈ sel, β id = some b := fun b ⟨j, h1, h2⟩ => by
  obtain ⟨id, hid⟩ := hng0 j h1
  exact ⟨id, Ac hid, by rw [<- hβ0 j id hid]; exact h2⟩
 have hMi : ∀ id ∈ sel, ∀ b, β id = some b -> E'.M b := fun id h b hb => by
  obtain ⟨j, hj⟩ := A3.1 h
  refine ⟨j, ?_, (hβ0 j id hj).trans hb⟩
  show (St.mk [] σa).o j ≠ .gone
  rw [ho0 j id hj]
  have := hngs id h
  cases hq : st.o id with
  | gone => exact absurd hq this
  | box ty cs => simp [Ob.passR]
  | row ty k fr fz es => simp [Ob.passR]
 have hMl : ∀ b, E'.M b -> (E.C β st w).lives b := fun b h => by
  obtain ⟨id, h1, h2⟩ := hM b h
  exact ⟨id, h2, hlive id h1⟩
 have hl0 : ∀ sl b, (E'.C β0 ⟨sl, σa⟩ w).lives b -> (E.C β st w).lives b := fun sl b ⟨j, h1, h2⟩ => by
  have h2 : ((St.mk [] σa).o j).live := h2
  obtain ⟨id, hid⟩ := hng0 j fun e => by rw [e] at h2; exact h2
  exact ⟨id, (hβ0 j id hid).symm.trans h1, hlive id (Ac hid)⟩
 have hS : ∀ sl fr b, (E.C β st w).S fr b -> (E'.C β0 ⟨sl, σa⟩ w).S fr b := fun sl fr b h => ⟨h.1, fun hl => h.2.1 (hl0 sl b hl), .inr (.inr ⟨.inr (VC.S_weak h), fun e => by rw [e] at h; exact h⟩)⟩
 have hL : ∀ sl, bor = true -> ∀ id b, ρ id = none -> st.o id ≠ .gone -> β id = some b -> (E'.C β0 ⟨sl, σa⟩ w).S false b := fun sl hb id b hr hg hβ => by
  refine ⟨(r.rng id b hg hβ).1, fun ⟨j, h1, h2⟩ => ?_, .inr (.inr ⟨.inl hb, fun e => by cases e⟩)⟩
  have h2 : ((St.mk [] σa).o j).live := h2
  obtain ⟨id', hid⟩ := hng0 j fun e => by rw [e] at h2; exact h2
  have h1 : β id' = some b := (hβ0 j id' hid).symm.trans h1
  have := r.inj id id' b hg (hngs id' (Ac hid)) hβ h1
  subst this
  rw [hρi hid] at hr
  cases hr
 have hsim : ∀ sl id j, ρ id = some j -> Sim (st.o id) ((E'.C β0 ⟨sl, σa⟩ w).ob j) /\ (E'.C β0 ⟨sl, σa⟩ w).β j = β id := fun sl id j h => by
  have h := hρo h
  refine ⟨?_, hβ0 j id h⟩
  show Sim _ ((St.mk [] σa).o j)
  rw [ho0 j id h]
  cases st.o id with
  | gone => trivial
  | box ty cs => exact ⟨_, rfl⟩
  | row ty k fr fz es => exact ⟨_, _, rfl⟩
 have hborA : bor = false -> R4 ρ av = false := fun e => by rw [e] at hbor; simp only [Bool.or_eq_false_iff] at hbor; exact hbor.1
 have hborO : bor = false -> ∀ id ∈ sel, (st.o id).borR ρ = false := fun e id h => by
  rw [e] at hbor
  simp only [Bool.or_eq_false_iff, List.any_eq_false] at hbor
  simpa using hbor.2 id h
 have r0 : Rel E' β0 ⟨Hc 0 (Gu st.o ρ av), σa⟩ ⟨args.map a.eval ++ ucs, []⟩ w := by
  refine ⟨hlenA.symm, fun t => ?_, rfl, fun j => ?_, fun i j b hi hj h1 h2 => ?_, fun i b hi h1 => ?_, Kp.refl _ _, ⟨fun id ty cs h => ⟨⟨cs, h⟩, rfl⟩, fun id ty k fr fz es h => ⟨fr, fz, es, h, Aj _, fun _ => ⟨rfl, fun b cur hb hc => ⟨cur, hc, rfl⟩⟩⟩⟩, (fun b o h => by cases h), List.nodup_nil, fun D h => by cases h⟩
  ·show Dv _ (El (Hc 0 (Gu st.o ρ av)) t) _
   rw [Kn, if_pos (Ae _), Nat.sub_zero, Ad, Ni]
   cases hx : av[t]? with
   | none => exact .any _
   | some x =>
    have ht : t < (args.map a.eval ++ ucs).size := by rw [<- hlenA]; exact (Ab.1 hx).1
    rw [Av, Al ht]
    exact Dv.passR r (C0 := E'.C β0 ⟨Hc 0 (Gu st.o ρ av), σa⟩ w) rfl (hS _) bor (hL _) (hsim _) (hus t x _ hx (Al ht)) (Iw hpc hx) fun e => O9 (hborA e) hx
  ·show Jo _ j ((St.mk [] σa).o j)
   cases hq : sel[j]? with
   | none =>
    have : (St.mk [] σa).o j = .gone := by
     show (sel.map _).getD j Ob.gone = _
     rw [Ad, Ap, hq]; rfl
    rw [this]; trivial
   | some id =>
    rw [ho0 j id hq]
    have hr := r.ob id
    have hmem := Ac hq
    cases ho : st.o id with
    | gone => trivial
    | box ty cs =>
     rw [ho] at hr
     obtain ⟨b, cur, q1, q2, q3, q4⟩ := hr
     refine ⟨b, cur, (hβ0 j id hq).trans q1, q2, by rw [Jr]; exact q3, fun i c u hc hu => ?_⟩
     rw [Ni] at hc
     cases hx : cs[i]? with
     | none => rw [hx] at hc; cases hc
     | some x =>
      rw [hx] at hc
      simp only [Ai, Option.some.injEq] at hc
      subst hc
      have h1 := hpo id hmem
      rw [ho] at h1
      exact ⟨Dv.passR r (C0 := E'.C β0 ⟨Hc 0 (Gu st.o ρ av), σa⟩ w) rfl (hS _) bor (hL _) (hsim _) (q4 i x u hx hu).1 (Iw h1 hx) fun e => by
       have h2 := hborO e id hmem
       rw [ho] at h2
       exact O9 h2 hx, (q4 i x u hx hu).2⟩
    | row ty k fr fz es =>
     rw [ho] at hr
     obtain ⟨q1, q2⟩ := hr
     refine ⟨q1, ?_⟩
     have hb : (E'.C β0 ⟨Hc 0 (Gu st.o ρ av), σa⟩ w).β j = (E.C β st w).β id := hβ0 j id hq
     rw [hb]
     cases hbb : (E.C β st w).β id with
     | none => rw [hbb] at q2; exact q2
     | some b =>
      rw [hbb] at q2
      obtain ⟨cur, c, g1, g2, g3, g4, g5⟩ := q2
      refine ⟨cur, c, g1, g2, g3, g4, fun i e j x he hx => ?_⟩
      obtain ⟨u, p1, p2⟩ := g5 i e j x he hx
      exact ⟨u, p1, p2.keep (fun _ _ => rfl) (hS _ fr)⟩
  ·have hi : (St.mk [] σa).o i ≠ .gone := hi
   have hj : (St.mk [] σa).o j ≠ .gone := hj
   obtain ⟨x, hx⟩ := hng0 i hi
   obtain ⟨y, hy⟩ := hng0 j hj
   rw [hβ0 i x hx] at h1
   rw [hβ0 j y hy] at h2
   have := r.inj x y b (hngs x (Ac hx)) (hngs y (Ac hy)) h1 h2
   subst this
   have e1 := hρi hx
   rw [hρi hy] at e1
   injection e1 with e1
   exact e1.symm
  have hi : (St.mk [] σa).o i ≠ .gone := hi
  obtain ⟨x, hx⟩ := hng0 i hi
  have h1' : β x = some b := (hβ0 i x hx).symm.trans h1
  exact ⟨(r.rng x b (hngs x (Ac hx)) h1').1, .inr ⟨i, hi, h1⟩⟩
 have hcall := hpure E' β0 _ (by show av.length = (Gu st.o ρ av).length; rw [Jr]) rfl rfl r0
 unfold Oper.wp
 have hrun : (execOp a.eval o).run P w = .ok (.enter f (args.map a.eval ++ ucs)) w := by
  obtain ⟨dst, op, ty, pos, af, gd⟩ := o
  simp only at hop
  subst hop
  simp only [execOp, resolve, hufo, Deferred.ofValue, Sem.run_bind, Sem.run_pure, Result.andThen_ok, invoke, Array.empty_append]
  exact U3 hcal
 rw [hrun]
 refine hcall.mono ?_
 rintro e w' ⟨v, β1, rfl, r1⟩
 show ∃ β', Rel E β' _ _ _
 have hσ : ∀ i, (St.mk [(0, res)] σr).o i = σr.getD i .gone := fun i => rfl
 have hjl : ∀ j, σr.getD j .gone ≠ .gone -> j < σr.length := fun j h => by
  apply Classical.byContradiction
  intro h'
  exact h (by rw [Ad, Ar (by omega)]; rfl)
 have hlt1 : ∀ i b, σr.getD i .gone ≠ .gone -> β1 i = some b -> b < w'.heap.size /\ (w.heap.size <= b \/ E'.M b) := fun i b hi hb => r1.rng i b hi hb
 have hwsz : w.heap.size <= w'.heap.size := r1.kp.size
 have hkeep : ∀ b, b < w.heap.size -> ¬ E'.M b -> w'.heap[b]? = w.heap[b]? := fun b hb hm => r1.kp.block b hb hm
 have hselnid : ∀ id ∈ sel, id < nid := fun id h => by
  apply Classical.byContradiction
  intro hge
  obtain ⟨p, h1, h2⟩ := Aj6 (bkN sel nid) sel σr hlen id h
  exact hngs id h (by have := hn p (by simp only [Oy, A0]; exact .inl h1) (by omega); rwa [h2] at this)
 have hfresh : ∀ i, nid <= i -> i < nid + (σr.length - sel.length) -> st.o i = .gone := fun i h1 h2 => by
  obtain ⟨p, q1, q2⟩ := Ajw (bkN sel nid) (σr.drop sel.length) nid i h1 (by simpa using h2)
  have := hn p (by simp only [Oy, A0]; exact .inr q1) (by omega)
  rwa [q2] at this
 let nw : Nat -> Prop := fun i => nid <= i /\ i < nid + (σr.length - sel.length)
 let β' : Nat -> Option Nat := fun i => match ρ i with
  | some j => β1 j
  | none => if nid <= i /\ i < nid + (σr.length - sel.length) then β1 (i - nid + sel.length) else β i
 let st' : St := st.sets (Oy sel nid σr res).2
 have ho' : ∀ i, st'.o i = if nid <= i /\ i < nid + (σr.length - sel.length) then (σr.getD (i - nid + sel.length) .gone).bk (bkN sel nid) else match ρ i with | some j => (σr.getD j .gone).bk (bkN sel nid) | none => st.o i := fun i => by
  show (st.sets (Ahj _ sel σr ++ Aex _ nid (σr.drop sel.length))).o i = _
  rw [Zz, Afg, Bc]
  by_cases h : nid <= i /\ i < nid + (σr.length - sel.length)
  ·rw [if_pos h, if_pos h]
   congr 1
   rw [Ad, Bd, <- Ad, Ba]
  rw [if_neg h, if_neg h, Anu _ _ _ _ _ hnd hlen, hρe]
 have hρnw : ∀ i j, ρ i = some j -> i < nid := fun i j h => hselnid i (Ac (hρo h))
 have hnew : ∀ j, (St.mk [(0, res)] σr).o j ≠ .gone -> st'.o (bkN sel nid j) = ((St.mk [(0, res)] σr).o j).bk (bkN sel nid) /\ β' (bkN sel nid j) = β1 j := fun j hj => by
  have hjl := hjl j hj
  by_cases hk : j < sel.length
  ·have hs : sel[j]? = some (sel.getD j 0) := by rw [Ad, Aa hk]; rfl
   have hB : bkN sel nid j = sel.getD j 0 := by simp only [bkN, if_pos hk]
   have hr := hρi hs
   have := hρnw _ _ hr
   rw [hB]
   refine ⟨?_, ?_⟩
   ·rw [ho', if_neg (by omega), hr]; rfl
   show (match ρ _ with | some j => β1 j | none => _) = _
   rw [hr]
  have hB : bkN sel nid j = nid + (j - sel.length) := by
   simp only [bkN, if_neg hk]
  have hr : ρ (nid + (j - sel.length)) = none := by
   cases hq : ρ (nid + (j - sel.length)) with
   | none => rfl
   | some j' => have := hρnw _ _ hq; omega
  rw [hB]
  refine ⟨?_, ?_⟩
  ·rw [ho', if_pos (by omega), hσ]
   congr 2; omega
  show (match ρ _ with | some j => β1 j | none => _) = _
  rw [hr]
  simp only
  rw [if_pos (by omega)]
  congr 1; omega
 have hcase : ∀ i, (∃ j, j < σr.length /\ i = bkN sel nid j /\ st'.o i = (σr.getD j .gone).bk (bkN sel nid) /\ β' i = β1 j) \/ (st'.o i = st.o i /\ β' i = β i /\ ρ i = none) := fun i => by
  cases hr : ρ i with
  | some j =>
   have hs := hρo hr
   have hk := (Ab.1 hs).1
   refine .inl ⟨j, by omega, ?_, ?_, ?_⟩
   ·simp only [bkN, if_pos hk, Ad, hs, Bh]
   ·have := hρnw _ _ hr
    rw [ho', if_neg (by omega), hr]
   show (match ρ _ with | some j => β1 j | none => _) = _
   rw [hr]
  | none =>
   by_cases h : nid <= i /\ i < nid + (σr.length - sel.length)
   ·refine .inl ⟨i - nid + sel.length, by omega, ?_, ?_, ?_⟩
    ·simp only [bkN]
     rw [if_neg (by omega)]
     omega
    ·rw [ho', if_pos h]
    show (match ρ _ with | some j => β1 j | none => _) = _
    rw [hr]
    simp only
    rw [if_pos h]
   refine .inr ⟨?_, ?_, rfl⟩
   ·rw [ho', if_neg h, hr]
   show (match ρ _ with | some j => β1 j | none => _) = _
   rw [hr]
   simp only
   rw [if_neg h]
 have hold : ∀ i, st.o i ≠ .gone -> (∃ j id, sel[j]? = some id /\ i = id /\ ρ i = some j /\ st'.o i = (σr.getD j .gone).bk (bkN sel nid) /\ β' i = β1 j) \/ (st'.o i = st.o i /\ β' i = β i /\ ρ i = none) := fun i hi => by
  cases hr : ρ i with
  | some j =>
   have := hρnw _ _ hr
   refine .inl ⟨j, i, hρo hr, rfl, rfl, ?_, ?_⟩
   ·rw [ho', if_neg (by omega), hr]
   show (match ρ _ with | some j => β1 j | none => _) = _
   rw [hr]
  | none =>
   have hnn : ¬ (nid <= i /\ i < nid + (σr.length - sel.length)) := fun h => hi (hfresh i h.1 h.2)
   refine .inr ⟨?_, ?_, rfl⟩
   ·rw [ho', if_neg hnn, hr]
   show (match ρ _ with | some j => β1 j | none => _) = _
   rw [hr]
   simp only
   rw [if_neg hnn]
 have hnM : ∀ i b, st.o i ≠ .gone -> ρ i = none -> β i = some b -> ¬ E'.M b := fun i b hi hr hb hm => by
  obtain ⟨id, h1, h2⟩ := hM b hm
  have := r.inj i id b hi (hngs id h1) hb h2
  subst this
  obtain ⟨j, hj⟩ := A3.1 h1
  rw [hρi hj] at hr
  cases hr
 have s : Ms (E.C β st w) (E.C β' st' w') := by
  refine ⟨rfl, fun _ h => h, fun _ h => h, fun _ h => h, hwsz, ?_, fun b hb hnl => hkeep b hb fun hm => hnl (hMl b hm), ?_, ?_⟩
  ·rintro b hb ⟨i, h1, h2⟩
   have hb : b < w.heap.size := hb
   have h1 : β' i = some b := h1
   have h2 : (st'.o i).live := h2
   rcases hcase i with ⟨j, _, _, q1, q2⟩ | ⟨q1, q2, _⟩
   ·rw [q1] at h2
    rw [q2] at h1
    have hg : σr.getD j .gone ≠ .gone := fun e => by rw [e] at h2; exact h2
    rcases (hlt1 j b hg h1).2 with h3 | h3
    ·omega
    exact hMl b h3
   rw [q1] at h2
   rw [q2] at h1
   exact ⟨i, h1, h2⟩
  ·intro i ty cs h
   have h : st.o i = _ := h
   rcases hold i (by rw [h]; simp) with ⟨j, id, hj, rfl, hr, q1, q2⟩ | ⟨q1, q2, _⟩
   ·have h0 : E'.o0 j = .box ty (Gu st.o ρ cs) := by show (St.mk [] σa).o j = _; rw [ho0 j i hj, h]; rfl
    obtain ⟨⟨cs', h3⟩, h4⟩ := r1.ct.box j ty _ h0
    have h3 : σr.getD j .gone = _ := h3
    have h4 : β1 j = β0 j := h4
    refine ⟨⟨bkL (bkN sel nid) cs', ?_⟩, ?_⟩
    ·show st'.o i = _
     rw [q1, h3]; rfl
    show β' i = β i
    rw [q2, h4, hβ0 j i hj]
   exact ⟨⟨cs, by show st'.o i = _; rw [q1]; exact h⟩, q2⟩
  intro i ty k fr fz es h
  have h : st.o i = _ := h
  rcases hold i (by rw [h]; simp) with ⟨j, id, hj, rfl, hr, q1, q2⟩ | ⟨q1, q2, hr⟩
  ·have h0 : E'.o0 j = .row ty k fr fz es := by show (St.mk [] σa).o j = _; rw [ho0 j i hj, h]; rfl
   obtain ⟨fr', fz', es', h3, h4, h5⟩ := r1.ct.row j ty k fr fz es h0
   have h3 : σr.getD j .gone = _ := h3
   refine ⟨fr', fz', es', ?_, h4, fun e => ?_⟩
   ·show st'.o i = _
    rw [q1, h3]; rfl
   obtain ⟨h6, h7⟩ := h5 e
   have h6 : β1 j = β0 j := h6
   refine ⟨?_, fun b cur hb hc => h7 b cur ((hβ0 j i hj).trans hb) hc⟩
   show β' i = β i
   rw [q2, h6, hβ0 j i hj]
  refine ⟨fr, fz, es, by show st'.o i = _; rw [q1]; exact h, Aj _, fun _ => ⟨q2, fun b cur hb hc => ⟨cur, ?_, rfl⟩⟩⟩
  exact (hkeep b (r.rng i b (by rw [h]; simp) hb).1 (hnM i b (by rw [h]; simp) hr hb)).trans hc
 have hS' : ∀ fr b, (bor = true -> fr = true) -> (E'.C β1 ⟨[(0, res)], σr⟩ w').S fr b -> (E.C β' st' w').S fr b := by
  intro fr b hf hs
  obtain ⟨h1, h2, h3⟩ := hs
  have g3 : w.heap.size <= b \/ E'.M b \/ (E'.im b /\ (fr = true -> E'.fr b)) := h3
  have him : E'.im b /\ (fr = true -> E'.fr b) -> (E.C β st w).S fr b := fun ⟨g4, g5⟩ => by
   cases fr with
   | true => exact g5 rfl
   | false =>
    rcases g4 with g4 | g4
    ·have := hf g4; cases this
    exact g4
  refine ⟨h1, ?_, ?_⟩
  ·rintro ⟨i, q1, q2⟩
   have q1 : β' i = some b := q1
   have q2 : (st'.o i).live := q2
   rcases hcase i with ⟨j, _, _, q3, q4⟩ | ⟨q3, q4, hr⟩
   ·refine h2 ⟨j, by rw [q4] at q1; exact q1, ?_⟩
    show (σr.getD j .gone).live
    rw [q3] at q2
    cases hq : σr.getD j .gone with
    | gone => rw [hq] at q2; exact q2
    | box ty cs => trivial
    | row ty k fr fz es => rw [hq] at q2; exact q2
   rw [q3] at q2
   rw [q4] at q1
   have hg : st.o i ≠ .gone := fun e => by rw [e] at q2; exact q2
   rcases g3 with g3 | g3 | g3
   ·have := (r.rng i b hg q1).1
    omega
   ·exact hnM i b hg hr q1 g3
   exact (him g3).2.1 ⟨i, q1, q2⟩
  show E.w0.heap.size <= b \/ E.M b \/ _
  rcases g3 with g3 | g3 | g3
  ·have := r.kp.size
   exact .inl (by omega)
  ·obtain ⟨id, h4, h5⟩ := hM b g3
   rcases (r.rng id b (hngs id h4) h5).2 with h6 | h6
   ·exact .inl h6
   exact .inr (.inl h6)
  exact (him g3).2.2
 have r2 : Rel E β' st' a w' := by
  refine r.move s (Abl _ _) (fun i => ?_) ?_ ?_ ?_
  ·rcases hcase i with ⟨j, hj, e, q1, q2⟩ | ⟨q1, q2, hr⟩
   ·rw [q1, e]
    have hr := r1.ob j
    refine Jo.bk (C1 := E'.C β1 ⟨[(0, res)], σr⟩ w') (C2 := E.C β' st' w') rfl hnew bor hS' rfl hr fun hb => ?_
    have := (hcl hb).2
    rw [Am] at this
    rw [Ad, Aa hj]
    exact this _ (List.getElem_mem hj)
   rw [q1]
   by_cases hg : st.o i = .gone
   ·rw [hg]; trivial
   exact (r.ob i).step s q2 fun b hb => hkeep b (r.rng i b hg hb).1 (hnM i b hg hr hb)
  ·intro i j b hi hj h1 h2
   have h1 : β' i = some b := h1
   have h2 : β' j = some b := h2
   have hfar : ∀ i j b, (∃ j', j' < σr.length /\ i = bkN sel nid j' /\ st'.o i = (σr.getD j' .gone).bk (bkN sel nid) /\ β' i = β1 j') -> (st'.o j = st.o j /\ β' j = β j /\ ρ j = none) -> st'.o i ≠ .gone -> st'.o j ≠ .gone -> β' i = some b -> β' j = some b -> False := fun i j b ⟨i', _, _, q1, q2⟩ ⟨q3, q4, q5⟩ hi hj h1 h2 => by
    rw [q1] at hi
    rw [q3] at hj
    rw [q2] at h1
    rw [q4] at h2
    rcases (hlt1 i' b (fun e => hi (by rw [e]; rfl)) h1).2 with h3 | h3
    ·have := (r.rng j b hj h2).1
     omega
    exact hnM j b hj q5 h2 h3
   rcases hcase i with ci | ci
   ·rcases hcase j with cj | cj
    ·obtain ⟨i', _, e1, q1, q2⟩ := ci
     obtain ⟨j', _, e2, q3, q4⟩ := cj
     rw [q1] at hi
     rw [q3] at hj
     rw [q2] at h1
     rw [q4] at h2
     have := r1.inj i' j' b (fun e => hi (by rw [hσ] at e; rw [e]; rfl)) (fun e => hj (by rw [hσ] at e; rw [e]; rfl)) h1 h2
     rw [e1, e2, this]
    exact (hfar i j b ci cj hi hj h1 h2).elim
   rcases hcase j with cj | cj
   ·exact (hfar j i b cj ci hj hi h2 h1).elim
   rw [ci.1] at hi
   rw [cj.1] at hj
   rw [ci.2.1] at h1
   rw [cj.2.1] at h2
   exact r.inj i j b hi hj h1 h2
  ·intro i b hi h1
   have h1 : β' i = some b := h1
   have hsz := r.kp.size
   rcases hcase i with ⟨j, _, _, q1, q2⟩ | ⟨q1, q2, _⟩
   ·rw [q1] at hi
    rw [q2] at h1
    have h3 := hlt1 j b (fun e => hi (by rw [e]; rfl)) h1
    refine ⟨h3.1, ?_⟩
    rcases h3.2 with h3 | h3
    ·exact .inl (by omega)
    obtain ⟨id, h4, h5⟩ := hM b h3
    exact (r.rng id b (hngs id h4) h5).2
   rw [q1] at hi
   rw [q2] at h1
   have := r.rng i b hi h1
   exact ⟨by omega, this.2⟩
  have h4 := r.kp.size
  refine ⟨r1.kp.os.trans r.kp.os, r1.kp.tape.trans r.kp.tape, r1.kp.output.trans r.kp.output, by omega, fun b hb hm => (hkeep b (by omega) fun hm' => ?_).trans (r.kp.block b hb hm)⟩
  obtain ⟨id, h5, h6⟩ := hM b hm'
  rcases (r.rng id b (hngs id h5) h6).2 with h7 | h7
  ·omega
  exact hm h7
 refine ⟨β', ?_⟩
 show Rel E β' ((st.put o.dst _).sets _) _ w'
 rw [Xw]
 refine r2.put ?_ o.dst hd
 exact Dv.bk (C1 := E'.C β1 ⟨[(0, res)], σr⟩ w') (C2 := E.C β' st' w') rfl hnew bor hS' (r1.sl 0) fun hb => (hcl hb).1
end
section
variable {P : Program}
inductive Gd where
  | no
  | at (d : Tmp) (want : Bool)
  | bad
def Mj (ops : Array Oper) (o : Oper) : Gd := match o.guard with
 | none => .no
 | some (j, want) => match (ops[j]?).bind (·.dst) with
  | some d => .at d want
  | none => .bad
def St.gb (st : St) : Gd -> Bool
 | .no => true
 | .at d want => (El st.sl d).sb && (Ew (El st.sl d).sv == want)
 | .bad => false
def St.gc (st : St) : Gd -> Prop
 | .no => True
 | .at d _ => Hh (El st.sl d).sv = true
 | .bad => False
theorem U6 {E : Ent} {β : Nat -> Option Nat} {st : St} {a : Act} {w : World} (r : Rel E β st a w) (ops : Array Oper) (o : Oper) (hc : st.gc (Mj ops o)) : Region.wanted o (yielded ops a.tmps) = st.gb (Mj ops o) := by
 unfold Mj at hc ⊢
 unfold Region.wanted
 cases hg : o.guard with
 | none => rfl
 | some jw =>
  obtain ⟨j, want⟩ := jw
  rw [hg] at hc
  simp only at hc ⊢
  cases hd : (ops[j]?).bind (·.dst) with
  | none => rw [hd] at hc; exact hc.elim
  | some d =>
   rw [hd] at hc
   simp only [St.gc, St.gb, yielded, hd, Option.bind_some] at hc ⊢
   have hr := Lm r (.tmp d)
   simp only [St.raw, Act.eval] at hr
   generalize El st.sl d = v at hc hr ⊢
   obtain ⟨h1, h2⟩ := hr.sv
   cases hb : v.sb with
   | true =>
    obtain ⟨e1, e2⟩ := Ln hc (h1 hb)
    have : a.tmps[d]? = some (.bool (Ew v.sv)) := by
     rw [Av] at e2
     cases hq : a.tmps[d]? with
     | none => rw [hq] at e2; cases e2
     | some q => rw [hq] at e2; rw [<- e2]; rfl
    rw [this]
    simp
   | false =>
    have e2 := h2 hb
    have : ∀ b, a.tmps[d]? ≠ some (.bool b) := fun b e => by
     rw [Av, e] at e2
     cases e2
    cases hq : a.tmps[d]? with
    | none => simp
    | some q => cases q <;> first | exact absurd hq (this _) | simp
def Ox (raw : Operand -> AV) : Op -> Prop
 | .move x => (raw x).sb = true
 | .assign x => (raw x).sb = true
 | .box _ x => (raw x).sb = true
 | .load _ x => (raw x).sb = true
 | .fieldAddr _ x _ => (raw x).sb = true
 | .nilCheck x => (raw x).sb = true
 | .unOp _ _ x => (raw x).sb = true
 | .extract x _ => (raw x).sb = true
 | .convert _ _ x => (raw x).sb = true
 | .store _ x y => (raw x).sb = true /\ (raw y).sb = true
 | .binOp _ _ x y _ => (raw x).sb = true /\ (raw y).sb = true
 | .indexAddr _ x y => (raw x).sb = true /\ (raw y).sb = true
 | op => (op.operands.toList.all fun x => (raw x).sb) = true
theorem Aju {raw : Operand -> AV} {op : Op} (h : Ox raw op) : ∀ x ∈ op.operands, (raw x).sb = true := by
 unfold Ox at h
 split at h <;> first
  | (intro x hx; simp [Op.operands] at hx; subst hx; exact h)
  | (intro x hx; simp [Op.operands] at hx; rcases hx with hx | hx <;> subst hx <;> first | exact h.1 | exact h.2)
  | (intro x hx; exact Am.1 h x (by simpa using hx))
def G5 (P : Program) (op : Op) (ty : TypeId) (st : St) (nid : Nat) : Prop :=
 match op with
 | .pick c a b => (W8 (st.raw c) (st.raw a) (st.raw b)).c
 | op => Ox st.raw op /\ (vop P op ty st.raw st.o nid).c
def Hv (P : Program) (op : Op) (ty : TypeId) (st : St) (nid : Nat) : AV × List (Nat × Ob) :=
 match op with
 | .pick c a b => ((W8 (st.raw c) (st.raw a) (st.raw b)).v, [])
 | op => ((vop P op ty st.raw st.o nid).v, (vop P op ty st.raw st.o nid).up)
theorem Ado {op : Op} {ty : TypeId} {st : St} {nid : Nat} (h : ∀ c a b, op ≠ .pick c a b) : Hv P op ty st nid = ((vop P op ty st.raw st.o nid).v, (vop P op ty st.raw st.o nid).up) := by
 unfold Hv
 split
 ·rename_i c a b; exact absurd rfl (h c a b)
 rfl
theorem Ads {op : Op} {ty : TypeId} {st : St} {nid : Nat} (h : ∀ c a b, op ≠ .pick c a b) : G5 P op ty st nid = (Ox st.raw op /\ (vop P op ty st.raw st.o nid).c) := by
 unfold G5
 split
 ·rename_i c a b; exact absurd rfl (h c a b)
 rfl
def Sx (P : Program) (op : Op) (ty : TypeId) (st : St) (nid : Nat) (e : AV × List (Nat × Ob)) : Prop :=
 match op with
 | .call { callee := .value fo, args, .. } => ((st.raw fo).sb = true /\ (args.toList.all fun x => (st.raw x).sb) = true) /\ (Asa P fo args.toList st.raw st.o nid e \/ ∃ f caps sel σr res, (st.raw fo).sv = .fn f caps /\ Wb P f (args.toList.map (fun x => (st.raw x).sv) ++ caps) st.o nid sel σr res /\ e = Oy sel nid σr res)
 | op => G5 P op ty st nid /\ e = Hv P op ty st nid
theorem Asv {E : Ent} {β : Nat -> Option Nat} {st : St} {a : Act} {w : World} (r : Rel E β st a w) {o : Oper} {c x y : Operand} (hop : o.op = .pick c x y) (hd : ∀ x, o.dst = some x -> x < E.n) (hc : (W8 (st.raw c) (st.raw x) (st.raw y)).c) {Q : Exit -> Act -> World -> Prop} :
 o.wp P a w (fun a' w' => ∃ β', Rel E β' (st.after o.dst (W8 (st.raw c) (st.raw x) (st.raw y)).v []) a' w') Q := by
 obtain ⟨h1, h2, h3, h4⟩ := hc
 obtain ⟨e1, e2⟩ := Ln h1 ((Lm r c).sv.1 h2)
 unfold Oper.wp
 have hrun : ∃ v, (execOp a.eval o).run P w = .ok (.value v) w /\ Dv (E.C β st w) (W8 (st.raw c) (st.raw x) (st.raw y)).v v := by
  obtain ⟨dst, op, ty, pos, af, gd⟩ := o
  simp only at hop
  subst hop
  simp only [W8]
  cases hb : Ew (st.raw c).sv with
  | true =>
   obtain ⟨g1, g2⟩ := h3 hb
   obtain ⟨q1, q2⟩ := Ln g1 ((Lm r x).sv.1 g2)
   exact ⟨a.eval x, by simp [execOp, e2, hb, asBool], by rw [q2]; exact .lit _⟩
  | false =>
   obtain ⟨g1, g2⟩ := h4 hb
   obtain ⟨q1, q2⟩ := Ln g1 ((Lm r y).sv.1 g2)
   exact ⟨a.eval y, by simp [execOp, e2, hb, asBool], by rw [q2]; exact .lit _⟩
 obtain ⟨v, h5, h6⟩ := hrun
 rw [h5]
 exact ⟨β, r.put h6 o.dst hd⟩
theorem Aum {E : Ent} {β : Nat -> Option Nat} {st : St} {a : Act} {w : World} (r : Rel E β st a w) {o : Oper} (hd : ∀ x, o.dst = some x -> x < E.n) {nid : Nat} {e : AV × List (Nat × Ob)} (hn : ∀ p ∈ e.2, nid <= p.1 -> st.o p.1 = .gone) (h : Sx P o.op o.type st nid e) {Q : Exit -> Act -> World -> Prop} :
 o.wp P a w (fun a' w' => ∃ β', Rel E β' (st.after o.dst e.1 e.2) a' w') Q := by
 unfold Sx at h
 split at h
 ·rename_i fo args ts hop
  have hops : ∀ x ∈ o.op.operands, (st.raw x).sb = true := fun x hx => by
   rw [hop] at hx
   simp only [Op.operands, Call.operands, Array.mem_append] at hx
   rcases hx with hx | hx
   ·simp at hx; subst hx; exact h.1.1
   exact Am.1 h.1.2 x (by simpa using hx)
  rcases h.2 with h2 | ⟨f, caps, sel, σr, res, h3, h4, rfl⟩
  ·exact Atc r hop hd hops h2 hn
  exact Arj r hop hd hops h3 h4 hn
 rename_i hno
 obtain ⟨h1, rfl⟩ := h
 by_cases hp : ∃ c x y, o.op = .pick c x y
 ·obtain ⟨c, x, y, hop⟩ := hp
  rw [hop] at h1 ⊢
  exact Asv r hop hd h1
 have e1 := Ado (P := P) (ty := o.type) (st := st) (nid := nid) fun c x y e => hp ⟨c, x, y, e⟩
 have e2 := Ads (P := P) (ty := o.type) (st := st) (nid := nid) fun c x y e => hp ⟨c, x, y, e⟩
 rw [e1] at hn ⊢
 rw [e2] at h1
 exact Av6 r hd hn (Aju h1.1) h1.2
theorem Rel.putLe {E : Ent} {β : Nat -> Option Nat} {s : St} {d : Option Tmp} {v v' : AV} {a : Act} {w : World} (r : Rel E β (s.put d v) a w) (h : ∀ C u, Dv C v u -> Dv C v' u) : Rel E β (s.put d v') a w := by
 cases d with
 | none => exact r
 | some d =>
  have hC : E.C β (s.put (some d) v') w = E.C β (s.put (some d) v) w := by rw [Aab, Aab]
  refine ⟨r.sz, fun t => ?_, r.df, fun id => by rw [hC]; exact r.ob id, r.inj, r.rng, r.kp, by rw [hC]; exact r.ct, r.kb, r.dk⟩
  rw [hC]
  have := r.sl t
  simp only [St.put, El] at this ⊢
  cases hb : d == t with
  | true =>
   rw [hb] at this
   exact h _ _ this
  | false =>
   rw [hb] at this
   exact this
def St.afterG (st : St) (g : Gd) (d : Option Tmp) (e : AV × List (Nat × Ob)) : St := match g with
 | .no => st.after d e.1 e.2
 | g => st.after d (.gd (st.gb g) e.1) (bif st.gb g then e.2 else [])
def FOk (E : Ent) (F : Fence) : Prop := F = Fence.wide \/ ∃ l r, F = Fence.wide.inRound l /\ E.kb l = some (.loop r)
theorem FOk.fn {E : Ent} {F : Fence} (h : FOk E F) (f : FuncId) : F.fn f := by
 rcases h with rfl | ⟨l, r, rfl, _⟩ <;> exact trivial
theorem FOk.depth {E : Ent} {F : Fence} (h : FOk E F) : F.depth.isSome = true -> 1 <= 0 := by
 rcases h with rfl | ⟨l, r, rfl, _⟩ <;> intro h <;> cases h
theorem FOk.calls {E : Ent} {F : Fence} (h : FOk E F) {n : Nat} {f : FuncId} {args : Array Value} {w : World} {R : Ending -> World -> Prop} (hc : Calls P f args w R) : CallsIn F n P f args w R := by
 rcases h with rfl | ⟨l, r, rfl, _⟩
 ·exact callsIn_wide.2 hc
 exact (callsIn_wide (n := n)).2 hc
theorem FOk.rows {E : Ent} {F : Fence} (h : FOk E F) {n : Nat} {row : String} {args : Array Value} {w : World} {R : Value -> World -> Prop} (hc : Rows P row args w R) : RowsIn F n P row args w R := by
 rcases h with rfl | ⟨l, r, rfl, _⟩
 ·exact fun c cs _ => let ⟨v, w', r, s⟩ := hc c cs; ⟨v, w', r, stepsIn_wide.2 s⟩
 exact fun c cs _ => let ⟨v, w', r, s⟩ := hc c cs; ⟨v, w', r, stepsIn_wide.2 s⟩
theorem Pk {E : Ent} {F : Fence} (hF : FOk E F) {o : Oper} (hnd : ∀ c, o.op ≠ .defer c) {a : Act} {w : World} {K : Act -> World -> Prop} {Q : Exit -> Act -> World -> Prop} (h : o.wp P a w K fun _ _ _ => False) : o.wpIn F 0 P a w K Q := by
 refine ⟨fun f _ => hF.fn f, ?_⟩
 rw [Oper.semAt_eq _ _ _ hnd]
 unfold Oper.wp at h
 generalize (execOp a.eval o).run P w = r at h
 cases r with
 | ok x w' =>
  cases x with
  | value v => exact h
  | skip => exact h
  | defer d => exact h
  | enter f args =>
   refine ⟨hF.depth, (hF.calls h).mono ?_⟩
   intro e w'' he
   cases e with
   | returned v => exact he
   | panicked c => exact he.elim
   | outgrown => obtain ⟨_, _, hx⟩ := he; exact hx.elim
  | row row args => exact ⟨hF.depth, hF.rows h⟩
  | _ => exact h.elim
 | halt x w' =>
  cases x with
  | panic v => exact h.elim
  | _ => exact h.elim
theorem Aia {op : Op} {ty : TypeId} {st : St} {nid : Nat} {e : AV × List (Nat × Ob)} (h : Sx P op ty st nid e) : ∀ c, op ≠ .defer c := by
 rintro c rfl
 exact h.1.2.elim
theorem Sh {E : Ent} {β : Nat -> Option Nat} {st : St} {a : Act} {w : World} (r : Rel E β st a w) {ops : Array Oper} {o : Oper} (hd : ∀ x, o.dst = some x -> x < E.n) {nid : Nat} (hg : st.gc (Mj ops o)) {e : AV × List (Nat × Ob)} (hn : st.gb (Mj ops o) = true -> ∀ p ∈ e.2, nid <= p.1 -> st.o p.1 = .gone) (h : st.gb (Mj ops o) = true -> Sx P o.op o.type st nid e)
 {F : Fence} (hF : FOk E F) {K : Act -> World -> Prop} {Q : Exit -> Act -> World -> Prop} (hK : ∀ β' a' w', Rel E β' (st.afterG (Mj ops o) o.dst e) a' w' -> K a' w') :
  if Region.wanted o (yielded ops a.tmps) then o.wpIn F 0 P a w K Q else (∀ f, o.about P w a.eval = some f -> F.fn f) /\ K (a.put o.dst undef) w := by
 rw [U6 r ops o hg]
 cases hb : st.gb (Mj ops o) with
 | true =>
  rw [if_pos rfl]
  refine Oper.wpIn_mono (fun a' w' h' => ?_) (Pk hF (Aia (h hb)) (Aum r hd (hn hb) (h hb)))
  obtain ⟨β', r'⟩ := h'
  refine hK β' a' w' ?_
  unfold St.afterG
  split
  ·exact r'
  rw [hb]
  simp only [cond_true]
  unfold St.after at r' ⊢
  rw [Xw] at r' ⊢
  exact r'.putLe fun C u hu => .gd true _ u (fun _ => hu) fun e => by cases e
 | false =>
  rw [if_neg (by simp)]
  refine ⟨fun f _ => hF.fn f, hK β _ w ?_⟩
  unfold St.afterG
  split
  ·rename_i hno
   rw [hno] at hb
   cases hb
  rw [hb]
  simp only [cond_false, St.after, St.sets]
  exact r.put (.gd false _ _ (fun e => by cases e) fun _ => rfl) o.dst hd
structure VO where
  d : Option Tmp
  op : Op
  ty : TypeId
  g : Gd
def Fy (l : List Oper) : List VO := l.map fun o => ⟨o.dst, o.op, o.type, Mj l.toArray o⟩
def runs (P : Program) : List VO -> St -> (St -> Prop) -> Prop
 | [], st, K => K st
 | v :: os, st, K => st.gc v.g /\
  if Et v.op then ∃ e : AV × List (Nat × Ob), (st.gb v.g = true -> Sx P v.op v.ty st st.ob.length e) /\ runs P os (st.afterG v.g v.d e) K
  else (st.gb v.g = true -> G5 P v.op v.ty st st.ob.length) /\ runs P os (st.afterG v.g v.d (Hv P v.op v.ty st st.ob.length)) K
theorem Gr (st : St) : ∀ i, st.ob.length <= i -> st.o i = .gone := fun i hi => by
 simp only [St.o]
 rw [Ad, Ar hi]; rfl
theorem Abu {op : Op} {ty : TypeId} {st : St} {nid : Nat} (hc : Et op = false) (h : G5 P op ty st nid) : Sx P op ty st nid (Hv P op ty st nid) := by
 unfold Sx
 split
 ·cases hc
 exact ⟨h, rfl⟩
theorem Xm {E : Ent} {F : Fence} (hF : FOk E F) {ops : Array Oper} {K : St -> Prop} {Q : Exit -> Act -> World -> Prop} (hQ : ∀ st β a w, K st -> Rel E β st a w -> Q .normal a w) : ∀ (l : List Oper) (hd : ∀ o ∈ l, ∀ x, o.dst = some x -> x < E.n) (st : St) (β : Nat -> Option Nat) (a : Act) (w : World),
 runs P (l.map fun o => ⟨o.dst, o.op, o.type, Mj ops o⟩) st K -> Rel E β st a w -> wpListIn F 0 P ops Q l a w
 | [], _, st, β, a, w, h, r => hQ st β a w h r
 | o :: l, hd, st, β, a, w, h, r => by
  obtain ⟨hg, h⟩ := h
  unfold wpListIn
  simp only at h hg
  cases hc : Et o.op with
  | true =>
   rw [hc, if_pos rfl] at h
   obtain ⟨e, h1, h2⟩ := h
   exact Sh r (hd o (by simp)) hg (fun _ p _ hp => Gr st p.1 hp) h1 hF fun β' a' w' r' => Xm hF hQ l (fun x hx => hd x (by simp [hx])) _ β' a' w' h2 r'
  | false =>
   rw [hc, if_neg (by simp)] at h
   obtain ⟨h1, h2⟩ := h
   exact Sh r (hd o (by simp)) hg (fun _ p _ hp => Gr st p.1 hp) (fun hb => Abu hc (h1 hb)) hF fun β' a' w' r' => Xm hF hQ l (fun x hx => hd x (by simp [hx])) _ β' a' w' h2 r'
structure G4 (E E' : Ent) : Prop where
  ex : ∃ ds kb, E' = { E with ds := ds, kb := kb }
  kb : ∀ b o, E.kb b = some o -> E'.kb b = some o
theorem G4.refl (E : Ent) : G4 E E := ⟨⟨E.ds, E.kb, rfl⟩, fun _ _ h => h⟩
theorem G4.trans {E E' E2 : Ent} (h : G4 E E') (h' : G4 E' E2) : G4 E E2 := by
 obtain ⟨⟨ds, kb, rfl⟩, h1⟩ := h
 obtain ⟨⟨ds2, kb2, rfl⟩, h2⟩ := h'
 exact ⟨⟨ds2, kb2, rfl⟩, fun b o h => h2 b o (h1 b o h)⟩
theorem G4.ok {E E' : Ent} (h : G4 E E') {n m : Nat} (hE : E.n = n /\ ∀ id, m <= id -> E.o0 id = .gone) : E'.n = n /\ ∀ id, m <= id -> E'.o0 id = .gone := by
 obtain ⟨⟨ds, kb, rfl⟩, _⟩ := h
 exact hE
theorem FOk.le {E E' : Ent} {F : Fence} (h : FOk E F) (hle : G4 E E') : FOk E' F := by
 rcases h with h | ⟨l, r, h1, h2⟩
 ·exact .inl h
 exact .inr ⟨l, r, h1, hle.kb _ _ h2⟩
def Adw (E : Ent) (K : Exit -> St -> Prop) : Exit -> Act -> World -> Prop := fun e a w => ∃ E' st β, G4 E E' /\ K e st /\ Rel E' β st a w
theorem Adw.mono {E E' : Ent} {K K' : Exit -> St -> Prop} (hle : G4 E E') {e : Exit} {a : Act} {w : World} (hk : ∀ s, K e s -> K' e s) (h : Adw E' K e a w) : Adw E K' e a w := by
 obtain ⟨E2, st, β, h1, h2, h3⟩ := h
 exact ⟨E2, st, β, hle.trans h1, hk _ h2, h3⟩
def VW (P : Program) (n m : Nat) (c : Code) (st : St) (K : Exit -> St -> Prop) : Prop :=
 ∀ (E : Ent) (F : Fence), (E.n = n /\ ∀ id, m <= id -> E.o0 id = .gone) -> FOk E F -> ∀ β a w, Rel E β st a w -> c.wpIn F 0 P (Adw E K) a w
section
variable {n m : Nat} {st : St} {K K' : Exit -> St -> Prop}
theorem VW.mono {c : Code} (h : VW P n m c st K) (hk : ∀ e s, K e s -> K' e s) : VW P n m c st K' := fun E F hE hF β a w r => wpIn_mono (h E F hE hF β a w r) fun e a w ⟨E', s, β, h0, h1, h2⟩ => ⟨E', s, β, h0, hk e s h1, h2⟩
@[reducible] def Exit.vthen (next : St -> Prop) (K : Exit -> St -> Prop) : Exit -> St -> Prop
 | .normal, s => next s
 | e, s => K e s
theorem VW.seq {x y : Code} (h : VW P n m x st (Exit.vthen (fun s => VW P n m y s K) K)) : VW P n m (.seq x y) st K := fun E F hE hF β a w r => by
 refine wpIn_seq (wpIn_mono (h E F hE hF β a w r) fun e a w ⟨E', s, β, h0, h1, h2⟩ => ?_)
 cases e with
 | normal => exact wpIn_mono (h1 E' F (h0.ok hE) (hF.le h0) β a w h2) fun e a w hp => hp.mono h0 fun _ h => h
 | exit id => exact ⟨E', s, β, h0, h1, h2⟩
 | goto l => exact ⟨E', s, β, h0, h1, h2⟩
 | ret => exact ⟨E', s, β, h0, h1, h2⟩
 | panic ch => exact ⟨E', s, β, h0, h1, h2⟩
 | outgrown => exact ⟨E', s, β, h0, h1, h2⟩
abbrev Dr := @VW.seq
theorem VW.skip (h : K .normal st) : VW P n m .skip st K := fun E F hE hF β a w r => wpIn_skip ⟨E, st, β, G4.refl E, h, r⟩
abbrev Bv := @VW.skip
theorem VW.label {l : Nat} (h : K .normal st) : VW P n m (.label l) st K := fun E F hE hF β a w r => wpIn_label ⟨E, st, β, G4.refl E, h, r⟩
theorem VW.exit {id : Nat} (h : K (.exit id) st) : VW P n m (.exit id) st K := fun E F hE hF β a w r => wpIn_exit ⟨E, st, β, G4.refl E, h, r⟩
abbrev B5 := @VW.exit
theorem VW.goto {l : Nat} (h : K (.goto l) st) : VW P n m (.goto l) st K := fun E F hE hF β a w r => wpIn_goto ⟨E, st, β, G4.refl E, h, r⟩
theorem VW.ret (h : K .ret st) : VW P n m .ret st K := fun E F hE hF β a w r => wpIn_ret ⟨E, st, β, G4.refl E, h, r⟩
theorem VW.cond {c : Operand} {x y : Code} (hb : Hh (st.raw c).sv = true) (hs : (st.raw c).sb = true) (ht : Ew (st.raw c).sv = true -> VW P n m x st K) (hf : Ew (st.raw c).sv = false -> VW P n m y st K) : VW P n m (.cond c x y) st K := fun E F hE hF β a w r => by
 obtain ⟨_, e2⟩ := Ln hb ((Lm r c).sv.1 hs)
 refine wpIn_cond_split e2 (fun e => ht e E F hE hF β a w r) fun e => hf e E F hE hF β a w r
@[reducible] def Exit.vblock (id : Nat) (K : Exit -> St -> Prop) : Exit -> St -> Prop
 | .exit id', s => if id' = id then K .normal s else K (.exit id') s
 | e, s => K e s
theorem VW.block {id : Nat} {c : Code} (h : VW P n m c st (Exit.vblock id K)) : VW P n m (.block id c) st K := fun E F hE hF β a w r => by
 refine wpIn_block (wpIn_mono (h E F hE hF β a w r) fun e a w ⟨E', s, β, h0, h1, h2⟩ => ?_)
 cases e with
 | exit id' =>
  unfold Exit.inBlock
  unfold Exit.vblock at h1
  simp only at h1 ⊢
  split
  ·rename_i e; rw [if_pos e] at h1; exact ⟨E', s, β, h0, h1, h2⟩
  rename_i e; rw [if_neg e] at h1; exact ⟨E', s, β, h0, h1, h2⟩
 | normal => exact ⟨E', s, β, h0, h1, h2⟩
 | goto l => exact ⟨E', s, β, h0, h1, h2⟩
 | ret => exact ⟨E', s, β, h0, h1, h2⟩
 | panic ch => exact ⟨E', s, β, h0, h1, h2⟩
 | outgrown => exact ⟨E', s, β, h0, h1, h2⟩
theorem VW.loop {c : Code} (I : Nat -> St -> Prop) (z : Nat) (h0 : I z st) (round : ∀ z s, I z s -> VW P n m c s (Exit.vthen (fun s' => ∃ z', z' < z /\ I z' s') K)) : VW P n m (.loop c) st K := fun E F hE hF β a w r => by
 refine wpIn_loop (fun a w => ∃ n s β E', G4 E E' /\ I n s /\ Rel E' β s a w) (fun a w => Classical.epsilon fun n => (∃ s β E', G4 E E' /\ I n s /\ Rel E' β s a w) /\ ∀ n' s β E', G4 E E' -> I n' s -> Rel E' β s a w -> n <= n') ⟨z, st, β, E, G4.refl E, h0, r⟩ ?_
 rintro a w ⟨n1, s1, β1, E1, hl1, hI, r1⟩
 have hleast : ∀ a w, (∃ n s β E', G4 E E' /\ I n s /\ Rel E' β s a w) -> ∃ n, (∃ s β E', G4 E E' /\ I n s /\ Rel E' β s a w) /\ ∀ n' s β E', G4 E E' -> I n' s -> Rel E' β s a w -> n <= n' := by
  rintro a w ⟨n, h⟩
  induction n using Nat.strongRecOn with
  | _ n ih =>
   by_cases hm : ∃ n', n' < n /\ ∃ s β E', G4 E E' /\ I n' s /\ Rel E' β s a w
   ·obtain ⟨n', hlt, h'⟩ := hm
    exact ih n' hlt h'
   exact ⟨n, h, fun n' s β E' h0 h1 h2 => Nat.le_of_not_lt fun hlt => hm ⟨n', hlt, s, β, E', h0, h1, h2⟩⟩
 obtain ⟨⟨s0, β0, E0, hl0, hI0, r0⟩, hmin⟩ := Classical.epsilon_spec (hleast a w ⟨n1, s1, β1, E1, hl1, hI, r1⟩)
 refine wpIn_mono (round _ s0 hI0 E0 F (hl0.ok hE) (hF.le hl0) β0 a w r0) fun e a' w' ⟨E', s, β, h0, h1, h2⟩ => ?_
 cases e with
 | normal =>
  obtain ⟨n', hlt, hI'⟩ := h1
  refine ⟨⟨n', s, β, E', hl0.trans h0, hI', h2⟩, ?_⟩
  have := Classical.epsilon_spec (hleast a' w' ⟨n', s, β, E', hl0.trans h0, hI', h2⟩)
  exact Nat.lt_of_le_of_lt (this.2 n' s β E' (hl0.trans h0) hI' h2) hlt
 | exit id => exact ⟨E', s, β, hl0.trans h0, h1, h2⟩
 | goto l => exact ⟨E', s, β, hl0.trans h0, h1, h2⟩
 | ret => exact ⟨E', s, β, hl0.trans h0, h1, h2⟩
 | panic ch => exact ⟨E', s, β, hl0.trans h0, h1, h2⟩
 | outgrown => exact ⟨E', s, β, hl0.trans h0, h1, h2⟩
def Ff (n : Nat) (l : List Oper) : Bool := l.all fun o => match o.dst with | some d => decide (d < n) | none => true
theorem Nk {n : Nat} {l : List Oper} (h : Ff n l = true) : ∀ o ∈ l, ∀ x, o.dst = some x -> x < n := fun o ho x hx => by
 have := Am.1 h o ho
 rw [hx] at this
 simpa using this
theorem VW.region {id : Nat} {l : List Oper} (hd : Ff n l = true) (h : runs P (Fy l) st (K .normal)) : VW P n m (.region id l.toArray false) st K := fun E F hE hF β a w r =>
 wpIn_region_lit (Xm hF (fun s β a w h1 h2 => ⟨E, s, β, G4.refl E, h1, h2⟩) l (fun o ho x hx => by rw [hE.1]; exact Nk hd o ho x hx) st β a w h r)
theorem VW.region_seq {id : Nat} {l : List Oper} {y : Code} (hd : Ff n l = true) (h : ∀ K1 : St -> Prop, (∀ s, VW P n m y s K -> K1 s) -> runs P (Fy l) st K1) : VW P n m (.seq (.region id l.toArray false) y) st K :=
 .seq (.region hd (h _ fun _ h => h))
abbrev Bx := @VW.region_seq
end
end
end Go.Proofs.YtkkimgjinbaemaaGreat
