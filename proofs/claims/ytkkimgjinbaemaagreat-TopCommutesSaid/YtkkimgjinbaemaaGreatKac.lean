/- The walk. -/
import Derived.Test.YtkkimgjinbaemaaGreatKab
namespace Go.Proofs.YtkkimgjinbaemaaGreat
open Go.RowKit
set_option linter.unusedVariables false
set_option linter.unusedSimpArgs false
set_option maxRecDepth 100000
set_option maxHeartbeats 4000000
section
section
variable (P : Program)
def Po (t : TypeId) : Bool := match P.underlying t with | some (.struct _) => true | some (.array _ _) => true | _ => false
def tsz (t : TypeId) : Nat := match P.info? t with | some i => i.size | none => 0
def tok (t : TypeId) : Bool := (P.underlying t).isSome && (P.info? t).isSome
end
variable {P : Program}
theorem Am1 {t : TypeId} (h : tok P t = true) (w : World) : (isAgg t).run P w = .ok (Po P t) w := by
 simp only [tok, Ah] at h
 obtain ⟨d, hd⟩ := Option.isSome_iff_exists.1 h.1
 simp only [isAgg, Sem.run_bind, run_underlying hd, Result.andThen_ok, Po, hd]
 cases d <;> rfl
theorem Jc {t : TypeId} (h : tok P t = true) (w : World) : (sizeOf t).run P w = .ok (tsz P t) w := by
 simp only [tok, Ah] at h
 obtain ⟨i, hi⟩ := Option.isSome_iff_exists.1 h.2
 simp [sizeOf, typeInfo, hi, tsz]
structure Eff where
  v : AV
  up : List (Nat × Ob)
  c : Prop
def Eff.bad : Eff := ⟨.any, [], False⟩
def T.av (fr : Bool) : T -> AV
 | .lit v => .lit v
 | .sl k es => .imm fr k es
 | .fn f cs off => .fn f [.iptr fr cs off]
theorem T.rel {C : VC} {fr : Bool} {t : T} {u : Value} (h : Do C.h (C.S fr) t u) : Br C (t.av fr) u := by
 cases t with
 | lit v => cases h; exact .lit _
 | sl k es => exact .imm fr k es u h
 | fn f cs off =>
  cases h with
  | fn f cs off b o cur ty fz us h1 h2 h3 h4 =>
   refine .fn f _ _ rfl fun i c u hc hu => ?_
   cases i with
   | zero => simp at hc hu; subst hc hu; exact .iptr fr cs off b o cur ty fz us h1 h2 fun j x hx => ⟨h3 j x hx, h4 j x hx⟩
   | succ i => simp at hc
def ldv (P : Program) (t : TypeId) (cs : List AV) (off : Nat) : AV := if Po P t then .agg ((cs.drop off).take (tsz P t)) else cs.getD off .any
def ldc (P : Program) (t : TypeId) (len off : Nat) : Prop := tok P t = true /\ (if Po P t then off + tsz P t <= len else off < len)
def Gv (P : Program) (t : TypeId) (x : AV) (o : Nat -> Ob) : Eff :=
 match x with
 | .ptr id off => match o id with
  | .box _ cs => ⟨ldv P t cs off, [], ldc P t cs.length off⟩
  | _ => .bad
 | .rptr id n i off => match o id with
  | .row _ k fr _ es => ⟨ldv P t ((es.getD i []).map (T.av fr)) off, [], n = es.length /\ i < es.length /\ ldc P t k off⟩
  | _ => .bad
 | .iptr fr cs off => ⟨ldv P t (cs.map (T.av fr)) off, [], ldc P t cs.length off⟩
 | _ => .bad
theorem Aiz {C : VC} {t : TypeId} {w : World} {b p off : Nat} {cs : List AV} {cur : Array Value} {ty : TypeId} {fz : Nat × Nat} (hb : w.heap[b]? = some (.cells cur ty fz)) (hc : ldc P t cs.length off)
 (hcs : ∀ (j : Nat) (c : AV), cs[j]? = some c -> ∃ u, cur[p + j]? = some u /\ Br C c u) : ∃ u, (Instr.loadAt t (.pointer (some ⟨b, p + off, none⟩))).run P w = .ok u w /\ Br C (ldv P t cs off) u := by
 obtain ⟨hk, hc⟩ := hc
 have hcell : ∀ j, w.cell? ⟨b, j, none⟩ = cur[j]? := fun j => cell_of_row w b j cur ty fz hb
 simp only [Instr.loadAt, Instr.sureAddr, loadVar, Sem.run_bind, Sem.run_pure, Result.andThen_ok, Am1 hk, ldv]
 cases ha : Po P t with
 | false =>
  rw [ha] at hc
  simp only [Bl, if_false] at hc ⊢
  obtain ⟨u, h1, h2⟩ := hcs off cs[off] (Aa hc)
  refine ⟨u, by rw [run_load, hcell, h1], ?_⟩
  rw [Ad, Aa hc]
  exact h2
 | true =>
  rw [ha] at hc
  simp only [if_true] at hc ⊢
  have hl : ((cs.drop off).take (tsz P t)).length = tsz P t := by rw [A5, Bc]; omega
  have hall : ∀ j, j < tsz P t -> ∃ u, cur[p + (off + j)]? = some u /\ Br C (((cs.drop off).take (tsz P t)).getD j .any) u := fun j hj => by
   obtain ⟨u, h1, h2⟩ := hcs (off + j) cs[off + j] (Aa (by omega))
   refine ⟨u, h1, ?_⟩
   rw [Ad, Ag hj, Bd, Aa (by omega)]
   exact h2
  refine ⟨.agg ((List.range (tsz P t)).map fun j => (cur[p + (off + j)]?).getD undef).toArray, ?_, ?_⟩
  ·simp only [Sem.run_bind, Jc hk, Result.andThen_ok, Sem.run_pure]
   rw [run_loadCells w ⟨b, p + off, none⟩ (tsz P t) (fun j => (cur[p + (off + j)]?).getD undef) fun j hj => by
    obtain ⟨u, h1, _⟩ := hall j hj
    rw [Addr.add_lit, hcell, Af, h1]; rfl]
   rfl
  refine .agg _ _ (by simp [hl]) fun i c u hc hu => ?_
  obtain ⟨hi, hc'⟩ := Ab.1 hc
  rw [hl] at hi
  obtain ⟨v, h1, h2⟩ := hall i hi
  rw [Ad, hc] at h2
  simp [hi] at hu
  subst hu
  rw [h1]
  exact h2
theorem Aj8 {E : Ent} {β : Nat -> Option Nat} {st : St} {a : Act} {w : World} (r : Rel E β st a w) {t : TypeId} {x : AV} {u : Value} (hx : Br (E.C β st w) x u) (hc : (Gv P t x st.o).c) :
 ∃ v, (Instr.loadAt t u).run P w = .ok v w /\ Br (E.C β st w) (Gv P t x st.o).v v /\ (Gv P t x st.o).up = [] := by
 cases hx with
 | ptr id off u h =>
  obtain ⟨ty, cs, b, ho, hb, rfl⟩ := h
  have ho : st.o id = _ := ho
  have hob := r.ob id
  simp only [Gv, ho] at hc ⊢
  rw [ho] at hob
  obtain ⟨b', cur, h1, h2, h3, h4⟩ := hob
  have h1 : β id = _ := h1
  have hb : β id = _ := hb
  rw [hb] at h1
  injection h1 with h1
  subst h1
  obtain ⟨v, e1, e2⟩ := Aiz (P := P) (C := E.C β st w) (t := t) (w := w) (b := b) (p := 0) (off := off) (cs := cs) h2 hc fun j c hj => by
   have hlt : j < cur.size := Nat.lt_of_lt_of_le (Ab.1 hj).1 h3
   refine ⟨cur[j], by rw [Bm, Al hlt], (h4 j c _ hj (Al hlt)).1⟩
  rw [Bm] at e1
  exact ⟨v, e1, e2, trivial⟩
 | rptr id n i off u h =>
  obtain ⟨_, ty, k, fr, fz, es, ho, hn, hu⟩ := h
  have ho : st.o id = _ := ho
  have hob := r.ob id
  simp only [Gv, ho] at hc ⊢
  rw [ho] at hob
  obtain ⟨hc1, hc2, hc3⟩ := hc
  obtain ⟨b, hb, rfl⟩ := hu hc1
  have hb : β id = _ := hb
  obtain ⟨⟨_, hk⟩, hob⟩ := hob
  have hC : (E.C β st w).β id = β id := rfl
  rw [hC, hb] at hob
  obtain ⟨cur, c, h2, h3, h4, h5, h6⟩ := hob
  have he : es[i]? = some (es.getD i []) := by rw [Ad, Aa hc2]; rfl
  have hel := hk i _ he
  obtain ⟨v, e1, e2⟩ := Aiz (P := P) (C := E.C β st w) (t := t) (w := w) (b := b) (p := i * k) (off := off) (cs := (es.getD i []).map (T.av fr)) h2 (by rw [A2, hel]; exact hc3) fun j c hj => by
   rw [Ap] at hj
   cases hx : (es.getD i [])[j]? with
   | none => rw [hx] at hj; cases hj
   | some x =>
    rw [hx] at hj
    simp only [Ai, Option.some.injEq] at hj
    subst hj
    obtain ⟨u, h7, h8⟩ := h6 i _ j x he hx
    exact ⟨u, h7, T.rel h8⟩
  exact ⟨v, e1, e2, trivial⟩
 | iptr fr cs off b o cur ty fz us h1 h2 h3 =>
  simp only [Gv] at hc ⊢
  obtain ⟨v, e1, e2⟩ := Aiz (P := P) (C := E.C β st w) (t := t) (w := w) (b := b) (p := o) (off := off) (cs := cs.map (T.av fr)) h1 (by simpa using hc) fun j c hj => by
   rw [Ap] at hj
   cases hx : cs[j]? with
   | none => rw [hx] at hj; cases hj
   | some x =>
    rw [hx] at hj
    simp only [Ai, Option.some.injEq] at hj
    subst hj
    exact ⟨us j, (h3 j x hx).1, T.rel (h3 j x hx).2⟩
  exact ⟨v, e1, e2, trivial⟩
 | any u => simp [Gv, Eff.bad] at hc
 | lit v => simp [Gv, Eff.bad] at hc
 | nil k A => simp [Gv, Eff.bad] at hc
 | imm fr k es u h => simp [Gv, Eff.bad] at hc
 | own id n u h => simp [Gv, Eff.bad] at hc
 | bsl id n u h => simp [Gv, Eff.bad] at hc
 | sub id n lo m u h => simp [Gv, Eff.bad] at hc
 | agg cs us _ _ => simp [Gv, Eff.bad] at hc
 | tup cs us _ _ => simp [Gv, Eff.bad] at hc
 | fn f cs us _ _ => simp [Gv, Eff.bad] at hc
 | gd t v u _ _ => simp [Gv, Eff.bad] at hc
def AV.cl : AV -> List AV
 | .agg cs => cs
 | v => [v]
def AV.one : AV -> Bool
 | .lit v => v.oneCell'
 | .nil _ => true
 | .imm _ _ _ => true
 | .own _ _ => true
 | .sub _ _ _ _ => true
 | .ptr _ _ => true
 | .rptr _ _ _ _ => true
 | .bsl _ _ => true
 | .iptr _ _ _ => true
 | .fn _ _ => true
 | _ => false
def Hm {α : Type} (cs : List α) (off : Nat) : List α -> List α
 | [] => cs
 | v :: vs => Hm (cs.set off v) (off + 1) vs
theorem Cv {α : Type} : ∀ (vs : List α) (cs : List α) (off : Nat), (Hm cs off vs).length = cs.length
 | [], _, _ => rfl
 | v :: vs, cs, off => by simp [Hm, Cv vs]
theorem Gq {α : Type} : ∀ (vs : List α) (cs : List α) (off j : Nat), (Hm cs off vs)[j]? = if off <= j /\ j < off + vs.length /\ j < cs.length then vs[j - off]? else cs[j]?
 | [], cs, off, j => by simp [Hm]; omega
 | v :: vs, cs, off, j => by
  rw [Hm, Gq vs, List.length_set, List.getElem?_set]
  simp only [A6]
  by_cases h1 : off + 1 <= j /\ j < off + 1 + vs.length /\ j < cs.length
  ·rw [if_pos h1, if_pos (by omega), show j - off = (j - (off + 1)) + 1 by omega, Bb]
  rw [if_neg h1]
  by_cases h2 : off = j
  ·subst h2
   by_cases h3 : off < cs.length
   ·simp [h3]
   rw [if_pos rfl, if_neg h3, if_neg (by omega), Ar (by omega)]
  rw [if_neg h2, if_neg (by omega)]
theorem La (cur : Array Value) (o : Nat) (vs : List Value) (h : o + vs.length <= cur.size) (j : Nat) : (cur.toList.take o ++ vs ++ cur.toList.drop (o + vs.length)).toArray[j]? = if o <= j /\ j < o + vs.length then vs[j - o]? else cur[j]? := by
 have hl : cur.toList.length = cur.size := by simp
 simp only [List.getElem?_toArray, List.append_assoc]
 by_cases h1 : j < o
 ·rw [Au (by rw [A5]; omega), Ag h1, if_neg (by omega)]; simp
 rw [Ao (by rw [A5]; omega), A5, Nat.min_eq_left (by omega)]
 by_cases h2 : j < o + vs.length
 ·rw [Au (by omega), if_pos (by omega)]
 rw [Ao (by omega), Bd, if_neg (by omega), show o + vs.length + (j - o - vs.length) = j by omega]; simp
theorem Eh (cur : Array Value) (o : Nat) (vs : List Value) (h : o + vs.length <= cur.size) : (cur.toList.take o ++ vs ++ cur.toList.drop (o + vs.length)).toArray.size = cur.size := by
 have hl : cur.toList.length = cur.size := by simp
 simp only [List.size_toArray, Bo, A5, Bc]; omega
theorem Br.one {C : VC} {c : AV} {u : Value} (h : Br C c u) (ho : c.one = true) : u.oneCell' = true := by
 cases h with
 | lit v => exact ho
 | nil k A => rfl
 | imm fr k es u h => exact h.one
 | own id n u h => exact h.1
 | sub id n lo m u h => exact h.1
 | ptr id off u h => obtain ⟨_, _, _, _, _, rfl⟩ := h; rfl
 | rptr id n i off u h => exact h.1
 | bsl id n u h => obtain ⟨_, _, _, _, _, _, rfl, _⟩ := h; rfl
 | iptr => rfl
 | fn => rfl
 | any => cases ho
 | agg => cases ho
 | tup => cases ho
 | gd => cases ho
theorem Br.cells {C : VC} {v : AV} {u : Value} (h : Br C v u) (h1 : ∀ c ∈ v.cl, c.one = true) : u.cells.size = v.cl.length /\ ∀ (i : Nat) (c : AV) (x : Value), v.cl[i]? = some c -> u.cells[i]? = some x -> Br C c x /\ x.oneCell' = true := by
 by_cases ha : ∃ cs, v = .agg cs
 ·obtain ⟨cs, rfl⟩ := ha
  cases h with
  | agg cs us e hr => exact ⟨e.symm, fun i c x hc hx => ⟨hr i c x hc hx, (hr i c x hc hx).one (h1 c (Ac hc))⟩⟩
 have hcl : v.cl = [v] := by
  cases v <;> first | rfl | exact absurd ⟨_, rfl⟩ ha
 rw [hcl] at h1 ⊢
 have hu := h.one (h1 v (by simp))
 have hc : u.cells = #[u] := by
  cases u <;> first | rfl | simp [Value.oneCell'] at hu
 rw [hc]
 refine ⟨rfl, fun i c x hc hx => ?_⟩
 cases i with
 | zero =>
  simp at hc hx
  subst hc hx
  exact ⟨h, hu⟩
 | succ i => simp at hc
def AV.toT : AV -> T
 | .lit v => .lit v
 | .nil k => .sl k []
 | .imm _ k es => .sl k es
 | .fn f [.iptr _ cs off] => .fn f cs off
 | _ => .lit undef
def AV.laid : AV -> Bool
 | .lit v => v.oneCell'
 | .nil _ => true
 | .imm _ _ _ => true
 | .fn _ [.iptr _ _ _] => true
 | _ => false
def AV.fresh : AV -> Bool
 | .imm fr _ _ => fr
 | .fn _ [.iptr fr _ _] => fr
 | _ => true
theorem AV.laid_one {c : AV} (h : c.laid = true) : c.one = true := by
 cases c <;> first | exact h | rfl | cases h
theorem AV.laid_fn {f : FuncId} {cs : List AV} (h : (AV.fn f cs).laid = true) : ∃ fr ts off, cs = [.iptr fr ts off] := by
 unfold AV.laid at h
 split at h <;> rename_i hx
 all_goals first | cases hx | skip
 all_goals first | exact ⟨_, _, _, rfl⟩ | cases h
theorem Br.fn1 {C : VC} {f : FuncId} {fr : Bool} {ts : List T} {off : Nat} {u : Value} (h : Br C (.fn f [.iptr fr ts off]) u) : Do C.h (C.S fr) (.fn f ts off) u := by
 cases h with
 | fn f cs us h1 h2 =>
  obtain ⟨u0, rfl⟩ : ∃ u0, us = #[u0] := by
   obtain ⟨l⟩ := us
   match l, h1 with
   | [u0], _ => exact ⟨u0, rfl⟩
  have h3 := h2 0 (.iptr fr ts off) u0 rfl (by simp)
  cases h3 with
  | iptr fr cs off b o cur ty fz us g1 g2 g3 => exact .fn f ts off b o cur ty fz us g1 g2 (fun j x hx => (g3 j x hx).1) fun j x hx => (g3 j x hx).2
theorem Br.toT {C : VC} {c : AV} {u : Value} (h : Br C c u) (hl : c.laid = true) {f : Bool} (hf : f = true -> c.fresh = true) : Do C.h (C.S f) c.toT u := by
 cases h with
 | lit v => exact .lit _ hl
 | nil k A => exact .nil k A 0
 | imm fr k es u h => exact VC.T_weak h hf
 | fn f cs us h1 h2 =>
  obtain ⟨fr, ts, off, rfl⟩ := AV.laid_fn hl
  exact VC.T_weak (f := fr) (Br.fn1 (.fn f _ us h1 h2)) hf
 | _ => cases hl
def Fh (P : Program) (t : TypeId) (x v : AV) (o : Nat -> Ob) : Eff :=
 match x with
 | .ptr id off => match o id with
  | .box ty cs => ⟨.any, [(id, .box ty (Hm cs off v.cl))], tok P t = true /\ tsz P t = v.cl.length /\ off + v.cl.length <= cs.length /\ ∀ c ∈ v.cl, c.one = true⟩
  | _ => .bad
 | .rptr id n i off => match o id with
  | .row ty k fr fz es => ⟨.any, [(id, .row ty k (fr && v.cl.all AV.fresh) false (es.set i (Hm (es.getD i []) off (v.cl.map AV.toT))))],
   fz = false /\ n = es.length /\ i < es.length /\ tok P t = true /\ tsz P t = v.cl.length /\ off + v.cl.length <= k /\ ∀ c ∈ v.cl, c.laid = true⟩
  | _ => .bad
 | _ => .bad
theorem U3 {t : TypeId} (hk : tok P t = true) {w : World} {b off : Nat} {cur : Array Value} {ty : TypeId} (hb : w.heap[b]? = some (.cells cur ty (0, 0))) {u : Value} (hs : tsz P t = u.cells.size) (hle : off + u.cells.size <= cur.size)
 (h1 : ∀ (i : Nat) (x : Value), u.cells[i]? = some x -> x.oneCell' = true) :
  (Instr.storeAt t (.pointer (some ⟨b, off, none⟩)) u).run P w = .ok () (w.setRow b (cur.toList.take off ++ u.cells.toList ++ cur.toList.drop (off + u.cells.toList.length)).toArray) := by
 simp only [Instr.storeAt, Instr.sureAddr, storeVar, Sem.run_bind, Sem.run_pure, Result.andThen_ok, Jc hk, hs, ne_eq, not_true_eq_false, if_false]
 have := run_storeCells_at P b off ty u.cells.toList 0 cur w hb (by simpa using hle) fun v hv => by
  obtain ⟨i, hi⟩ := A3.1 hv
  exact h1 i v (by simpa using hi)
 simpa using this
theorem Amj {E : Ent} {β : Nat -> Option Nat} {st : St} {a : Act} {w : World} (r : Rel E β st a w) {t : TypeId} {x v : AV} {ux uv : Value} (hx : Br (E.C β st w) x ux) (hv : Br (E.C β st w) v uv) (hc : (Fh P t x v st.o).c) :
 ∃ w' id o, (Instr.storeAt t ux uv).run P w = .ok () w' /\ (Fh P t x v st.o).up = [(id, o)] /\ Rel E β (st.set id o) a w' := by
 cases hx with
 | ptr id off u h =>
  obtain ⟨ty, cs, b, ho, hb, rfl⟩ := h
  have ho : st.o id = _ := ho
  have hb : β id = _ := hb
  have hob := r.ob id
  simp only [Fh, ho] at hc ⊢
  rw [ho] at hob
  obtain ⟨b', cur, h1, h2, h3, h4⟩ := hob
  have h1 : β id = _ := h1
  rw [hb] at h1
  injection h1 with h1
  subst h1
  obtain ⟨hk, hsz, hle, hone⟩ := hc
  obtain ⟨hcs, hcr⟩ := hv.cells hone
  have hle' : off + uv.cells.toList.length <= cur.size := by simp only [Array.length_toList]; omega
  refine ⟨_, id, _, U3 hk h2 (by omega) (by omega) (fun i x hx => ?_), rfl, ?_⟩
  ·have hi : i < v.cl.length := by rw [<- hcs]; exact (Aw.1 hx).1
   exact (hcr i _ x (Aa hi) hx).2
  refine r.change (by rw [ho]; trivial) hb h2 (setRow_heap w b cur _ ty (0, 0) h2) (Eh cur off _ hle') (by simp) (fun b' hb' => setRow_other w b b' _ hb') rfl rfl rfl (fun ty' cs' e => ?_) (fun ty' k fr fz es e => by rw [ho] at e; cases e) (fun C s hCβ hCh => ?_) (.inr trivial)
  ·rw [ho] at e
   injection e with e1 e2
   subst e1
   exact ⟨_, rfl⟩
  refine ⟨b, _, hCβ, hCh, by rw [Eh cur off _ hle', Cv]; exact h3, fun j c u hj hu => ?_⟩
  rw [La cur off _ hle'] at hu
  rw [Gq] at hj
  simp only [Array.length_toList] at hu
  by_cases hin : off <= j /\ j < off + v.cl.length
  ·rw [if_pos (by omega)] at hj hu
   have := hcr (j - off) c u hj (by simpa using hu)
   exact ⟨this.1.step s, this.2⟩
  rw [if_neg (by omega)] at hj hu
  have := h4 j c u hj hu
  exact ⟨this.1.step s, this.2⟩
 | rptr id n i off u h =>
  obtain ⟨_, ty, k, fr, fz, es, ho, hn, hu⟩ := h
  have ho : st.o id = _ := ho
  have hob := r.ob id
  simp only [Fh, ho] at hc ⊢
  rw [ho] at hob
  obtain ⟨rfl, hc1, hc2, hk, hsz, hle, hlaid⟩ := hc
  obtain ⟨b, hb, rfl⟩ := hu hc1
  have hb : β id = _ := hb
  obtain ⟨⟨hk0, hkl⟩, hob⟩ := hob
  have hC : (E.C β st w).β id = β id := rfl
  rw [hC, hb] at hob
  obtain ⟨cur, c, h2, h3, h4, h5, h6⟩ := hob
  have he : es[i]? = some (es.getD i []) := by rw [Ad, Aa hc2]; rfl
  have hel := hkl i _ he
  obtain ⟨hcs, hcr⟩ := hv.cells fun c hc => AV.laid_one (hlaid c hc)
  have hik : i * k + k <= c * k := by
   have := A1 k (show i + 1 <= c by omega)
   rw [Be] at this; omega
  have hle' : i * k + off + uv.cells.toList.length <= cur.size := by simp only [Array.length_toList]; omega
  refine ⟨_, id, _, U3 hk h2 (by omega) (by simpa using hle') (fun i x hx => ?_), rfl, ?_⟩
  ·have hi : i < v.cl.length := by rw [<- hcs]; exact (Aw.1 hx).1
   exact (hcr i _ x (Aa hi) hx).2
  refine r.change (by rw [ho]; rfl) hb h2 (setRow_heap w b cur _ ty (0, 0) h2) (Eh cur _ _ hle') (by simp) (fun b' hb' => setRow_other w b b' _ hb') rfl rfl rfl (fun ty' cs' e => by rw [ho] at e; cases e) (fun ty' k' fr' fz' es' e => ?_) (fun C s hCβ hCh => ?_) (.inr trivial)
  ·rw [ho] at e
   injection e with e1 e2 e3 e4 e5
   subst e1 e2 e5
   exact ⟨_, _, _, rfl, by simp⟩
  refine ⟨⟨hk0, fun i' e' he' => ?_⟩, ?_⟩
  ·rw [List.getElem?_set] at he'
   by_cases e : i = i'
   ·subst e
    rw [if_pos rfl, if_pos hc2] at he'
    injection he' with he'
    rw [<- he', Cv, hel]
   rw [if_neg e] at he'
   exact hkl i' e' he'
  rw [hCβ]
  refine ⟨_, c, hCh, by rw [Eh cur _ _ hle', h3], by simpa using h4, h5, fun i' e' j x he' hx => ?_⟩
  rw [La cur _ _ hle']
  simp only [Array.length_toList]
  rw [List.getElem?_set] at he'
  by_cases e : i = i'
  ·subst e
   rw [if_pos rfl, if_pos hc2] at he'
   injection he' with he'
   subst he'
   rw [Gq] at hx
   simp only [A2, hel] at hx
   by_cases hin : off <= j /\ j < off + v.cl.length
   ·rw [if_pos (by omega)] at hx
    rw [if_pos (by omega), show i * k + j - (i * k + off) = j - off by omega]
    rw [Ap] at hx
    cases hq : v.cl[j - off]? with
    | none => rw [hq] at hx; cases hx
    | some q =>
     rw [hq] at hx
     simp only [Ai, Option.some.injEq] at hx
     subst hx
     have hlt : j - off < uv.cells.size := by omega
     have hrel := hcr (j - off) q _ hq (Al hlt)
     refine ⟨uv.cells[j - off], by simp [hlt], (hrel.1.step s).toT (hlaid q (Ac hq)) fun hf => ?_⟩
     simp only [Ah, Am] at hf
     exact hf.2 q (Ac hq)
   rw [if_neg (by omega)] at hx
   rw [if_neg (by omega)]
   obtain ⟨u, h7, h8⟩ := h6 i _ j x he hx
   exact ⟨u, h7, VC.T_weak (s.T h8) fun hf => by simp only [Ah] at hf; exact hf.1⟩
  rw [if_neg e] at he'
  obtain ⟨u, h7, h8⟩ := h6 i' e' j x he' hx
  have hjk : j < k := by rw [<- hkl i' e' he']; exact (Ab.1 hx).1
  have hfar : ¬ (i * k + off <= i' * k + j /\ i' * k + j < i * k + off + uv.cells.size) := by
   rintro ⟨q1, q2⟩
   rcases Nat.lt_or_ge i i' with hlt | hge
   ·have := A1 k (show i + 1 <= i' by omega)
    rw [Be] at this; omega
   have := A1 k (show i' + 1 <= i by omega)
   rw [Be] at this; omega
  rw [if_neg hfar]
  exact ⟨u, h7, VC.T_weak (s.T h8) fun hf => by simp only [Ah] at hf; exact hf.1⟩
 | any u => simp [Fh, Eff.bad] at hc
 | lit v => simp [Fh, Eff.bad] at hc
 | nil k A => simp [Fh, Eff.bad] at hc
 | imm fr k es u h => simp [Fh, Eff.bad] at hc
 | iptr fr cs off b o cur ty fz us h1 h2 h3 => simp [Fh, Eff.bad] at hc
 | own id n u h => simp [Fh, Eff.bad] at hc
 | bsl id n u h => simp [Fh, Eff.bad] at hc
 | sub id n lo m u h => simp [Fh, Eff.bad] at hc
 | agg cs us _ _ => simp [Fh, Eff.bad] at hc
 | tup cs us _ _ => simp [Fh, Eff.bad] at hc
 | fn f cs us _ _ => simp [Fh, Eff.bad] at hc
 | gd t v u _ _ => simp [Fh, Eff.bad] at hc
end
section
variable {P : Program}
def Qj (P : Program) : Nat -> TypeId -> List Nat
 | 0, _ => [0]
 | n + 1, t => match P.underlying t with
  | some (.struct fs) => fs.toList.flatMap fun f => Qj P n f.type
  | some (.array m e) => (List.replicate m (Qj P n e)).flatten
  | some (.slice e) => [tsz P e]
  | _ => [0]
def Ul (u : Value) (k : Nat) : AV := match u with
 | .slice none 0 0 => .nil k
 | u => .lit u
def J4 (P : Program) (t : TypeId) : List Value := match P.info? t with
 | some i => match i.zero with
  | some z => z.cells.toList
  | none => []
 | none => []
def El (P : Program) (t : TypeId) : List AV := List.zipWith Ul (J4 P t) (Qj P 10 t)
def zok (P : Program) (t : TypeId) : Bool := tok P t && ((P.info? t).bind (·.zero)).isSome && (Qj P 10 t).length == tsz P t && (J4 P t).length == tsz P t && (J4 P t).all (·.oneCell')
theorem Al5 (C : VC) (u : Value) (k : Nat) : Br C (Ul u k) u := by
 unfold Ul
 split
 ·exact .nil k none
 exact .lit _
theorem Ah1 (u : Value) (k : Nat) (h : u.oneCell' = true) : (Ul u k).laid = true := by
 unfold Ul
 split
 ·rfl
 exact h
theorem Mr {t : TypeId} (h : zok P t = true) : ∃ i z, P.info? t = some i /\ i.zero = some z /\ i.size = tsz P t /\ z.cells.size = tsz P t /\ (El P t).length = tsz P t /\
 ∀ (j : Nat) (c : AV) (u : Value), (El P t)[j]? = some c -> z.cells[j]? = some u -> (∀ C, Br C c u) /\ u.oneCell' = true /\ c.laid = true := by
 simp only [zok, Ah, beq_iff_eq] at h
 obtain ⟨⟨⟨⟨h1, h2⟩, h3⟩, h4⟩, h5⟩ := h
 obtain ⟨z, hz⟩ := Option.isSome_iff_exists.1 h2
 cases hi : P.info? t with
 | none => rw [hi] at hz; cases hz
 | some i =>
  rw [hi] at hz
  have hz : i.zero = some z := hz
  have e : J4 P t = z.cells.toList := by simp [J4, hi, hz]
  rw [e] at h4 h5
  refine ⟨i, z, rfl, hz, by simp [tsz, hi], by simpa using h4, by simp only [El, e, List.length_zipWith, h3]; simp at h4; simp [h4], fun j c u hc hu => ?_⟩
  simp only [El, e, List.getElem?_zipWith] at hc
  have hu' : z.cells.toList[j]? = some u := by simpa using hu
  rw [hu'] at hc
  have h1 : u.oneCell' = true := Am.1 h5 u (Ac hu')
  cases hk : (Qj P 10 t)[j]? with
  | none => rw [hk] at hc; simp at hc
  | some k =>
   rw [hk] at hc
   simp at hc
   subst hc
   exact ⟨fun C => Al5 C u k, h1, Ah1 u k h1⟩
def Ah9 (P : Program) (t : TypeId) (nid : Nat) : Eff := ⟨.ptr nid 0, [(nid, .box t (El P t))], zok P t = true⟩
def Ark (t : TypeId) (v : AV) (nid : Nat) : Eff := ⟨.ptr nid 0, [(nid, .box t v.cl)], ∀ c ∈ v.cl, c.one = true⟩
theorem Uy (β : Nat -> Option Nat) (id b : Nat) : upd β id b id = some b := by simp [upd]
theorem Aoi {E : Ent} {β : Nat -> Option Nat} {st : St} {a : Act} {w : World} (r : Rel E β st a w) {nid : Nat} (hn : st.o nid = .gone) {t : TypeId} (hc : (Ah9 P t nid).c) :
 ∃ u w' β', (Instr.alloc t true (.tuple #[])).run P w = .ok u w' /\ Rel E β' (st.set nid (.box t (El P t))) a w' /\ Br (E.C β' (st.set nid (.box t (El P t))) w') (.ptr nid 0) u := by
 obtain ⟨i, z, hi, hz, hsz, hzs, htl, hcell⟩ := Mr hc
 refine ⟨.pointer (some ⟨w.heap.size, 0, none⟩), w.alloc (.cells z.cells t), upd β nid w.heap.size, ?_, r.new hn (.box t (El P t)) (by simp) z.cells t fun C s hb hh => ?_, ?_⟩
 ·simp [Instr.alloc, zeroValue, typeInfo, hi, hz, newVar, newRow]
 ·exact ⟨_, _, hb, hh, by rw [hzs, htl]; exact Aj _, fun j c u hc hu => ⟨(hcell j c u hc hu).1 C, (hcell j c u hc hu).2.1⟩⟩
 exact .ptr _ _ _ ⟨t, _, w.heap.size, by show (st.set _ _).o _ = _; rw [St.set_o, if_pos rfl], Uy _ _ _, rfl⟩
theorem Aq5 {E : Ent} {β : Nat -> Option Nat} {st : St} {a : Act} {w : World} (r : Rel E β st a w) {nid : Nat} (hn : st.o nid = .gone) {t : TypeId} {v : AV} {uv : Value} (hv : Br (E.C β st w) v uv) (hc : (Ark t v nid).c) :
 ∃ u w' β', (Instr.box t uv).run P w = .ok u w' /\ Rel E β' (st.set nid (.box t v.cl)) a w' /\ Br (E.C β' (st.set nid (.box t v.cl)) w') (.ptr nid 0) u := by
 obtain ⟨hs, hcell⟩ := hv.cells hc
 refine ⟨.pointer (some ⟨w.heap.size, 0, none⟩), w.alloc (.cells uv.cells t), upd β nid w.heap.size, ?_, r.new hn (.box t v.cl) (by simp) uv.cells t fun C s hb hh => ?_, ?_⟩
 ·simp [Instr.box, newVar, newRow]
 ·exact ⟨_, _, hb, hh, Nat.le_of_eq hs.symm, fun j c u hc hu => ⟨(hcell j c u hc hu).1.step s, (hcell j c u hc hu).2⟩⟩
 exact .ptr _ _ _ ⟨t, _, w.heap.size, by show (st.set _ _).o _ = _; rw [St.set_o, if_pos rfl], Uy _ _ _, rfl⟩
theorem Aee {E : Ent} {β : Nat -> Option Nat} {st : St} {a : Act} {w : World} (r : Rel E β st a w) {nid : Nat} (hn : st.o nid = .gone) {ty k : Nat} {fr : Bool} {es : List (List T)} {cur : Array Value} {c : Nat}
 (hk : 0 < k) (hel : ∀ (i : Nat) (e : List T), es[i]? = some e -> e.length = k) (hcur : cur.size = c * k) (hle : es.length <= c) (hm : c <= maxLen)
  (hcell : ∀ (i : Nat) (e : List T) (j : Nat) (x : T), es[i]? = some e -> e[j]? = some x -> ∃ u, cur[i * k + j]? = some u /\ Do w.heap ((E.C β st w).S fr) x u) :
  Rel E (upd β nid w.heap.size) (st.set nid (.row ty k fr false es)) a (w.alloc (.cells cur ty)) /\
  Br (E.C (upd β nid w.heap.size) (st.set nid (.row ty k fr false es)) (w.alloc (.cells cur ty))) (.own nid es.length) (.slice (some ⟨w.heap.size, 0, none⟩) es.length c) := by
 refine ⟨r.new hn (.row ty k fr false es) (by simp) cur ty fun C s hb hh => ?_, ?_⟩
 ·refine ⟨⟨hk, hel⟩, ?_⟩
  rw [hb]
  refine ⟨cur, c, hh, hcur, hle, hm, fun i e j x he hx => ?_⟩
  obtain ⟨u, h1, h2⟩ := hcell i e j x he hx
  exact ⟨u, h1, s.T h2⟩
 refine .own _ _ _ ⟨rfl, ty, k, fr, false, es, by show (st.set _ _).o _ = _; rw [St.set_o, if_pos rfl], Aj _, fun _ => ?_⟩
 have : (E.C (upd β nid w.heap.size) (st.set nid (.row ty k fr false es)) (w.alloc (.cells cur ty))).β nid = some w.heap.size := Uy _ _ _
 rw [this]
 exact ⟨c, cur, heap_alloc_new w _, hcur, rfl⟩
def Bs (P : Program) (t : TypeId) : TypeId := match P.underlying t with
 | some (.slice e) => e
 | some (.array _ e) => e
 | _ => 0
def Ex (P : Program) (t : TypeId) : Bool := match P.underlying t with
 | some (.slice _) => true
 | _ => false
def Gp (P : Program) (t : TypeId) : Nat := match P.info? t with
 | some i => i.bytes
 | none => 0
theorem Cy {t : TypeId} (h : Ex P t = true) : P.underlying t = some (.slice (Bs P t)) := by
 unfold Ex at h
 unfold Bs
 split at h
 ·rename_i e he; rw [he]
 cases h
def C3 : AV -> Int
 | .lit (.int _ n) => n
 | _ => 0
def Kw : AV -> Bool
 | .lit (.int _ n) => true
 | _ => false
def C4 : AV -> Bool
 | .lit (.bool b) => b
 | _ => false
def F7 : AV -> Bool
 | .lit (.bool b) => true
 | _ => false
theorem Fg {v : AV} (h : Kw v = true) {C : VC} {u : Value} (r : Br C v u) : ∃ k, u = .int k (C3 v) := by
 unfold Kw at h
 split at h
 ·cases r; exact ⟨_, rfl⟩
 cases h
def Qu (P : Program) (t : TypeId) (l c : AV) (nid : Nat) : Eff :=
 ⟨.own nid (C3 l).toNat, [(nid, .row (Bs P t) (tsz P (Bs P t)) true false (List.replicate (C3 l).toNat ((El P (Bs P t)).map AV.toT)))],
  Kw l = true /\ Kw c = true /\ Ex P t = true /\ zok P (Bs P t) = true /\ 0 < tsz P (Bs P t) /\ 0 <= C3 l /\ C3 l <= C3 c /\ C3 c <= 1000000 /\ Gp P (Bs P t) <= 1000000⟩
theorem Apo {E : Ent} {β : Nat -> Option Nat} {st : St} {a : Act} {w : World} (r : Rel E β st a w) {nid : Nat} (hn : st.o nid = .gone) {t : TypeId} {l c : AV} {ul uc : Value} (hl : Br (E.C β st w) l ul) (hcc : Br (E.C β st w) c uc) (hc : (Qu P t l c nid).c) :
 ∃ u w' β' o, (Instr.makeSlice t ul uc).run P w = .ok u w' /\ (Qu P t l c nid).up = [(nid, o)] /\ Rel E β' (st.set nid o) a w' /\ Br (E.C β' (st.set nid o) w') (Qu P t l c nid).v u := by
 obtain ⟨h1, h2, h3, h4, h5, h6, h7, h8, h9⟩ := hc
 obtain ⟨kl, rfl⟩ := Fg h1 hl
 obtain ⟨kc, rfl⟩ := Fg h2 hcc
 obtain ⟨i, z, hi, hz, hsz, hzs, htl, hcell⟩ := Mr h4
 have hby : i.bytes <= 1000000 := by simpa [Gp, hi] using h9
 have hmul : (i.bytes : Int) * C3 c <= 281474976710656 := by
  have a1 : (i.bytes : Int) <= 1000000 := by omega
  have a2 := Int.mul_le_mul a1 h8 (by omega) (by omega)
  omega
 have hrun := run_make (P := P) w t _ i z (Cy h3) hi hz kl kc (C3 l) (C3 c) h6 h7 hmul (by omega)
 have hms := size_madeCells z.cells ((C3 c).toNat * i.size)
 rw [hsz] at hrun hms
 obtain ⟨q1, q2⟩ := Aee (ty := Bs P t) (fr := true) r hn (es := List.replicate (C3 l).toNat ((El P (Bs P t)).map AV.toT)) (cur := madeCells z.cells ((C3 c).toNat * tsz P (Bs P t))) (c := (C3 c).toNat) h5
  (fun i e he => by rw [List.getElem?_replicate] at he; split at he <;> simp at he; rw [<- he, A2, htl]) hms (by rw [List.length_replicate]; omega) (by simp only [maxLen]; omega) (fun i' e j x he hx => by
   rw [List.getElem?_replicate] at he
   split at he
   ·rename_i hlt
    simp at he
    subst he
    rw [Ap] at hx
    cases hq : (El P (Bs P t))[j]? with
    | none => rw [hq] at hx; cases hx
    | some q =>
     rw [hq] at hx
     simp only [Ai, Option.some.injEq] at hx
     subst hx
     have hj : j < tsz P (Bs P t) := by rw [<- htl]; exact (Ab.1 hq).1
     have hj2 : j < z.cells.size := by omega
     obtain ⟨g1, g2, g3⟩ := hcell j q z.cells[j] hq (Al hj2)
     have hfre : q.fresh = true := by
      have : q = Ul z.cells[j] ((Qj P 10 (Bs P t)).getD j 0) := by
       have e : J4 P (Bs P t) = z.cells.toList := by simp [J4, hi, hz]
       simp only [El, e, List.getElem?_zipWith] at hq
       have hu' : z.cells.toList[j]? = some z.cells[j] := by simp
       rw [hu'] at hq
       cases hk : (Qj P 10 (Bs P t))[j]? with
       | none => rw [hk] at hq; simp at hq
       | some k => rw [hk] at hq; simp at hq; rw [Ad, hk]; exact hq.symm
      rw [this]
      unfold Ul
      split <;> rfl
     refine ⟨z.cells[j], ?_, (g1 (E.C β st w)).toT g3 fun _ => hfre⟩
     have hlt2 : i' * tsz P (Bs P t) + j < (C3 c).toNat * tsz P (Bs P t) := by
      have := A1 (tsz P (Bs P t)) (show i' + 1 <= (C3 c).toNat by omega)
      rw [Be] at this; omega
     have hmod : (i' * tsz P (Bs P t) + j) % z.cells.size = j := by rw [hzs, Nat.mul_comm, Nat.mul_add_mod, Nat.mod_eq_of_lt hj]
     simp only [madeCells]
     rw [Array.getElem?_map, Array.getElem?_range, if_pos hlt2]
     simp only [Ai, hmod]
     rw [getElem!_pos z.cells j hj2]
   cases he)
 rw [List.length_replicate] at q2
 exact ⟨_, _, _, _, hrun, rfl, q1, q2⟩
end
end Go.Proofs.YtkkimgjinbaemaaGreat
