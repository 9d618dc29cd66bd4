/- The walk. -/
import Derived.Test.YtkkimgjinbaemaaGreatKal
namespace Go.Proofs.YtkkimgjinbaemaaGreat
open Go.RowKit
set_option linter.unusedVariables false
set_option linter.unusedSimpArgs false
set_option maxRecDepth 100000
set_option maxHeartbeats 4000000
section
variable {P : Program}
structure E1 where
  d : Option Tmp
  v : AV
  up : List (Nat × Ob)
def E1.ap (s : St) (e : E1) : St := s.after e.d e.v e.up
inductive Loc where
  | s (t : Nat)
  | o (id : Nat)
def gt (s : St) : Loc -> AV × Ob
 | .s t => (Ce s.sl t, .gone)
 | .o id => (.any, s.o id)
def E1.wr (e : E1) : Loc -> Bool
 | .s t => e.d == some t
 | .o id => e.up.any fun p => p.1 == id
def upv (id : Nat) : List (Nat × Ob) -> Ob
 | [] => .gone
 | p :: l => bif l.any (fun p => p.1 == id) then upv id l else p.2
def E1.wv (e : E1) : Loc -> AV × Ob
 | .s t => (e.v, .gone)
 | .o id => (.any, upv id e.up)
theorem Amn (id : Nat) : ∀ (l : List (Nat × Ob)) (s : St), (s.sets l).o id = bif l.any (fun p => p.1 == id) then upv id l else s.o id
 | [], s => rfl
 | (i, o) :: l, s => by
  rw [St.sets, Amn id l, St.set_o, List.any_cons]
  cases h1 : l.any (fun p => p.1 == id) with
  | true => simp [upv, h1]
  | false =>
   by_cases h2 : id = i
   ·subst h2; simp [upv, h1]
   have : (i == id) = false := by simp [Ne.symm h2]
   simp [h2, this]
theorem Aqg (s : St) (e : E1) (ℓ : Loc) : gt (E1.ap s e) ℓ = bif e.wr ℓ then e.wv ℓ else gt s ℓ := by
 cases ℓ with
 | s t =>
  simp only [gt, E1.ap, St.after, Yz, E1.wr, E1.wv]
  cases hd : e.d with
  | none => rfl
  | some d =>
   simp only [St.put, Ce]
   by_cases h : d = t
   ·subst h; simp
   have h1 : (d == t) = false := by simp [h]
   have h2 : (some d == some t) = false := by simpa using h
   rw [h1, h2]; rfl
 | o id =>
  simp only [gt, E1.ap, St.after, Amn, E1.wr, E1.wv, St.put_o]
  cases e.up.any (fun p => p.1 == id) <;> rfl
def apL (s : St) (L : List E1) : St := L.foldl E1.ap s
theorem Aq1 (s : St) (ℓ : Loc) : ∀ (L : List E1), gt (apL s L) ℓ = match (L.filter (fun e => e.wr ℓ)).getLast? with | some e => e.wv ℓ | none => gt s ℓ := by
 intro L
 generalize hn : L.length = n
 induction n generalizing L with
 | zero => have := List.eq_nil_of_length_eq_zero hn; subst this; rfl
 | succ n ih =>
  have hne : L ≠ [] := fun e => by rw [e] at hn; cases hn
  obtain ⟨L', e, rfl⟩ : ∃ L' e, L = L' ++ [e] := ⟨L.dropLast, L.getLast hne, (List.dropLast_concat_getLast hne).symm⟩
  rw [Bo] at hn
  simp only [apL, List.foldl_append, List.foldl_cons, List.foldl_nil]
  rw [Aqg, List.filter_append]
  cases hw : e.wr ℓ with
  | true => simp [hw]
  | false =>
   simp only [List.filter_cons, hw, Bl, if_false, List.filter_nil, List.append_nil, cond_false]
   exact ih L' (by simpa using hn)
def LD (N : Nat) (f : Nat -> E1) (D : Nat -> Bool) : List E1 := ((List.range N).filter D).map f
theorem Any (N : Nat) (f : Nat -> E1) (s : St) (ℓ : Loc) (D : Nat -> Bool) : gt (apL s (LD N f D)) ℓ = match ((List.range N).filter fun i => D i && (f i).wr ℓ).getLast? with | some i => (f i).wv ℓ | none => gt s ℓ := by
 rw [Aq1, LD]
 have : ((List.range N).filter D |>.map f).filter (fun e => e.wr ℓ) = ((List.range N).filter fun i => D i && (f i).wr ℓ).map f := by
  rw [List.filter_map, List.filter_filter]
  congr 1
  exact List.filter_congr fun i _ => by simp [Bool.and_comm]
 rw [this, List.getLast?_map]
 cases ((List.range N).filter fun i => D i && (f i).wr ℓ).getLast? <;> rfl
theorem Afe {N : Nat} {f : Nat -> E1} {s : St} {ℓ : Loc} {D D' : Nat -> Bool} (h : ∀ i, i < N -> (f i).wr ℓ = true -> D i = D' i) : gt (apL s (LD N f D)) ℓ = gt (apL s (LD N f D')) ℓ := by
 rw [Any, Any]
 have : ((List.range N).filter fun i => D i && (f i).wr ℓ) = ((List.range N).filter fun i => D' i && (f i).wr ℓ) := List.filter_congr fun i hi => by
  cases hw : (f i).wr ℓ with
  | true => rw [h i (List.mem_range.1 hi) hw]
  | false => simp
 rw [this]
theorem Aam (p : Nat -> Bool) : ∀ (N j : Nat), j < N -> p j = true -> (∀ i, i < N -> p i = true -> i <= j) -> ((List.range N).filter p).getLast? = some j
 | 0, j, h, _, _ => by omega
 | N + 1, j, h, hp, hall => by
  rw [List.range_succ, List.filter_append]
  by_cases e : j = N
  ·subst e; simp [hp]
  have : p N = false := by
   cases hq : p N with
   | false => rfl
   | true => have := hall N (by omega) hq; omega
  simp only [List.filter_cons, this, Bl, if_false, List.filter_nil, List.append_nil]
  exact Aam p N j (by omega) hp fun i hi hpi => hall i (by omega) hpi
theorem Ap8 {N j : Nat} {f : Nat -> E1} {s : St} {ℓ : Loc} {D : Nat -> Bool} (hj : j < N) (hD : D j = true) (hw : (f j).wr ℓ = true) (hall : ∀ i, i < N -> D i = true -> (f i).wr ℓ = true -> i <= j) : gt (apL s (LD N f D)) ℓ = (f j).wv ℓ := by
 rw [Any, Aam _ N j hj (by simp [hD, hw]) fun i hi h => by
  simp only [Ah] at h
  exact hall i hi h.1 h.2]
theorem Adh (f : Nat -> E1) (s : St) : ∀ (N j : Nat), j <= N -> LD N f (fun i => decide (i < j)) = (List.range j).map f := by
  intro N j hj
  unfold LD
  congr 1
  induction N with
  | zero => have : j = 0 := by omega
            subst this; rfl
  | succ N ih =>
    rw [List.range_succ, List.filter_append]
    by_cases e : j = N + 1
    · subst e
      rw [show ((List.range N).filter fun i => decide (i < N + 1)) = List.range N from List.filter_eq_self.2 fun i hi => by have := List.mem_range.1 hi; simp; omega]
      simp [List.range_succ]
    · rw [ih (by omega)]
      simp; omega
theorem Rel.congr {E : Ent} {β : Nat -> Option Nat} {s s' : St} {a : Act} {w : World} (r : Rel E β s a w) (h : ∀ ℓ, gt s ℓ = gt s' ℓ) : Rel E β s' a w := by
 have h1 : ∀ t, Ce s.sl t = Ce s'.sl t := fun t => congrArg Prod.fst (h (.s t))
 have h2 : s.o = s'.o := funext fun id => congrArg Prod.snd (h (.o id))
 have hC : E.C β s' w = E.C β s w := by simp only [Ent.C, h2]
 exact ⟨r.sz, fun t => by rw [hC, <- h1]; exact r.sl t, r.df, fun id => by rw [hC, <- h2]; exact r.ob id, by rw [<- h2]; exact r.inj, by rw [<- h2]; exact r.rng, r.kp, by rw [hC]; exact r.ct, r.kb, r.dk⟩
def Ft : Op -> List Operand := fun op => op.operands.toList
def Ke (op : Op) (g : Gd) : List Nat := (Ft op).filterMap (fun x => match x with | .tmp t => some t | _ => none) ++ (match g with | .at t _ => [t] | _ => [])
def C5 : Op -> Bool
 | .call { callee := .value _, .. } => true
 | _ => false
def G0 : Op -> Bool
 | .move _ => true
 | .assign _ => true
 | _ => false
def Cs (op : Op) (st : St) : List Nat := bif G0 op then [] else bif C5 op then rdC st.o (Ef ((Ft op).map st.raw)) else Ef ((Ft op).map st.raw)
theorem Acz {op : Op} {st : St} {id : Nat} (hv : G0 op = false) (h : id ∈ Ef ((Ft op).map st.raw)) : id ∈ Cs op st := by
 unfold Cs
 rw [hv, cond_false]
 cases C5 op with
 | true => exact Bj _ h
 | false => exact h
theorem Adf {o : Nat -> Ob} : ∀ {l : List Nat} {x : Nat}, x ∈ Si o l -> ∃ id ∈ l, x ∈ obI (o id)
 | [], x, h => by cases h
 | id :: l, x, h => by
  simp only [Si, A0] at h
  rcases h with h | h
  ·exact ⟨id, by simp, h⟩
  obtain ⟨y, h1, h2⟩ := Adf h
  exact ⟨y, by simp [h1], h2⟩
theorem Ahh {o : Nat -> Ob} {x id : Nat} : ∀ {l : List Nat}, id ∈ l -> x ∈ obI (o id) -> x ∈ Si o l
 | y :: l, h, hx => by
  simp only [Si, A0]
  cases h with
  | head => exact .inl hx
  | tail _ h => exact .inr (Ahh h hx)
mutual
theorem Agz {o o' : Nat -> Ob} {ρ : Nat -> Option Nat} : ∀ (c : AV), (∀ id ∈ c.ids, o id = o' id) -> c.passR o ρ = c.passR o' ρ
 | .own id n, h => by have := h id (by simp [AV.ids]); simp [AV.passR, this]
 | .sub id n lo m, h => by have := h id (by simp [AV.ids]); simp [AV.passR, this]
 | .agg cs, h => by have := Ip (ρ := ρ) cs (by simpa only [AV.ids] using h); simp [AV.passR, this]
 | .tup cs, h => by have := Ip (ρ := ρ) cs (by simpa only [AV.ids] using h); simp [AV.passR, this]
 | .fn f cs, h => by have := Ip (ρ := ρ) cs (by simpa only [AV.ids] using h); simp [AV.passR, this]
 | .any, h => by simp [AV.passR]
 | .lit _, h => by simp [AV.passR]
 | .nil _, h => by simp [AV.passR]
 | .imm _ _ _, h => by simp [AV.passR]
 | .ptr _ _, h => by simp [AV.passR]
 | .rptr _ _ _ _, h => by simp [AV.passR]
 | .bsl _ _, h => by simp [AV.passR]
 | .iptr _ _ _, h => by simp [AV.passR]
 | .gd _ _, h => by simp [AV.passR]
theorem Ip {o o' : Nat -> Ob} {ρ : Nat -> Option Nat} : ∀ (cs : List AV), (∀ id ∈ Ef cs, o id = o' id) -> D0 o ρ cs = D0 o' ρ cs
 | [], h => by simp [D0]
 | c :: cs, h => by
  have h1 := Agz (ρ := ρ) c fun id hid => h id (by simp [Ef, hid])
  have h2 := Ip (ρ := ρ) cs fun id hid => h id (by simp [Ef, hid])
  simp [D0, h1, h2]
end
theorem Tw.local {f : FuncId} {av : List AV} {o o' : Nat -> Ob} {nid : Nat} {sel : List Nat} {σr : List Ob} {res : AV} (h : Tw P f av o nid sel σr res) (ho : ∀ id ∈ rdC o (Ef av), o id = o' id) : Tw P f av o' nid sel σr res := by
 obtain ⟨h1, h2, h3, h4, h5, h6, h7, h8⟩ := h
 have hav : ∀ id ∈ Ef av, o id = o' id := fun id hid => ho id (Bj _ hid)
 have hs : ∀ id ∈ sel, o id = o' id := fun id hid => ho id (h7 id hid).1
 have hin : ∀ id ∈ sel, ∀ x ∈ obI (o id), o x = o' x := fun id hid x hx => ho x ((h7 id hid).2 x hx)
 have hp : ∀ id ∈ sel, ∀ ρ, (o id).passR o ρ = (o' id).passR o' ρ /\ ((o id).passC o = (o' id).passC o') := fun id hid ρ => by
  rw [<- hs id hid]
  have := hin id hid
  cases hq : o id with
  | gone => exact ⟨rfl, rfl⟩
  | row ty k fr fz es => exact ⟨rfl, rfl⟩
  | box ty cs =>
   rw [hq] at this
   exact ⟨by simp only [Ob.passR]; rw [Ip cs this], (Hy cs this).2⟩
 have hm : (sel.map fun id => (o id).passR o fun id => idx id sel 0) = sel.map fun id => (o' id).passR o' fun id => idx id sel 0 := List.map_congr_left fun id hid => (hp id hid _).1
 have hd : ∀ l, (∀ id ∈ l, o id = o' id) -> Si o l = Si o' l := fun l => by
  induction l with
  | nil => intro _; rfl
  | cons x xs ih => intro h; rw [Si, Si, h x (by simp), ih fun id hid => h id (by simp [hid])]
 have hrd : rdC o (Ef av) = rdC o' (Ef av) := by unfold rdC; rw [hd _ hav]
 refine ⟨h1, fun id hid => by rw [<- hs id hid]; exact h2 id hid, by rw [<- hm, <- Ip av hav]; exact h3, by rw [<- (Hy av hav).2]; exact h4, fun id hid => by rw [<- (hp id hid fun _ => none).2]; exact h5 id hid, h6, fun id hid => by rw [<- hs id hid, <- hrd]; exact h7 id hid, ?_⟩
 have : (sel.any fun id => (o' id).borR fun id => idx id sel 0) = sel.any fun id => (o id).borR fun id => idx id sel 0 := by
  rw [Bool.eq_iff_iff, List.any_eq_true, List.any_eq_true]
  constructor
  ·rintro ⟨x, h1, h2⟩; exact ⟨x, h1, by rw [hs x h1]; exact h2⟩
  rintro ⟨x, h1, h2⟩; exact ⟨x, h1, by rw [<- hs x h1]; exact h2⟩
 rw [this]
 exact h8
theorem Ane {s s' : St} {op : Op} {g : Gd} (h : ∀ t ∈ Ke op g, Ce s.sl t = Ce s'.sl t) : ∀ x ∈ op.operands, s.raw x = s'.raw x := by
 intro x hx
 cases x with
 | tmp t => exact h t (by simp only [Ke, Ft, A0, List.mem_filterMap]; exact .inl ⟨.tmp t, by simpa using hx, rfl⟩)
 | const v => rfl
 | global g => rfl
 | func f => rfl
theorem Ao3 {op : Op} {ty : TypeId} {raw raw' : Operand -> AV} {o : Nat -> Ob} {nid : Nat} (h : ∀ x ∈ op.operands, raw x = raw' x) : vop P op ty raw o nid = vop P op ty raw' o nid := by
 have hp : ∀ (ps : Array (Nat × Operand)), (∀ p ∈ ps, raw p.2 = raw' p.2) -> (ps.toList.map fun p => (p.1, (raw p.2).sv)) = (ps.toList.map fun p => (p.1, (raw' p.2).sv)) := fun ps hps => List.map_congr_left fun p hp => by rw [hps p (by simpa using hp)]
 cases op with
 | move x => simp only [vop, h x (by simp [Op.operands])]
 | assign x => simp only [vop, h x (by simp [Op.operands])]
 | box t x => simp only [vop, h x (by simp [Op.operands])]
 | build t ps => simp only [vop]; rw [hp ps fun p hp => h p.2 (by simp only [Op.operands, List.mem_toArray, A4]; exact ⟨p, by simpa using hp, rfl⟩)]
 | buildSlice t n ps => simp only [vop]; rw [hp ps fun p hp => h p.2 (by simp only [Op.operands, List.mem_toArray, A4]; exact ⟨p, by simpa using hp, rfl⟩)]
 | load t x => simp only [vop, h x (by simp [Op.operands])]
 | store t x y => simp only [vop, h x (by simp [Op.operands]), h y (by simp [Op.operands])]
 | nilCheck x => simp only [vop, h x (by simp [Op.operands])]
 | binOp op t x y u => simp only [vop, h x (by simp [Op.operands]), h y (by simp [Op.operands])]
 | unOp op t x => simp only [vop, h x (by simp [Op.operands])]
 | convert s d x => simp only [vop, h x (by simp [Op.operands])]
 | makeFunc f fi cs =>
  cases f with
  | func f =>
   simp only [vop]
   rw [List.map_congr_left (l := cs.toList) fun x hx => by rw [h x (by simp only [Op.operands, Array.mem_append]; exact .inr (by simpa using hx))]]
  | _ => rfl
 | makeSlice t x y => simp only [vop, h x (by simp [Op.operands]), h y (by simp [Op.operands])]
 | slice t x lo hi mx =>
  cases mx with
  | some m => rfl
  | none =>
   simp only [vop, h x (by simp [Op.operands])]
   have h1 : lo.map (fun x => (raw x).sv) = lo.map (fun x => (raw' x).sv) := by
    cases lo with
    | none => rfl
    | some y => simp only [Ai, h y (by simp [Op.operands])]
   have h2 : hi.map (fun x => (raw x).sv) = hi.map (fun x => (raw' x).sv) := by
    cases hi with
    | none => rfl
    | some y => simp only [Ai, h y (by simp [Op.operands])]
   rw [h1, h2]
 | fieldAddr s x f => simp only [vop, h x (by simp [Op.operands])]
 | indexAddr t x i => simp only [vop, h x (by simp [Op.operands]), h i (by simp [Op.operands])]
 | extract x i => simp only [vop, h x (by simp [Op.operands])]
 | call c =>
  obtain ⟨callee, args, ts⟩ := c
  cases callee with
  | value f => rfl
  | invoke r m => rfl
  | builtin b =>
   have hs' : ∀ x ∈ args.toList, raw x = raw' x := fun x hx => h x (by simp [Op.operands, Call.operands]; simpa using hx)
   simp only [vop]
   split
   ·rename_i x t e1 _; rw [hs' x (by rw [e1]; simp)]
   ·rename_i d x t t' e1 _; rw [hs' x (by rw [e1]; simp), hs' d (by rw [e1]; simp)]
   ·rename_i d x t t' e1 _; rw [hs' x (by rw [e1]; simp), hs' d (by rw [e1]; simp)]
   ·rename_i x t e1 _; rw [hs' x (by rw [e1]; simp)]
   ·rename_i x y e1; rw [hs' x (by simp_all), hs' y (by simp_all)]
   ·rename_i x y e1; rw [hs' x (by simp_all), hs' y (by simp_all)]
   ·rename_i x y z e1; rw [hs' x (by simp_all), hs' y (by simp_all), hs' z (by simp_all)]
   rfl
 | _ => rfl
theorem Anl {op : Op} {raw raw' : Operand -> AV} (h : ∀ x ∈ op.operands, raw x = raw' x) (hb : Mo raw op) : Mo raw' op := by
 have := Ag0 hb
 unfold Mo at hb ⊢
 split <;> first
  | (rw [<- h _ (by simp [Op.operands])]; exact hb)
  | (rw [<- h _ (by simp [Op.operands]), <- h _ (by simp [Op.operands])]; exact hb)
  | (exact Am.2 fun x hx => by rw [<- h x (by simpa using hx)]; exact this x (by simpa using hx))
theorem Ajr {op : Op} {ty : TypeId} {g : Gd} {s s' : St} {nid : Nat} {e : AV × List (Nat × Ob)} (hs : ∀ t ∈ Ke op g, Ce s.sl t = Ce s'.sl t) (ho : ∀ id ∈ Cs op s, s.o id = s'.o id) (h : Qq P op ty s nid e) : Qq P op ty s' nid e := by
 have hraw := Ane hs
 cases hv : G0 op with
 | true =>
  cases op <;> simp only [G0, Bl, reduceCtorEq] at hv
  ·rename_i x
   have hx : s.raw x = s'.raw x := hraw x (by simp [Op.operands])
   obtain ⟨h1, rfl⟩ := h
   refine ⟨?_, ?_⟩
   ·revert h1; simp only [Eu, Mo, vop, Op.operands]; rw [hx]; exact id
   simp only [Fs, vop]; rw [hx]
  rename_i x
  have hx : s.raw x = s'.raw x := hraw x (by simp [Op.operands])
  obtain ⟨h1, rfl⟩ := h
  refine ⟨?_, ?_⟩
  ·revert h1; simp only [Eu, Mo, vop, Op.operands]; rw [hx]; exact id
  simp only [Fs, vop]; rw [hx]
 | false =>
 have hids : ∀ x ∈ op.operands, ∀ id ∈ (s.raw x).ids, s.o id = s'.o id := fun x hx id hid => ho id (Acz hv (Aar (A4.2 ⟨x, by simpa [Ft] using hx, rfl⟩) hid))
 unfold Qq at h ⊢
 split at h
 ·rename_i fo args ts
  have hx : ∀ x ∈ args.toList, s.raw x = s'.raw x := fun x hx => hraw x (by simp [Op.operands, Call.operands]; exact .inr (by simpa using hx))
  have hf : s.raw fo = s'.raw fo := hraw fo (by simp [Op.operands, Call.operands])
  have hm : args.toList.map (fun x => (s.raw x).sv) = args.toList.map (fun x => (s'.raw x).sv) := List.map_congr_left fun x h => by rw [hx x h]
  obtain ⟨⟨h1, h2⟩, h⟩ := h
  refine ⟨⟨by rw [<- hf]; exact h1, Am.2 fun x h => by rw [<- hx x h]; exact Am.1 h2 x h⟩, ?_⟩
  have hsub : ∀ (caps : List AV) (f : FuncId), (s.raw fo).sv = .fn f caps -> ∀ id ∈ Ef (args.toList.map (fun x => (s.raw x).sv) ++ caps), id ∈ Ef ((Ft (.call ⟨.value fo, args, ts⟩)).map s.raw) := fun caps f h3 id hid => by
   rw [Ahb, A0] at hid
   rcases hid with hid | hid
   ·have : ∃ x ∈ args.toList, id ∈ (s.raw x).ids := by
     clear h2 h hm hx
     generalize args.toList = l at hid
     induction l with
     | nil => simp [Ef] at hid
     | cons y ys ih =>
      simp only [List.map_cons, Ef, A0] at hid
      rcases hid with hid | hid
      ·exact ⟨y, by simp, Aec _ hid⟩
      obtain ⟨x, h8, h9⟩ := ih hid
      exact ⟨x, by simp [h8], h9⟩
    obtain ⟨x, h8, h9⟩ := this
    exact Aar (A4.2 ⟨x, by simp only [Ft, Op.operands, Call.operands]; simp; exact .inr (by simpa using h8), rfl⟩) h9
   exact Aar (A4.2 ⟨fo, by simp [Ft, Op.operands, Call.operands], rfl⟩) (Aec _ (by rw [h3]; exact hid))
  rcases h with ⟨f, caps, σr, res, h3, h4, h5, h6, h7⟩ | ⟨f, caps, sel, σr, res, h3, h4, h5⟩
  ·have hl := Hy (o := s.o) (o' := s'.o) (args.toList.map (fun x => (s.raw x).sv) ++ caps) fun id hid => ho id (Acz rfl (hsub caps f h3 id hid))
   refine .inl ⟨f, caps, σr, res, by rw [<- hf]; exact h3, ?_, ?_, by rw [<- hm]; exact h6, h7⟩
   ·rw [<- hm, <- hl.1]; exact h4
   rw [<- hm, <- hl.2]; exact h5
  refine .inr ⟨f, caps, sel, σr, res, by rw [<- hf]; exact h3, ?_, h5⟩
  rw [<- hm]
  refine h4.local fun id hid => ho id ?_
  have hval : Cs (.call ⟨.value fo, args, ts⟩) s = rdC s.o (Ef ((Ft (.call ⟨.value fo, args, ts⟩)).map s.raw)) := rfl
  rw [hval]
  simp only [rdC, A0] at hid ⊢
  rcases hid with hid | hid
  ·exact .inl (hsub caps f h3 id hid)
  obtain ⟨y, h8, h9⟩ := Adf hid
  exact .inr (Ahh (hsub caps f h3 y h8) h9)
 obtain ⟨h1, h2⟩ := h
 by_cases hp : ∃ c x y, op = .pick c x y
 ·obtain ⟨c, x, y, rfl⟩ := hp
  have e1 := hraw c (by simp [Op.operands])
  have e2 := hraw x (by simp [Op.operands])
  have e3 := hraw y (by simp [Op.operands])
  simp only [Eu, Fs] at h1 h2 ⊢
  rw [<- e1, <- e2, <- e3]
  exact ⟨h1, h2⟩
 rw [Aa2 fun c x y e => hp ⟨c, x, y, e⟩] at h1 ⊢
 rw [Aay fun c x y e => hp ⟨c, x, y, e⟩] at h2 ⊢
 have ev : vop P op ty s.raw s.o nid = vop P op ty s'.raw s'.o nid := by rw [Akl hids, Ao3 hraw]
 rw [<- ev]
 exact ⟨⟨Anl hraw h1.1, h1.2⟩, h2⟩
end
end Go.Proofs.YtkkimgjinbaemaaGreat
