/- The walk. -/
import Derived.Test.YtkkimgjinbaemaaGreatKac
namespace Go.Proofs.YtkkimgjinbaemaaGreat
open Go.RowKit
set_option linter.unusedVariables false
set_option linter.unusedSimpArgs false
set_option maxRecDepth 100000
set_option maxHeartbeats 4000000
section
variable {P : Program}
def Ik : Ob -> List (List T)
 | .row _ _ _ _ es => es
 | _ => []
def Ak0 : Ob -> Bool
 | .row _ _ f _ _ => f
 | _ => true
def O2 : Ob -> Nat
 | .row _ k _ _ _ => k
 | _ => 0
def Db : Ob -> Bool
 | .row _ _ _ _ _ => true
 | _ => false
def Dr (o : Nat -> Ob) : AV -> List (List T)
 | .imm _ _ es => es
 | .own id _ => Ik (o id)
 | .sub id _ lo m => ((Ik (o id)).drop lo).take m
 | _ => []
def Mt (o : Nat -> Ob) : AV -> Bool
 | .imm fr _ _ => fr
 | .own id _ => Ak0 (o id)
 | .sub id _ _ _ => Ak0 (o id)
 | _ => true
def Yj (o : Nat -> Ob) (k : Nat) : AV -> Prop
 | .nil _ => True
 | .imm _ k' _ => k' = k
 | .own id n => Db (o id) = true /\ O2 (o id) = k /\ n = (Ik (o id)).length
 | .sub id n lo m => Db (o id) = true /\ O2 (o id) = k /\ n = (Ik (o id)).length
 | _ => False
def Src (C : VC) (u : Value) (f : Bool) (k : Nat) (es : List (List T)) : Prop :=
 ∃ A c, u = .slice A es.length c /\ es.length <= c /\ (∀ (i : Nat) (e : List T), es[i]? = some e -> e.length = k) /\ (es = [] \/ ∃ b off cur ty fz, A = some ⟨b, off, none⟩ /\ C.h[b]? = some (.cells cur ty fz) /\
  ∀ (i : Nat) (e : List T) (j : Nat) (x : T), es[i]? = some e -> e[j]? = some x -> ∃ u, cur[off + i * k + j]? = some u /\ Do C.h (C.S f) x u)
theorem Hl {ob : Ob} (h : Db ob = true) : ∃ ty fz, ob = .row ty (O2 ob) (Ak0 ob) fz (Ik ob) := by
 cases ob with
 | row ty k fr fz es => exact ⟨ty, fz, rfl⟩
 | _ => cases h
theorem Rel.row_cells {E : Ent} {β : Nat -> Option Nat} {st : St} {a : Act} {w : World} (r : Rel E β st a w) {id ty k : Nat} {fr fz : Bool} {es : List (List T)} (h : st.o id = .row ty k fr fz es) :
 0 < k /\ (∀ (i : Nat) (e : List T), es[i]? = some e -> e.length = k) /\ ((β id = none /\ es = []) \/ ∃ b cur c, β id = some b /\ w.heap[b]? = some (.cells cur ty (0, 0)) /\ cur.size = c * k /\ es.length <= c /\ c <= maxLen /\
  ∀ (i : Nat) (e : List T) (j : Nat) (x : T), es[i]? = some e -> e[j]? = some x -> ∃ u, cur[i * k + j]? = some u /\ Do w.heap ((E.C β st w).S fr) x u) := by
 have hr := r.ob id
 rw [h] at hr
 obtain ⟨⟨h1, h2⟩, h3⟩ := hr
 have hC : (E.C β st w).β id = β id := rfl
 rw [hC] at h3
 refine ⟨h1, h2, ?_⟩
 cases hb : β id with
 | none => rw [hb] at h3; exact .inl ⟨rfl, h3⟩
 | some b =>
  rw [hb] at h3
  obtain ⟨cur, c, g1, g2, g3, g4, g5⟩ := h3
  exact .inr ⟨b, cur, c, rfl, g1, g2, g3, g4, g5⟩
theorem Rel.own_val {E : Ent} {β : Nat -> Option Nat} {st : St} {a : Act} {w : World} (r : Rel E β st a w) {id n ty k : Nat} {fr fz : Bool} {es : List (List T)} (h : st.o id = .row ty k fr fz es) {u : Value} (hu : Aa7 (E.C β st w) id n u) (hn : n = es.length) :
 (β id = none /\ es = [] /\ ∃ A, u = .slice A 0 0) \/ ∃ b cur c, β id = some b /\ w.heap[b]? = some (.cells cur ty (0, 0)) /\ cur.size = c * k /\ es.length <= c /\ c <= maxLen /\ u = .slice (some ⟨b, 0, none⟩) es.length c /\
  ∀ (i : Nat) (e : List T) (j : Nat) (x : T), es[i]? = some e -> e[j]? = some x -> ∃ u, cur[i * k + j]? = some u /\ Do w.heap ((E.C β st w).S fr) x u := by
 obtain ⟨_, ty', k', fr', fz', es', ho, _, h1⟩ := hu
 have ho : st.o id = _ := ho
 rw [h] at ho
 injection ho with e1 e2 e3 e4 e5
 subst e1 e2 e3 e4 e5
 have h1 := h1 hn
 have hC : (E.C β st w).β id = β id := rfl
 rw [hC] at h1
 obtain ⟨hk, _, hr⟩ := r.row_cells h
 rcases hr with ⟨hb, he⟩ | ⟨b, cur, c, hb, g1, g2, g3, g4, g5⟩
 ·rw [hb] at h1
  exact .inl ⟨hb, he, h1⟩
 rw [hb] at h1
 obtain ⟨c', cur', q1, q2, q3⟩ := h1
 have q1 : w.heap[b]? = _ := q1
 rw [g1] at q1
 injection q1 with q1
 injection q1 with q1
 subst q1
 have : c * k = c' * k := g2.symm.trans q2
 have := Nat.eq_of_mul_eq_mul_right hk this
 subst this
 exact .inr ⟨b, cur, c, hb, g1, g2, g3, g4, by rw [q3, hn], g5⟩
theorem Ub {E : Ent} {β : Nat -> Option Nat} {st : St} {a : Act} {w : World} (r : Rel E β st a w) {x : AV} {u : Value} (hx : Br (E.C β st w) x u) {k : Nat} (hc : Yj st.o k x) : Src (E.C β st w) u (Mt st.o x) k (Dr st.o x) := by
 cases hx with
 | nil k' A => exact ⟨A, 0, rfl, Aj _, fun i e he => by simp [Dr] at he, .inl rfl⟩
 | imm fr k' es u h =>
  have hc : k' = k := hc
  subst hc
  cases h with
  | nil k A c => exact ⟨A, c, rfl, Ae _, fun i e he => by simp [Dr] at he, .inl rfl⟩
  | sl k es b off c cur ty fz us h1 h2 h3 h4 h5 h6 => exact ⟨_, c, rfl, h3, h4, .inr ⟨b, off, cur, ty, fz, rfl, h1, fun i e j x he hx => ⟨_, h5 i e j x he hx, h6 i e j x he hx⟩⟩⟩
 | own id n u h =>
  obtain ⟨h1, rfl, h3⟩ := hc
  obtain ⟨ty, fz, ho⟩ := Hl h1
  obtain ⟨hk, hel, _⟩ := r.row_cells ho
  rcases r.own_val ho h h3 with ⟨hb, he, A, rfl⟩ | ⟨b, cur, c, hb, g1, g2, g3, g4, rfl, g5⟩
  ·have he2 : Dr st.o (.own id n) = [] := he
   refine ⟨A, 0, ?_, ?_, fun i e he' => ?_, .inl he2⟩
   ·rw [he2]; rfl
   ·rw [he2]; exact Aj _
   rw [he2] at he'; simp at he'
  exact ⟨_, c, rfl, g3, hel, .inr ⟨b, 0, cur, ty, (0, 0), rfl, g1, fun i e j x he hx => by rw [Bm]; exact g5 i e j x he hx⟩⟩
 | sub id n lo m u h =>
  obtain ⟨h1, rfl, h3⟩ := hc
  obtain ⟨ty, fz, ho⟩ := Hl h1
  obtain ⟨hk, hel, hcell⟩ := r.row_cells ho
  obtain ⟨_, ty', k', fr', fz', es', ho', _, h5⟩ := h
  have ho' : st.o id = _ := ho'
  rw [ho] at ho'
  injection ho' with e1 e2 e3 e4 e5
  subst e1 e2 e3 e4 e5
  obtain ⟨h6, A, c, rfl, h7, _, h8⟩ := h5 h3
  have hlen : (((Ik (st.o id)).drop lo).take m).length = m := by rw [A5, Bc]; omega
  have hget : ∀ (i : Nat) (e : List T), (((Ik (st.o id)).drop lo).take m)[i]? = some e -> (Ik (st.o id))[lo + i]? = some e /\ i < m := fun i e he => by
   have hi : i < m := by rw [<- hlen]; exact (Ab.1 he).1
   rw [Ag hi, Bd] at he
   exact ⟨he, hi⟩
  refine ⟨A, c, by simp only [Dr, hlen], by simp only [Dr, hlen]; exact h7, fun i e he => hel _ e (hget i e he).1, ?_⟩
  rcases h8 with h8 | ⟨b, hb, rfl⟩
  ·obtain rfl : m = 0 := by omega
   exact .inl (by simp [Dr])
  rcases hcell with ⟨hb', _⟩ | ⟨b', cur, c', hb', g1, g2, g3, g4, g5⟩
  ·have hb : β id = _ := hb
   rw [hb'] at hb; cases hb
  have hb : β id = _ := hb
  rw [hb'] at hb
  injection hb with hb
  subst hb
  refine .inr ⟨b', _, cur, ty, (0, 0), rfl, g1, fun i e j x he hx => ?_⟩
  obtain ⟨u, q1, q2⟩ := g5 (lo + i) e j x (hget i e he).1 hx
  exact ⟨u, by rw [<- q1, Be], q2⟩
 | _ => exact hc.elim
theorem Src.news {C : VC} {u : Value} {f : Bool} {k : Nat} {es : List (List T)} (h : Src C u f k es) (hk : 0 < k) (w : World) (hw : w.heap = C.h) (hne : es ≠ []) :
 ∃ (b off c : Nat) (news : List Value), u = .slice (some ⟨b, off, none⟩) es.length c /\ news.length = es.length * k /\ (∀ (j : Nat) (x : Value), news[j]? = some x -> w.cell? ((⟨b, off, none⟩ : Addr).add j) = some x) /\ (∀ x ∈ news, x.oneCell' = true) /\
  ∀ (i : Nat) (e : List T) (j : Nat) (x : T), es[i]? = some e -> e[j]? = some x -> ∃ u, news[i * k + j]? = some u /\ Do C.h (C.S f) x u := by
 obtain ⟨A, c, hu, hle, hel, h1⟩ := h
 rcases h1 with h1 | ⟨b, off, cur, ty, fz, rfl, hb, hcell⟩
 ·exact absurd h1 hne
 have hcell' : ∀ n, n < es.length * k -> ∃ u x, cur[off + n]? = some u /\ Do C.h (C.S f) x u := fun n hn => by
  have hi : n / k < es.length := Nat.div_lt_of_lt_mul (by rw [Nat.mul_comm]; exact hn)
  have hj : n % k < k := Nat.mod_lt _ hk
  have he := Aa hi
  have hl := hel _ _ he
  obtain ⟨u, q1, q2⟩ := hcell (n / k) _ (n % k) _ he (Aa (by omega))
  refine ⟨u, _, ?_, q2⟩
  rw [<- q1]
  congr 1
  rw [Nat.mul_comm, Af, Nat.div_add_mod]
 have hnews : ∀ n, n < es.length * k -> ((List.range (es.length * k)).map fun n => (cur[off + n]?).getD undef)[n]? = cur[off + n]? := fun n hn => by
  obtain ⟨u, _, q, _⟩ := hcell' n hn
  rw [Ap, List.getElem?_range hn]; simp only [Ai, q, Bh]
 refine ⟨b, off, c, (List.range (es.length * k)).map fun n => (cur[off + n]?).getD undef, hu, by simp, fun j x hx => ?_, fun x hx => ?_, fun i e j x he hx => ?_⟩
 ·have hj : j < es.length * k := by have := (Ab.1 hx).1; simpa using this
  rw [hnews j hj] at hx
  rw [Addr.add_lit, cell_of_row w b _ cur ty fz (by rw [hw]; exact hb)]
  exact hx
 ·obtain ⟨j, hj⟩ := A3.1 hx
  have hj' : j < es.length * k := by have := (Ab.1 hj).1; simpa using this
  rw [hnews j hj'] at hj
  obtain ⟨u, y, q1, q2⟩ := hcell' j hj'
  rw [q1] at hj
  injection hj with hj
  subst hj
  exact q2.one
 obtain ⟨u, q1, q2⟩ := hcell i e j x he hx
 have hi : i < es.length := (Ab.1 he).1
 have hj : j < k := by rw [<- hel i e he]; exact (Ab.1 hx).1
 have : i * k + j < es.length * k := by
  have := A1 k (show i + 1 <= es.length by omega)
  rw [Be] at this; omega
 exact ⟨u, by rw [hnews _ this, <- q1, Af], q2⟩
theorem Aex {R : T -> Value -> Prop} {k : Nat} {es es2 : List (List T)} {cs cs2 : List Value} (hl : cs.length = es.length * k) (hel : ∀ (i : Nat) (e : List T), es[i]? = some e -> e.length = k)
 (h1 : ∀ (i : Nat) (e : List T) (j : Nat) (x : T), es[i]? = some e -> e[j]? = some x -> ∃ u, cs[i * k + j]? = some u /\ R x u)
  (h2 : ∀ (i : Nat) (e : List T) (j : Nat) (x : T), es2[i]? = some e -> e[j]? = some x -> ∃ u, cs2[i * k + j]? = some u /\ R x u) :
  ∀ (i : Nat) (e : List T) (j : Nat) (x : T), (es ++ es2)[i]? = some e -> e[j]? = some x -> ∃ u, (cs ++ cs2)[i * k + j]? = some u /\ R x u := by
 intro i e j x he hx
 by_cases hi : i < es.length
 ·rw [Au hi] at he
  obtain ⟨u, q1, q2⟩ := h1 i e j x he hx
  exact ⟨u, by rw [Au (Ab.1 q1).1]; exact q1, q2⟩
 rw [Ao (by omega)] at he
 obtain ⟨u, q1, q2⟩ := h2 _ e j x he hx
 have : es.length * k <= i * k := A1 k (by omega)
 refine ⟨u, ?_, q2⟩
 rw [Ao (by omega), hl, <- q1, Nat.sub_mul]
 congr 1
 omega
theorem Mm {P : Program} (w : World) (t ty e : TypeId) (i : TypeInfo) (ht : P.underlying t = some (.slice e)) (hi : P.info? e = some i) (A : Option Addr) (n cap : Nat) (hn : n <= cap) (X : Option Addr) (c : Nat) :
 (Builtin.append_ #[t, t] ty #[.slice A n cap, .slice X 0 c]).run P w = .ok (.slice A n cap) w := by
 have hl : ∀ (x : Addr), (loadCells x 0).run P w = .ok #[] w := fun x => by simpa using run_loadCells_list (P := P) w x [] (by simp)
 cases A <;> cases X <;> simp [Builtin.append_, run_underlying ht, sizeOf, typeInfo, hi, Builtin.lenOf, Builtin.firstCells, hn, storeCells, hl]
theorem Lf {P : Program} (w : World) (t ty e : TypeId) (i : TypeInfo) (z : Value) (k : Nat) (ht : P.underlying t = some (.slice e)) (hi : P.info? e = some i) (hz : i.zero = some z) (hk : i.size = k) (hzs : z.cells.size = k)
 (A : Option Addr) (n cap : Nat) (olds : List Value) (hlo : olds.length = n * k) (hA : A = none -> n = 0 /\ cap = 0) (holds : ∀ b, A = some b -> ∀ (j : Nat) (v : Value), olds[j]? = some v -> w.cell? (b.add j) = some v)
  (x : Addr) (m c : Nat) (news : List Value) (hl : news.length = m * k) (hnews : ∀ (j : Nat) (v : Value), news[j]? = some v -> w.cell? (x.add j) = some v) (hg : cap < n + m) (hb : i.bytes <= 1000000) (hle : n + m <= 1000000) :
  ∃ (c' : Nat) (cur : Array Value), (Builtin.append_ #[t, t] ty #[.slice A n cap, .slice (some x) m c]).run P w = .ok (.slice (some ⟨w.heap.size, 0, none⟩) (n + m) c') (w.drew.alloc (.cells cur e)) /\
   cur.size = c' * k /\ n + m <= c' /\ c' <= maxLen /\ ∀ (j : Nat) (u : Value), (olds ++ news)[j]? = some u -> cur[j]? = some u := by
 subst hk
 have hmul : (n + m) * i.bytes <= 1000000 * 1000000 := Nat.mul_le_mul hle hb
 have h63 : n + m <= maxLen := by simp only [maxLen]; omega
 have hge := grownCap_ge w (n + m) cap e
 have hcm : grownCap w (n + m) cap e <= maxLen := grownCap_le_maxLen w (n + m) cap e h63
 cases A with
 | none =>
  obtain ⟨rfl, rfl⟩ := hA rfl
  have ho : olds = [] := List.eq_nil_of_length_eq_zero (by omega)
  subst ho
  rw [Bm] at *
  refine ⟨_, _, run_append_nil (P := P) w t ty e i z ht hi hz x m c news hl hnews (by omega) (by omega) (by omega), ?_, hge, hcm, fun j u hu => ?_⟩
  ·rw [Array.size_append, size_zeroCells, hzs, List.size_toArray, hl, <- Be]
   congr 1; omega
  have hj : j < news.length := by simpa using (Ab.1 hu).1
  rw [Bk (by simpa using hj)]
  simpa using hu
 | some b =>
  refine ⟨_, _, run_append_grow (P := P) w t ty e i z ht hi hz b n cap olds hlo (holds b rfl) x m c news hl hnews hg (by omega) (growslice_fits hg (by omega)), ?_, hge, hcm, fun j u hu => ?_⟩
  ·rw [Array.size_append, Array.size_append, size_zeroCells, hzs, List.size_toArray, List.size_toArray, hl, hlo, <- Be, <- Be]
   congr 1; omega
  have hj : j < olds.length + news.length := by simpa using (Ab.1 hu).1
  rw [Bk (by simp; omega)]
  simpa using hu
def J9 (P : Program) (t : TypeId) (dst src : AV) (o : Nat -> Ob) (nid : Nat) : Eff :=
 match dst with
 | .nil _ => ⟨.own nid (Dr o src).length, [(nid, .row (Bs P t) (tsz P (Bs P t)) (Mt o src) false (Dr o src))],
  Ex P t = true /\ zok P (Bs P t) = true /\ 0 < tsz P (Bs P t) /\ Gp P (Bs P t) <= 1000000 /\ Yj o (tsz P (Bs P t)) src /\ (Dr o src).length <= 1000000⟩
 | .own id n => match o id with
  | .row ty k fr fz es => ⟨.own id (n + (Dr o src).length), [(id, .row ty k (fr && Mt o src) false (es ++ Dr o src))],
   Ex P t = true /\ zok P (Bs P t) = true /\ 0 < tsz P (Bs P t) /\ Gp P (Bs P t) <= 1000000 /\ Yj o (tsz P (Bs P t)) src /\ n + (Dr o src).length <= 1000000 /\ ty = Bs P t /\ k = tsz P (Bs P t) /\ fz = false /\ n = es.length⟩
  | _ => .bad
 | _ => .bad
theorem Ws {E : Ent} {β : Nat -> Option Nat} {st : St} {a : Act} {w w1 : World} (r : Rel E β st a w) {id ty k : Nat} {fr : Bool} {es : List (List T)} {cur : Array Value} {c : Nat}
 (hid : st.o id = .gone \/ ∃ ty' k' fr' fz' es' fr2 fz2 es2, st.o id = .row ty' k' fr' fz' es' /\ (.row ty k fr false es : Ob) = .row ty' k' fr2 fz2 es2 /\ es'.length < es2.length) (hk : 0 < k) (hel : ∀ (i : Nat) (e : List T), es[i]? = some e -> e.length = k) (hcur : cur.size = c * k) (hle : es.length <= c) (hm : c <= maxLen)
  (hcell : ∀ (i : Nat) (e : List T) (j : Nat) (x : T), es[i]? = some e -> e[j]? = some x -> ∃ u, cur[i * k + j]? = some u /\ Do w.heap ((E.C β st w).S fr) x u) (hw : w1 = w.drew.alloc (.cells cur ty)) :
  Rel E (upd β id w.heap.size) (st.set id (.row ty k fr false es)) a w1 /\ Br (E.C (upd β id w.heap.size) (st.set id (.row ty k fr false es)) w1) (.own id es.length) (.slice (some ⟨w.heap.size, 0, none⟩) es.length c) := by
 subst hw
 have r' : Rel E β st a w.drew := r.drew _
 refine ⟨r'.bind hid (by simp) cur ty fun C s hb hh => ?_, ?_⟩
 ·refine ⟨⟨hk, hel⟩, ?_⟩
  have hb : C.β id = some w.heap.size := hb
  rw [hb]
  refine ⟨cur, c, hh, hcur, hle, hm, fun i e j x he hx => ?_⟩
  obtain ⟨u, h1, h2⟩ := hcell i e j x he hx
  exact ⟨u, h1, s.T h2⟩
 refine .own _ _ _ ⟨rfl, ty, k, fr, false, es, by show (st.set _ _).o _ = _; rw [St.set_o, if_pos rfl], Aj _, fun _ => ?_⟩
 have : (E.C (upd β id w.heap.size) (st.set id (.row ty k fr false es)) (w.drew.alloc (.cells cur ty))).β id = some w.heap.size := Uy _ _ _
 rw [this]
 exact ⟨c, cur, heap_alloc_new w.drew _, hcur, rfl⟩
theorem Aln {E : Ent} {β : Nat -> Option Nat} {st : St} {a : Act} {w : World} (r : Rel E β st a w) {nid : Nat} {t ty : TypeId} {d x : AV} (hn : (∃ k, d = .nil k) -> st.o nid = .gone) {ud ux : Value} (hd : Br (E.C β st w) d ud) (hx : Br (E.C β st w) x ux) (hc : (J9 P t d x st.o nid).c) :
 ∃ u w' β' id o, (Builtin.append_ #[t, t] ty #[ud, ux]).run P w = .ok u w' /\ (J9 P t d x st.o nid).up = [(id, o)] /\ Rel E β' (st.set id o) a w' /\ Br (E.C β' (st.set id o) w') (J9 P t d x st.o nid).v u := by
 cases hd with
 | nil k0 A =>
  have hn := hn ⟨k0, rfl⟩
  obtain ⟨h1, h2, h3, h4, h5, h6⟩ := hc
  obtain ⟨i, z, hi, hz, hsz, hzs, _, _⟩ := Mr h2
  have hby : i.bytes <= 1000000 := by simpa [Gp, hi] using h4
  have hs := Ub r hx h5
  by_cases he : Dr st.o x = []
  ·obtain ⟨A', c, rfl, _⟩ := hs
   obtain ⟨q1, q2⟩ := r.empty hn (Bs P t) h3 (Mt st.o x)
   simp only [J9, he]
   exact ⟨_, _, _, nid, _, Mm w t ty _ i (Cy h1) hi A 0 0 (Aj _) A' c, rfl, q1, q2 A⟩
  have hpos : 0 < (Dr st.o x).length := List.length_pos_iff.2 he
  obtain ⟨b, off, c, news, rfl, n1, n2, n3, n4⟩ := hs.news h3 w rfl he
  obtain ⟨_, _, _, _, hel, _⟩ := hs
  obtain ⟨c', cur, g1, g2, g3, g4, g5⟩ := Lf w t ty _ i z _ (Cy h1) hi hz hsz hzs A 0 0 [] (by simp) (fun _ => ⟨rfl, rfl⟩) (by simp) ⟨b, off, none⟩ _ c news n1 n2 (by omega) hby (by omega)
  rw [Bm] at g1 g3
  obtain ⟨q1, q2⟩ := Ws r (ty := Bs P t) (fr := Mt st.o x) (es := Dr st.o x) (.inl hn) h3 hel g2 g3 g4 (fun i e j y he hy => by
   obtain ⟨u, p1, p2⟩ := n4 i e j y he hy
   exact ⟨u, g5 _ u (by simpa using p1), p2⟩) rfl
  exact ⟨_, _, _, nid, _, g1, rfl, q1, q2⟩
 | own id n u h =>
  have h' := h
  obtain ⟨_, ty0, k, fr, fz, es, ho, _, _⟩ := h'
  have ho : st.o id = _ := ho
  simp only [J9, ho] at hc ⊢
  obtain ⟨h1, h2, h3, h4, h5, h6, rfl, rfl, rfl, h7⟩ := hc
  obtain ⟨i, z, hi, hz, hsz, hzs, _, _⟩ := Mr h2
  have hby : i.bytes <= 1000000 := by simpa [Gp, hi] using h4
  have hs := Ub r hx h5
  obtain ⟨hk, helO, _⟩ := r.row_cells ho
  have hlen : (es ++ Dr st.o x).length = n + (Dr st.o x).length := by rw [Bo, h7]
  by_cases he : Dr st.o x = []
  ·obtain ⟨A', c, rfl, _⟩ := hs
   obtain ⟨q1, q2⟩ := r.flag ho (fr' := fr && Mt st.o x) (fz' := false) (fun e => by simp only [Ah] at e; exact .inl e.1) fun e => rfl
   have hval : ∃ A cc, ud = .slice A n cc /\ n <= cc := by
    rcases r.own_val ho h h7 with ⟨_, e, A, rfl⟩ | ⟨b, cur, c, _, _, _, g3, _, rfl, _⟩
    ·exact ⟨A, 0, by rw [h7, e]; rfl, by rw [h7, e]; exact Aj _⟩
    exact ⟨_, c, by rw [h7], by omega⟩
   obtain ⟨A, cc, rfl, hcc⟩ := hval
   simp only [he, List.append_nil, List.length_nil, Nat.add_zero]
   exact ⟨_, _, _, id, _, Mm w t ty _ i (Cy h1) hi A n cc hcc A' c, rfl, q1, (Br.own id n _ h).step q2⟩
  have hpos : 0 < (Dr st.o x).length := List.length_pos_iff.2 he
  obtain ⟨xb, xo, xc, news, rfl, n1, n2, n3, n4⟩ := hs.news h3 w rfl he
  obtain ⟨_, _, _, _, hel, _⟩ := hs
  have helA : ∀ (i : Nat) (e : List T), (es ++ Dr st.o x)[i]? = some e -> e.length = tsz P (Bs P t) := fun i e hie => by
   by_cases hlt : i < es.length
   ·rw [Au hlt] at hie; exact helO i e hie
   rw [Ao (by omega)] at hie; exact hel _ e hie
  have n4' : ∀ (i : Nat) (e : List T) (j : Nat) (y : T), (Dr st.o x)[i]? = some e -> e[j]? = some y -> ∃ u, news[i * tsz P (Bs P t) + j]? = some u /\ Do w.heap ((E.C β st w).S (fr && Mt st.o x)) y u := fun i e j y h1 h2 => by
   obtain ⟨u, p1, p2⟩ := n4 i e j y h1 h2
   exact ⟨u, p1, VC.T_weak p2 fun e => by simp only [Ah] at e; exact e.2⟩
  have hbind : ∀ (es2 : List (List T)), es.length < es2.length -> (st.o id = .gone \/ ∃ ty' k' fr' fz' es' fr2 fz2 es3, st.o id = .row ty' k' fr' fz' es' /\ (.row (Bs P t) (tsz P (Bs P t)) (fr && Mt st.o x) false es2 : Ob) = .row ty' k' fr2 fz2 es3 /\ es'.length < es3.length) := fun es2 hl => .inr ⟨_, _, _, _, _, _, _, _, ho, rfl, hl⟩
  rcases r.own_val ho h h7 with ⟨_, e0, A, rfl⟩ | ⟨b, cur, c, hb, w1, w2, w3, w4, rfl, w5⟩
  ·subst e0
   have h7 : n = 0 := h7
   subst h7
   obtain ⟨c', cur, g1, g2, g3, g4, g5⟩ := Lf w t ty _ i z _ (Cy h1) hi hz hsz hzs A 0 0 [] (by simp) (fun _ => ⟨rfl, rfl⟩) (by simp) ⟨xb, xo, none⟩ _ xc news n1 n2 (by omega) hby (by omega)
   obtain ⟨q1, q2⟩ := Ws r (ty := Bs P t) (fr := fr && Mt st.o x) (es := [] ++ Dr st.o x) (hbind _ (by simpa using hpos)) h3 helA g2 (by simpa using g3) g4 (fun i e j y he hy => by
    obtain ⟨u, p1, p2⟩ := n4' i e j y (by simpa using he) hy
    exact ⟨u, g5 _ u (by simpa using p1), p2⟩) rfl
   refine ⟨_, _, _, id, _, g1, rfl, q1, ?_⟩
   rw [hlen] at q2
   exact q2
  have holds : ∀ (i : Nat) (e : List T) (j : Nat) (y : T), es[i]? = some e -> e[j]? = some y -> ∃ u, (cur.toList.take (es.length * tsz P (Bs P t)))[i * tsz P (Bs P t) + j]? = some u /\ Do w.heap ((E.C β st w).S (fr && Mt st.o x)) y u := fun i e j y hie hy => by
   obtain ⟨u, p1, p2⟩ := w5 i e j y hie hy
   have hj : j < tsz P (Bs P t) := by rw [<- helO i e hie]; exact (Ab.1 hy).1
   have hi' : i < es.length := (Ab.1 hie).1
   have : i * tsz P (Bs P t) + j < es.length * tsz P (Bs P t) := by
    have := A1 (tsz P (Bs P t)) (show i + 1 <= es.length by omega)
    rw [Be] at this; omega
   exact ⟨u, by rw [Ag this]; simpa using p1, VC.T_weak (C := E.C β st w) (g := fr && Mt st.o x) p2 fun e => by simp only [Ah] at e; exact e.1⟩
  have hmulle : es.length * tsz P (Bs P t) <= c * tsz P (Bs P t) := A1 _ w3
  have hol : (cur.toList.take (es.length * tsz P (Bs P t))).length = es.length * tsz P (Bs P t) := by rw [A5, Array.length_toList (xs := cur), w2]; exact Nat.min_eq_left hmulle
  have hcat := Aex hol helO holds n4'
  by_cases hroom : n + (Dr st.o x).length <= c
  ·have hfit : es.length * tsz P (Bs P t) + news.length <= cur.size := by
    rw [n1, w2, <- Be]
    exact A1 _ (by omega)
   have hrun := run_append_room (P := P) w t ty (Bs P t) i (Cy h1) hi b es.length c cur w1 ⟨xb, xo, none⟩ (Dr st.o x).length xc news (by rw [hsz]; exact n1) n2 n3 (by omega) (by rw [hsz]; exact hfit)
   rw [hsz] at hrun
   have q1 := r.change (id := id) (o := .row (Bs P t) (tsz P (Bs P t)) (fr && Mt st.o x) false (es ++ Dr st.o x)) (by rw [ho]; rfl) hb w1 (setRow_heap w b cur _ _ (0, 0) w1) (Eh cur _ _ hfit) (by simp) (fun b' hb' => setRow_other w b b' _ hb') rfl rfl rfl
    (fun ty' cs' e => by rw [ho] at e; cases e) (fun ty' k' fr' fz' es' e => by
     rw [ho] at e
     injection e with e1 e2 e3 e4 e5
     subst e1 e2 e5
     exact ⟨_, _, _, rfl, by simp⟩) (fun C s hCβ hCh => by
     refine ⟨⟨h3, helA⟩, ?_⟩
     rw [hCβ]
     refine ⟨_, c, hCh, by rw [Eh cur _ _ hfit, w2], by omega, w4, fun i e j y hie hy => ?_⟩
     obtain ⟨u, p1, p2⟩ := hcat i e j y hie hy
     refine ⟨u, ?_, s.T p2⟩
     have hlt := (Ab.1 p1).1
     rw [List.getElem?_toArray, Au hlt]
     exact p1) (.inr trivial)
   refine ⟨_, _, β, id, _, hrun, rfl, q1, ?_⟩
   refine .own _ _ _ ⟨rfl, _, _, _, _, _, by show (st.set _ _).o _ = _; rw [St.set_o, if_pos rfl], by omega, fun _ => ?_⟩
   have : (E.C β (st.set id (.row (Bs P t) (tsz P (Bs P t)) (fr && Mt st.o x) false (es ++ Dr st.o x))) (w.setRow b (cur.toList.take (es.length * tsz P (Bs P t)) ++ news ++ cur.toList.drop (es.length * tsz P (Bs P t) + news.length)).toArray)).β id = some b := hb
   rw [this]
   exact ⟨c, _, setRow_heap w b cur _ _ (0, 0) w1, by rw [Eh cur _ _ hfit, w2], by rw [h7]⟩
  obtain ⟨c', cur', g1, g2, g3, g4, g5⟩ := Lf w t ty _ i z _ (Cy h1) hi hz hsz hzs (some ⟨b, 0, none⟩) es.length c (cur.toList.take (es.length * tsz P (Bs P t))) hol (by simp) (fun b' e j v hv => by
   injection e with e
   subst e
   have hj : j < es.length * tsz P (Bs P t) := by rw [<- hol]; exact (Ab.1 hv).1
   rw [Ag hj] at hv
   rw [Addr.add_lit, Bm, cell_of_row w b j cur _ (0, 0) w1]
   simpa using hv) ⟨xb, xo, none⟩ _ xc news n1 n2 (by omega) hby (by omega)
  obtain ⟨q1, q2⟩ := Ws r (ty := Bs P t) (fr := fr && Mt st.o x) (es := es ++ Dr st.o x) (hbind _ (by omega)) h3 helA g2 (by omega) g4 (fun i e j y hie hy => by
   obtain ⟨u, p1, p2⟩ := hcat i e j y hie hy
   exact ⟨u, g5 _ u p1, p2⟩) rfl
  refine ⟨_, _, _, id, _, g1, rfl, q1, ?_⟩
  rw [hlen, h7] at q2
  rw [h7]
  exact q2
 | _ => simp [J9, Eff.bad] at hc
end
end Go.Proofs.YtkkimgjinbaemaaGreat
