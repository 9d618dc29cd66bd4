/- The walk. -/
import Derived.Test.YtkkimgjinbaemaaGreatKaa
namespace Go.Proofs.YtkkimgjinbaemaaGreat
open Go.RowKit
set_option linter.unusedVariables false
set_option linter.unusedSimpArgs false
set_option maxRecDepth 100000
set_option maxHeartbeats 4000000
section
variable {P : Program}
def Kj : Ob -> List (List T)
 | .row _ _ _ _ es => es
 | _ => []
def An5 : Ob -> Bool
 | .row _ _ f _ _ => f
 | _ => true
def Q8 : Ob -> Nat
 | .row _ k _ _ _ => k
 | _ => 0
def Fp : Ob -> Bool
 | .row _ _ _ _ _ => true
 | _ => false
def F7 (o : Nat -> Ob) : AV -> List (List T)
 | .imm _ _ es => es
 | .own id _ => Kj (o id)
 | .sub id _ lo m => ((Kj (o id)).drop lo).take m
 | _ => []
def O4 (o : Nat -> Ob) : AV -> Bool
 | .imm fr _ _ => fr
 | .own id _ => An5 (o id)
 | .sub id _ _ _ => An5 (o id)
 | _ => true
def Aa2 (o : Nat -> Ob) (k : Nat) : AV -> Prop
 | .nil _ => True
 | .imm _ k' _ => k' = k
 | .own id n => Fp (o id) = true /\ Q8 (o id) = k /\ n = (Kj (o id)).length
 | .sub id n lo m => Fp (o id) = true /\ Q8 (o id) = k /\ n = (Kj (o id)).length
 | _ => False
def Src (C : VC) (u : Value) (f : Bool) (k : Nat) (es : List (List T)) : Prop :=
 ∃ A c, u = .slice A es.length c /\ es.length <= c /\ (∀ (i : Nat) (e : List T), es[i]? = some e -> e.length = k) /\ (es = [] \/ ∃ b off cur ty fz, A = some ⟨b, off, none⟩ /\ C.h[b]? = some (.cells cur ty fz) /\
  ∀ (i : Nat) (e : List T) (j : Nat) (x : T), es[i]? = some e -> e[j]? = some x -> ∃ u, cur[off + i * k + j]? = some u /\ F3 C.h (C.S f) x u)
theorem Js {ob : Ob} (h : Fp ob = true) : ∃ ty fz, ob = .row ty (Q8 ob) (An5 ob) fz (Kj ob) := by
 cases ob with
 | row ty k fr fz es => exact ⟨ty, fz, rfl⟩
 | _ => cases h
theorem Rel.row_cells {E : Ent} {β : Nat -> Option Nat} {st : St} {a : Act} {w : World} (r : Rel E β st a w) {id ty k : Nat} {fr fz : Bool} {es : List (List T)} (h : st.o id = .row ty k fr fz es) :
 0 < k /\ (∀ (i : Nat) (e : List T), es[i]? = some e -> e.length = k) /\ ((β id = none /\ es = []) \/ ∃ b cur c, β id = some b /\ w.heap[b]? = some (.cells cur ty (0, 0)) /\ cur.size = c * k /\ es.length <= c /\ c <= maxLen /\
  ∀ (i : Nat) (e : List T) (j : Nat) (x : T), es[i]? = some e -> e[j]? = some x -> ∃ u, cur[i * k + j]? = some u /\ F3 w.heap ((E.C β st w).S fr) x u) := by
 have hr := r.ob id
 rw [h] at hr
 obtain ⟨⟨h1, h2⟩, h3⟩ := hr
 have hC : (E.C β st w).β id = β id := rfl
 rw [hC] at h3
 refine ⟨h1, h2, ?_⟩
 cases hb : β id with
 | none => rw [hb] at h3; exact .inl ⟨rfl, h3⟩
 | some b =>
  rw [hb] at h3
  obtain ⟨cur, c, g1, g2, g3, g4, g5⟩ := h3
  exact .inr ⟨b, cur, c, rfl, g1, g2, g3, g4, g5⟩
theorem Rel.own_val {E : Ent} {β : Nat -> Option Nat} {st : St} {a : Act} {w : World} (r : Rel E β st a w) {id n ty k : Nat} {fr fz : Bool} {es : List (List T)} (h : st.o id = .row ty k fr fz es) {u : Value} (hu : Adx (E.C β st w) id n u) (hn : n = es.length) :
 (β id = none /\ es = [] /\ ∃ A, u = .slice A 0 0) \/ ∃ b cur c, β id = some b /\ w.heap[b]? = some (.cells cur ty (0, 0)) /\ cur.size = c * k /\ es.length <= c /\ c <= maxLen /\ u = .slice (some ⟨b, 0, none⟩) es.length c /\
  ∀ (i : Nat) (e : List T) (j : Nat) (x : T), es[i]? = some e -> e[j]? = some x -> ∃ u, cur[i * k + j]? = some u /\ F3 w.heap ((E.C β st w).S fr) x u := by
 obtain ⟨_, ty', k', fr', fz', es', ho, _, h1⟩ := hu
 have ho : st.o id = _ := ho
 rw [h] at ho
 injection ho with e1 e2 e3 e4 e5
 subst e1 e2 e3 e4 e5
 have h1 := h1 hn
 have hC : (E.C β st w).β id = β id := rfl
 rw [hC] at h1
 obtain ⟨hk, _, hr⟩ := r.row_cells h
 rcases hr with ⟨hb, he⟩ | ⟨b, cur, c, hb, g1, g2, g3, g4, g5⟩
 ·rw [hb] at h1
  exact .inl ⟨hb, he, h1⟩
 rw [hb] at h1
 obtain ⟨c', cur', q1, q2, q3⟩ := h1
 have q1 : w.heap[b]? = _ := q1
 rw [g1] at q1
 injection q1 with q1
 injection q1 with q1
 subst q1
 have : c * k = c' * k := g2.symm.trans q2
 have := Nat.eq_of_mul_eq_mul_right hk this
 subst this
 exact .inr ⟨b, cur, c, hb, g1, g2, g3, g4, by rw [q3, hn], g5⟩
theorem Ws {E : Ent} {β : Nat -> Option Nat} {st : St} {a : Act} {w : World} (r : Rel E β st a w) {x : AV} {u : Value} (hx : Dv (E.C β st w) x u) {k : Nat} (hc : Aa2 st.o k x) : Src (E.C β st w) u (O4 st.o x) k (F7 st.o x) := by
 cases hx with
 | nil k' A => exact ⟨A, 0, rfl, Aj _, fun i e he => by simp [F7] at he, .inl rfl⟩
 | imm fr k' es u h =>
  have hc : k' = k := hc
  subst hc
  cases h with
  | nil k A c => exact ⟨A, c, rfl, Ae _, fun i e he => by simp [F7] at he, .inl rfl⟩
  | sl k es b off c cur ty fz us h1 h2 h3 h4 h5 h6 => exact ⟨_, c, rfl, h3, h4, .inr ⟨b, off, cur, ty, fz, rfl, h1, fun i e j x he hx => ⟨_, h5 i e j x he hx, h6 i e j x he hx⟩⟩⟩
 | own id n u h =>
  obtain ⟨h1, rfl, h3⟩ := hc
  obtain ⟨ty, fz, ho⟩ := Js h1
  obtain ⟨hk, hel, _⟩ := r.row_cells ho
  rcases r.own_val ho h h3 with ⟨hb, he, A, rfl⟩ | ⟨b, cur, c, hb, g1, g2, g3, g4, rfl, g5⟩
  ·have he2 : F7 st.o (.own id n) = [] := he
   refine ⟨A, 0, ?_, ?_, fun i e he' => ?_, .inl he2⟩
   ·rw [he2]; rfl
   ·rw [he2]; exact Aj _
   rw [he2] at he'; simp at he'
  exact ⟨_, c, rfl, g3, hel, .inr ⟨b, 0, cur, ty, (0, 0), rfl, g1, fun i e j x he hx => by rw [Bm]; exact g5 i e j x he hx⟩⟩
 | sub id n lo m u h =>
  obtain ⟨h1, rfl, h3⟩ := hc
  obtain ⟨ty, fz, ho⟩ := Js h1
  obtain ⟨hk, hel, hcell⟩ := r.row_cells ho
  obtain ⟨_, ty', k', fr', fz', es', ho', _, h5⟩ := h
  have ho' : st.o id = _ := ho'
  rw [ho] at ho'
  injection ho' with e1 e2 e3 e4 e5
  subst e1 e2 e3 e4 e5
  obtain ⟨h6, A, c, rfl, h7, _, h8⟩ := h5 h3
  have hlen : (((Kj (st.o id)).drop lo).take m).length = m := by rw [A5, Bc]; omega
  have hget : ∀ (i : Nat) (e : List T), (((Kj (st.o id)).drop lo).take m)[i]? = some e -> (Kj (st.o id))[lo + i]? = some e /\ i < m := fun i e he => by
   have hi : i < m := by rw [<- hlen]; exact (Ab.1 he).1
   rw [Ag hi, Bd] at he
   exact ⟨he, hi⟩
  refine ⟨A, c, by simp only [F7, hlen], by simp only [F7, hlen]; exact h7, fun i e he => hel _ e (hget i e he).1, ?_⟩
  rcases h8 with h8 | ⟨b, hb, rfl⟩
  ·obtain rfl : m = 0 := by omega
   exact .inl (by simp [F7])
  rcases hcell with ⟨hb', _⟩ | ⟨b', cur, c', hb', g1, g2, g3, g4, g5⟩
  ·have hb : β id = _ := hb
   rw [hb'] at hb; cases hb
  have hb : β id = _ := hb
  rw [hb'] at hb
  injection hb with hb
  subst hb
  refine .inr ⟨b', _, cur, ty, (0, 0), rfl, g1, fun i e j x he hx => ?_⟩
  obtain ⟨u, q1, q2⟩ := g5 (lo + i) e j x (hget i e he).1 hx
  exact ⟨u, by rw [<- q1, Be], q2⟩
 | _ => exact hc.elim
theorem Src.news {C : VC} {u : Value} {f : Bool} {k : Nat} {es : List (List T)} (h : Src C u f k es) (hk : 0 < k) (w : World) (hw : w.heap = C.h) (hne : es ≠ []) :
 ∃ (b off c : Nat) (news : List Value), u = .slice (some ⟨b, off, none⟩) es.length c /\ news.length = es.length * k /\ (∀ (j : Nat) (x : Value), news[j]? = some x -> w.cell? ((⟨b, off, none⟩ : Addr).add j) = some x) /\ (∀ x ∈ news, x.oneCell' = true) /\
  ∀ (i : Nat) (e : List T) (j : Nat) (x : T), es[i]? = some e -> e[j]? = some x -> ∃ u, news[i * k + j]? = some u /\ F3 C.h (C.S f) x u := by
 obtain ⟨A, c, hu, hle, hel, h1⟩ := h
 rcases h1 with h1 | ⟨b, off, cur, ty, fz, rfl, hb, hcell⟩
 ·exact absurd h1 hne
 have hcell' : ∀ n, n < es.length * k -> ∃ u x, cur[off + n]? = some u /\ F3 C.h (C.S f) x u := fun n hn => by
  have hi : n / k < es.length := Nat.div_lt_of_lt_mul (by rw [Nat.mul_comm]; exact hn)
  have hj : n % k < k := Nat.mod_lt _ hk
  have he := Aa hi
  have hl := hel _ _ he
  obtain ⟨u, q1, q2⟩ := hcell (n / k) _ (n % k) _ he (Aa (by omega))
  refine ⟨u, _, ?_, q2⟩
  rw [<- q1]
  congr 1
  rw [Nat.mul_comm, Af, Nat.div_add_mod]
 have hnews : ∀ n, n < es.length * k -> ((List.range (es.length * k)).map fun n => (cur[off + n]?).getD undef)[n]? = cur[off + n]? := fun n hn => by
  obtain ⟨u, _, q, _⟩ := hcell' n hn
  rw [Ap, List.getElem?_range hn]; simp only [Ai, q, Bh]
 refine ⟨b, off, c, (List.range (es.length * k)).map fun n => (cur[off + n]?).getD undef, hu, by simp, fun j x hx => ?_, fun x hx => ?_, fun i e j x he hx => ?_⟩
 ·have hj : j < es.length * k := by have := (Ab.1 hx).1; simpa using this
  rw [hnews j hj] at hx
  rw [Addr.add_lit, cell_of_row w b _ cur ty fz (by rw [hw]; exact hb)]
  exact hx
 ·obtain ⟨j, hj⟩ := A3.1 hx
  have hj' : j < es.length * k := by have := (Ab.1 hj).1; simpa using this
  rw [hnews j hj'] at hj
  obtain ⟨u, y, q1, q2⟩ := hcell' j hj'
  rw [q1] at hj
  injection hj with hj
  subst hj
  exact q2.one
 obtain ⟨u, q1, q2⟩ := hcell i e j x he hx
 have hi : i < es.length := (Ab.1 he).1
 have hj : j < k := by rw [<- hel i e he]; exact (Ab.1 hx).1
 have : i * k + j < es.length * k := by
  have := A1 k (show i + 1 <= es.length by omega)
  rw [Be] at this; omega
 exact ⟨u, by rw [hnews _ this, <- q1, Af], q2⟩
theorem Aho {R : T -> Value -> Prop} {k : Nat} {es es2 : List (List T)} {cs cs2 : List Value} (hl : cs.length = es.length * k) (hel : ∀ (i : Nat) (e : List T), es[i]? = some e -> e.length = k)
 (h1 : ∀ (i : Nat) (e : List T) (j : Nat) (x : T), es[i]? = some e -> e[j]? = some x -> ∃ u, cs[i * k + j]? = some u /\ R x u)
  (h2 : ∀ (i : Nat) (e : List T) (j : Nat) (x : T), es2[i]? = some e -> e[j]? = some x -> ∃ u, cs2[i * k + j]? = some u /\ R x u) :
  ∀ (i : Nat) (e : List T) (j : Nat) (x : T), (es ++ es2)[i]? = some e -> e[j]? = some x -> ∃ u, (cs ++ cs2)[i * k + j]? = some u /\ R x u := by
 intro i e j x he hx
 by_cases hi : i < es.length
 ·rw [Au hi] at he
  obtain ⟨u, q1, q2⟩ := h1 i e j x he hx
  exact ⟨u, by rw [Au (Ab.1 q1).1]; exact q1, q2⟩
 rw [Ao (by omega)] at he
 obtain ⟨u, q1, q2⟩ := h2 _ e j x he hx
 have : es.length * k <= i * k := A1 k (by omega)
 refine ⟨u, ?_, q2⟩
 rw [Ao (by omega), hl, <- q1, Nat.sub_mul]
 congr 1
 omega
theorem Oo {P : Program} (w : World) (t ty e : TypeId) (i : TypeInfo) (ht : P.underlying t = some (.slice e)) (hi : P.info? e = some i) (A : Option Addr) (n cap : Nat) (hn : n <= cap) (X : Option Addr) (c : Nat) :
 (Builtin.append_ #[t, t] ty #[.slice A n cap, .slice X 0 c]).run P w = .ok (.slice A n cap) w := by
 have hl : ∀ (x : Addr), (loadCells x 0).run P w = .ok #[] w := fun x => by simpa using run_loadCells_list (P := P) w x [] (by simp)
 cases A <;> cases X <;> simp [Builtin.append_, run_underlying ht, sizeOf, typeInfo, hi, Builtin.lenOf, Builtin.firstCells, hn, storeCells, hl]
theorem Nd {P : Program} (w : World) (t ty e : TypeId) (i : TypeInfo) (z : Value) (k : Nat) (ht : P.underlying t = some (.slice e)) (hi : P.info? e = some i) (hz : i.zero = some z) (hk : i.size = k) (hzs : z.cells.size = k)
 (A : Option Addr) (n cap : Nat) (olds : List Value) (hlo : olds.length = n * k) (hA : A = none -> n = 0 /\ cap = 0) (holds : ∀ b, A = some b -> ∀ (j : Nat) (v : Value), olds[j]? = some v -> w.cell? (b.add j) = some v)
  (x : Addr) (m c : Nat) (news : List Value) (hl : news.length = m * k) (hnews : ∀ (j : Nat) (v : Value), news[j]? = some v -> w.cell? (x.add j) = some v) (hg : cap < n + m) (hb : i.bytes <= 1000000) (hle : n + m <= 1000000) :
  ∃ (c' : Nat) (cur : Array Value), (Builtin.append_ #[t, t] ty #[.slice A n cap, .slice (some x) m c]).run P w = .ok (.slice (some ⟨w.heap.size, 0, none⟩) (n + m) c') (w.drew.alloc (.cells cur e)) /\
   cur.size = c' * k /\ n + m <= c' /\ c' <= maxLen /\ ∀ (j : Nat) (u : Value), (olds ++ news)[j]? = some u -> cur[j]? = some u := by
 subst hk
 have hmul : (n + m) * i.bytes <= 1000000 * 1000000 := Nat.mul_le_mul hle hb
 have h63 : n + m <= maxLen := by simp only [maxLen]; omega
 have hge := grownCap_ge w (n + m) cap e
 have hcm : grownCap w (n + m) cap e <= maxLen := grownCap_le_maxLen w (n + m) cap e h63
 cases A with
 | none =>
  obtain ⟨rfl, rfl⟩ := hA rfl
  have ho : olds = [] := List.eq_nil_of_length_eq_zero (by omega)
  subst ho
  rw [Bm] at *
  refine ⟨_, _, run_append_nil (P := P) w t ty e i z ht hi hz x m c news hl hnews (by omega) (by omega) (by omega), ?_, hge, hcm, fun j u hu => ?_⟩
  ·rw [Array.size_append, size_zeroCells, hzs, List.size_toArray, hl, <- Be]
   congr 1; omega
  have hj : j < news.length := by simpa using (Ab.1 hu).1
  rw [Bk (by simpa using hj)]
  simpa using hu
 | some b =>
  refine ⟨_, _, run_append_grow (P := P) w t ty e i z ht hi hz b n cap olds hlo (holds b rfl) x m c news hl hnews hg (by omega) (growslice_fits hg (by omega)), ?_, hge, hcm, fun j u hu => ?_⟩
  ·rw [Array.size_append, Array.size_append, size_zeroCells, hzs, List.size_toArray, List.size_toArray, hl, hlo, <- Be, <- Be]
   congr 1; omega
  have hj : j < olds.length + news.length := by simpa using (Ab.1 hu).1
  rw [Bk (by simp; omega)]
  simpa using hu
def L7 (P : Program) (t : TypeId) (dst src : AV) (o : Nat -> Ob) (nid : Nat) : Eff :=
 match dst with
 | .nil _ => ⟨.own nid (F7 o src).length, [(nid, .row (Dw P t) (tsz P (Dw P t)) (O4 o src) false (F7 o src))],
  G8 P t = true /\ zok P (Dw P t) = true /\ 0 < tsz P (Dw P t) /\ I0 P (Dw P t) <= 1000000 /\ Aa2 o (tsz P (Dw P t)) src /\ (F7 o src).length <= 1000000⟩
 | .own id n => match o id with
  | .row ty k fr fz es => ⟨.own id (n + (F7 o src).length), [(id, .row ty k (fr && O4 o src) false (es ++ F7 o src))],
   G8 P t = true /\ zok P (Dw P t) = true /\ 0 < tsz P (Dw P t) /\ I0 P (Dw P t) <= 1000000 /\ Aa2 o (tsz P (Dw P t)) src /\ n + (F7 o src).length <= 1000000 /\ ty = Dw P t /\ k = tsz P (Dw P t) /\ fz = false /\ n = es.length⟩
  | _ => .bad
 | _ => .bad
theorem Zi {E : Ent} {β : Nat -> Option Nat} {st : St} {a : Act} {w w1 : World} (r : Rel E β st a w) {id ty k : Nat} {fr : Bool} {es : List (List T)} {cur : Array Value} {c : Nat}
 (hid : st.o id = .gone \/ ∃ ty' k' fr' fz' es' fr2 fz2 es2, st.o id = .row ty' k' fr' fz' es' /\ (.row ty k fr false es : Ob) = .row ty' k' fr2 fz2 es2 /\ es'.length < es2.length) (hk : 0 < k) (hel : ∀ (i : Nat) (e : List T), es[i]? = some e -> e.length = k) (hcur : cur.size = c * k) (hle : es.length <= c) (hm : c <= maxLen)
  (hcell : ∀ (i : Nat) (e : List T) (j : Nat) (x : T), es[i]? = some e -> e[j]? = some x -> ∃ u, cur[i * k + j]? = some u /\ F3 w.heap ((E.C β st w).S fr) x u) (hw : w1 = w.drew.alloc (.cells cur ty)) :
  Rel E (upd β id w.heap.size) (st.set id (.row ty k fr false es)) a w1 /\ Dv (E.C (upd β id w.heap.size) (st.set id (.row ty k fr false es)) w1) (.own id es.length) (.slice (some ⟨w.heap.size, 0, none⟩) es.length c) := by
 subst hw
 have r' : Rel E β st a w.drew := r.drew _
 refine ⟨r'.bind hid (by simp) cur ty fun C s hb hh => ?_, ?_⟩
 ·refine ⟨⟨hk, hel⟩, ?_⟩
  have hb : C.β id = some w.heap.size := hb
  rw [hb]
  refine ⟨cur, c, hh, hcur, hle, hm, fun i e j x he hx => ?_⟩
  obtain ⟨u, h1, h2⟩ := hcell i e j x he hx
  exact ⟨u, h1, s.T h2⟩
 refine .own _ _ _ ⟨rfl, ty, k, fr, false, es, by show (st.set _ _).o _ = _; rw [St.set_o, if_pos rfl], Aj _, fun _ => ?_⟩
 have : (E.C (upd β id w.heap.size) (st.set id (.row ty k fr false es)) (w.drew.alloc (.cells cur ty))).β id = some w.heap.size := Xk _ _ _
 rw [this]
 exact ⟨c, cur, heap_alloc_new w.drew _, hcur, rfl⟩
theorem Aor {E : Ent} {β : Nat -> Option Nat} {st : St} {a : Act} {w : World} (r : Rel E β st a w) {nid : Nat} {t ty : TypeId} {d x : AV} (hn : (∃ k, d = .nil k) -> st.o nid = .gone) {ud ux : Value} (hd : Dv (E.C β st w) d ud) (hx : Dv (E.C β st w) x ux) (hc : (L7 P t d x st.o nid).c) :
 ∃ u w' β' id o, (Builtin.append_ #[t, t] ty #[ud, ux]).run P w = .ok u w' /\ (L7 P t d x st.o nid).up = [(id, o)] /\ Rel E β' (st.set id o) a w' /\ Dv (E.C β' (st.set id o) w') (L7 P t d x st.o nid).v u := by
 cases hd with
 | nil k0 A =>
  have hn := hn ⟨k0, rfl⟩
  obtain ⟨h1, h2, h3, h4, h5, h6⟩ := hc
  obtain ⟨i, z, hi, hz, hsz, hzs, _, _⟩ := O2 h2
  have hby : i.bytes <= 1000000 := by simpa [I0, hi] using h4
  have hs := Ws r hx h5
  by_cases he : F7 st.o x = []
  ·obtain ⟨A', c, rfl, _⟩ := hs
   obtain ⟨q1, q2⟩ := r.empty hn (Dw P t) h3 (O4 st.o x)
   simp only [L7, he]
   exact ⟨_, _, _, nid, _, Oo w t ty _ i (Fc h1) hi A 0 0 (Aj _) A' c, rfl, q1, q2 A⟩
  have hpos : 0 < (F7 st.o x).length := List.length_pos_iff.2 he
  obtain ⟨b, off, c, news, rfl, n1, n2, n3, n4⟩ := hs.news h3 w rfl he
  obtain ⟨_, _, _, _, hel, _⟩ := hs
  obtain ⟨c', cur, g1, g2, g3, g4, g5⟩ := Nd w t ty _ i z _ (Fc h1) hi hz hsz hzs A 0 0 [] (by simp) (fun _ => ⟨rfl, rfl⟩) (by simp) ⟨b, off, none⟩ _ c news n1 n2 (by omega) hby (by omega)
  rw [Bm] at g1 g3
  obtain ⟨q1, q2⟩ := Zi r (ty := Dw P t) (fr := O4 st.o x) (es := F7 st.o x) (.inl hn) h3 hel g2 g3 g4 (fun i e j y he hy => by
   obtain ⟨u, p1, p2⟩ := n4 i e j y he hy
   exact ⟨u, g5 _ u (by simpa using p1), p2⟩) rfl
  exact ⟨_, _, _, nid, _, g1, rfl, q1, q2⟩
 | own id n u h =>
  have h' := h
  obtain ⟨_, ty0, k, fr, fz, es, ho, _, _⟩ := h'
  have ho : st.o id = _ := ho
  simp only [L7, ho] at hc ⊢
  obtain ⟨h1, h2, h3, h4, h5, h6, rfl, rfl, rfl, h7⟩ := hc
  obtain ⟨i, z, hi, hz, hsz, hzs, _, _⟩ := O2 h2
  have hby : i.bytes <= 1000000 := by simpa [I0, hi] using h4
  have hs := Ws r hx h5
  obtain ⟨hk, helO, _⟩ := r.row_cells ho
  have hlen : (es ++ F7 st.o x).length = n + (F7 st.o x).length := by rw [Bo, h7]
  by_cases he : F7 st.o x = []
  ·obtain ⟨A', c, rfl, _⟩ := hs
   obtain ⟨q1, q2⟩ := r.flag ho (fr' := fr && O4 st.o x) (fz' := false) (fun e => by simp only [Ah] at e; exact .inl e.1) fun e => rfl
   have hval : ∃ A cc, ud = .slice A n cc /\ n <= cc := by
    rcases r.own_val ho h h7 with ⟨_, e, A, rfl⟩ | ⟨b, cur, c, _, _, _, g3, _, rfl, _⟩
    ·exact ⟨A, 0, by rw [h7, e]; rfl, by rw [h7, e]; exact Aj _⟩
    exact ⟨_, c, by rw [h7], by omega⟩
   obtain ⟨A, cc, rfl, hcc⟩ := hval
   simp only [he, List.append_nil, List.length_nil, Nat.add_zero]
   exact ⟨_, _, _, id, _, Oo w t ty _ i (Fc h1) hi A n cc hcc A' c, rfl, q1, (Dv.own id n _ h).step q2⟩
  have hpos : 0 < (F7 st.o x).length := List.length_pos_iff.2 he
  obtain ⟨xb, xo, xc, news, rfl, n1, n2, n3, n4⟩ := hs.news h3 w rfl he
  obtain ⟨_, _, _, _, hel, _⟩ := hs
  have helA : ∀ (i : Nat) (e : List T), (es ++ F7 st.o x)[i]? = some e -> e.length = tsz P (Dw P t) := fun i e hie => by
   by_cases hlt : i < es.length
   ·rw [Au hlt] at hie; exact helO i e hie
   rw [Ao (by omega)] at hie; exact hel _ e hie
  have n4' : ∀ (i : Nat) (e : List T) (j : Nat) (y : T), (F7 st.o x)[i]? = some e -> e[j]? = some y -> ∃ u, news[i * tsz P (Dw P t) + j]? = some u /\ F3 w.heap ((E.C β st w).S (fr && O4 st.o x)) y u := fun i e j y h1 h2 => by
   obtain ⟨u, p1, p2⟩ := n4 i e j y h1 h2
   exact ⟨u, p1, VC.T_weak p2 fun e => by simp only [Ah] at e; exact e.2⟩
  have hbind : ∀ (es2 : List (List T)), es.length < es2.length -> (st.o id = .gone \/ ∃ ty' k' fr' fz' es' fr2 fz2 es3, st.o id = .row ty' k' fr' fz' es' /\ (.row (Dw P t) (tsz P (Dw P t)) (fr && O4 st.o x) false es2 : Ob) = .row ty' k' fr2 fz2 es3 /\ es'.length < es3.length) := fun es2 hl => .inr ⟨_, _, _, _, _, _, _, _, ho, rfl, hl⟩
  rcases r.own_val ho h h7 with ⟨_, e0, A, rfl⟩ | ⟨b, cur, c, hb, w1, w2, w3, w4, rfl, w5⟩
  ·subst e0
   have h7 : n = 0 := h7
   subst h7
   obtain ⟨c', cur, g1, g2, g3, g4, g5⟩ := Nd w t ty _ i z _ (Fc h1) hi hz hsz hzs A 0 0 [] (by simp) (fun _ => ⟨rfl, rfl⟩) (by simp) ⟨xb, xo, none⟩ _ xc news n1 n2 (by omega) hby (by omega)
   obtain ⟨q1, q2⟩ := Zi r (ty := Dw P t) (fr := fr && O4 st.o x) (es := [] ++ F7 st.o x) (hbind _ (by simpa using hpos)) h3 helA g2 (by simpa using g3) g4 (fun i e j y he hy => by
    obtain ⟨u, p1, p2⟩ := n4' i e j y (by simpa using he) hy
    exact ⟨u, g5 _ u (by simpa using p1), p2⟩) rfl
   refine ⟨_, _, _, id, _, g1, rfl, q1, ?_⟩
   rw [hlen] at q2
   exact q2
  have holds : ∀ (i : Nat) (e : List T) (j : Nat) (y : T), es[i]? = some e -> e[j]? = some y -> ∃ u, (cur.toList.take (es.length * tsz P (Dw P t)))[i * tsz P (Dw P t) + j]? = some u /\ F3 w.heap ((E.C β st w).S (fr && O4 st.o x)) y u := fun i e j y hie hy => by
   obtain ⟨u, p1, p2⟩ := w5 i e j y hie hy
   have hj : j < tsz P (Dw P t) := by rw [<- helO i e hie]; exact (Ab.1 hy).1
   have hi' : i < es.length := (Ab.1 hie).1
   have : i * tsz P (Dw P t) + j < es.length * tsz P (Dw P t) := by
    have := A1 (tsz P (Dw P t)) (show i + 1 <= es.length by omega)
    rw [Be] at this; omega
   exact ⟨u, by rw [Ag this]; simpa using p1, VC.T_weak (C := E.C β st w) (g := fr && O4 st.o x) p2 fun e => by simp only [Ah] at e; exact e.1⟩
  have hmulle : es.length * tsz P (Dw P t) <= c * tsz P (Dw P t) := A1 _ w3
  have hol : (cur.toList.take (es.length * tsz P (Dw P t))).length = es.length * tsz P (Dw P t) := by rw [A5, Array.length_toList (xs := cur), w2]; exact Nat.min_eq_left hmulle
  have hcat := Aho hol helO holds n4'
  by_cases hroom : n + (F7 st.o x).length <= c
  ·have hfit : es.length * tsz P (Dw P t) + news.length <= cur.size := by
    rw [n1, w2, <- Be]
    exact A1 _ (by omega)
   have hrun := run_append_room (P := P) w t ty (Dw P t) i (Fc h1) hi b es.length c cur w1 ⟨xb, xo, none⟩ (F7 st.o x).length xc news (by rw [hsz]; exact n1) n2 n3 (by omega) (by rw [hsz]; exact hfit)
   rw [hsz] at hrun
   have q1 := r.change (id := id) (o := .row (Dw P t) (tsz P (Dw P t)) (fr && O4 st.o x) false (es ++ F7 st.o x)) (by rw [ho]; rfl) hb w1 (setRow_heap w b cur _ _ (0, 0) w1) (Gn cur _ _ hfit) (by simp) (fun b' hb' => setRow_other w b b' _ hb') rfl rfl rfl
    (fun ty' cs' e => by rw [ho] at e; cases e) (fun ty' k' fr' fz' es' e => by
     rw [ho] at e
     injection e with e1 e2 e3 e4 e5
     subst e1 e2 e5
     exact ⟨_, _, _, rfl, by simp⟩) (fun C s hCβ hCh => by
     refine ⟨⟨h3, helA⟩, ?_⟩
     rw [hCβ]
     refine ⟨_, c, hCh, by rw [Gn cur _ _ hfit, w2], by omega, w4, fun i e j y hie hy => ?_⟩
     obtain ⟨u, p1, p2⟩ := hcat i e j y hie hy
     refine ⟨u, ?_, s.T p2⟩
     have hlt := (Ab.1 p1).1
     rw [List.getElem?_toArray, Au hlt]
     exact p1) (.inr trivial)
   refine ⟨_, _, β, id, _, hrun, rfl, q1, ?_⟩
   refine .own _ _ _ ⟨rfl, _, _, _, _, _, by show (st.set _ _).o _ = _; rw [St.set_o, if_pos rfl], by omega, fun _ => ?_⟩
   have : (E.C β (st.set id (.row (Dw P t) (tsz P (Dw P t)) (fr && O4 st.o x) false (es ++ F7 st.o x))) (w.setRow b (cur.toList.take (es.length * tsz P (Dw P t)) ++ news ++ cur.toList.drop (es.length * tsz P (Dw P t) + news.length)).toArray)).β id = some b := hb
   rw [this]
   exact ⟨c, _, setRow_heap w b cur _ _ (0, 0) w1, by rw [Gn cur _ _ hfit, w2], by rw [h7]⟩
  obtain ⟨c', cur', g1, g2, g3, g4, g5⟩ := Nd w t ty _ i z _ (Fc h1) hi hz hsz hzs (some ⟨b, 0, none⟩) es.length c (cur.toList.take (es.length * tsz P (Dw P t))) hol (by simp) (fun b' e j v hv => by
   injection e with e
   subst e
   have hj : j < es.length * tsz P (Dw P t) := by rw [<- hol]; exact (Ab.1 hv).1
   rw [Ag hj] at hv
   rw [Addr.add_lit, Bm, cell_of_row w b j cur _ (0, 0) w1]
   simpa using hv) ⟨xb, xo, none⟩ _ xc news n1 n2 (by omega) hby (by omega)
  obtain ⟨q1, q2⟩ := Zi r (ty := Dw P t) (fr := fr && O4 st.o x) (es := es ++ F7 st.o x) (hbind _ (by omega)) h3 helA g2 (by omega) g4 (fun i e j y hie hy => by
   obtain ⟨u, p1, p2⟩ := hcat i e j y hie hy
   exact ⟨u, g5 _ u p1, p2⟩) rfl
  refine ⟨_, _, _, id, _, g1, rfl, q1, ?_⟩
  rw [hlen, h7] at q2
  rw [h7]
  exact q2
 | _ => simp [L7, Eff.bad] at hc
end
section
variable {P : Program}
theorem K0 {P : Program} (w : World) (dT sT ty elem : TypeId) (k g o dLen dCap : Nat) (a : Addr) (sLen sCap : Nat) (cur : Array Value) (t : TypeId) (cs : List Value)
 (hu : P.underlying dT = some (.slice elem)) (hs : (P.info? elem).map (·.size) = some k)
  (hg : w.heap[g]? = some (.cells cur t (0, 0))) (hn : cs.length = Nat.min sLen dLen * k)
  (hsrc : ∀ j v, cs[j]? = some v -> w.cell? (a.add j) = some v) (hfit : o + cs.length <= cur.size) (h1 : ∀ v ∈ cs, v.oneCell' = true) :
  (Builtin.copy_ #[dT, sT] ty #[.slice (some ⟨g, o, none⟩) dLen dCap, .slice (some a) sLen sCap]).run P w =
   .ok (goInt (Nat.min sLen dLen)) (w.setRow g (cur.toList.take o ++ cs ++ cur.toList.drop (o + cs.length)).toArray) := by
 have hl := run_loadCells_list (P := P) w a cs hsrc
 have hst := run_storeCells_at P g o t cs 0 cur w hg (by simpa using hfit) h1
 cases hq : P.info? elem with
 | none => simp [hq] at hs
 | some i =>
  have hi : i.size = k := by simpa [hq] using hs
  simp [Builtin.copy_, run_underlying hu, Builtin.lenOf, Builtin.firstCells, sizeOf, typeInfo, hq, hi, <- hn, hl, hst]
theorem Acr {P : Program} (w : World) (dT sT ty elem : TypeId) (k : Nat) (d a : Option Addr) (dLen dCap sLen sCap : Nat) (hu : P.underlying dT = some (.slice elem)) (hs : (P.info? elem).map (·.size) = some k) (hn : Nat.min sLen dLen = 0) :
 (Builtin.copy_ #[dT, sT] ty #[.slice d dLen dCap, .slice a sLen sCap]).run P w = .ok (goInt 0) w := by
 cases hq : P.info? elem with
 | none => simp [hq] at hs
 | some i =>
  have hl : ∀ (x : Addr), (loadCells x 0).run P w = .ok #[] w := fun x => by simpa using run_loadCells_list (P := P) w x [] (by simp)
  cases d <;> cases a <;> simp [Builtin.copy_, run_underlying hu, Builtin.lenOf, Builtin.firstCells, sizeOf, typeInfo, hq, hn, storeCells, hl]
def Nn (P : Program) (t : TypeId) (id n lo m : Nat) (src : AV) (o : Nat -> Ob) : Eff :=
 match o id with
 | .row ty k fr fz es => ⟨.lit (.int .i64 (min (F7 o src).length m : Nat)), [(id, .row ty k (fr && O4 o src) false (Jt es lo ((F7 o src).take m)))],
  G8 P t = true /\ tok P (Dw P t) = true /\ Aa2 o (tsz P (Dw P t)) src /\ k = tsz P (Dw P t) /\ fz = false /\ n = es.length /\ lo + m <= n⟩
 | _ => .bad
def S3 (P : Program) (t : TypeId) (d src : AV) (o : Nat -> Ob) : Eff :=
 match d with
 | .own id n => Nn P t id n 0 n src o
 | .sub id n lo m => Nn P t id n lo m src o
 | _ => .bad
theorem Anh {E : Ent} {β : Nat -> Option Nat} {st : St} {a : Act} {w : World} (r : Rel E β st a w) {t dT sT ty : TypeId} (hT : dT = t) {id n lo m : Nat} {x : AV} {ud ux : Value} (hd : ∀ ty k fr fz es, st.o id = .row ty k fr fz es -> n = es.length -> lo + m <= n -> ∃ A c, ud = .slice A m c /\ (m = 0 \/ ∃ b, β id = some b /\ A = some ⟨b, lo * k, none⟩)) (hx : Dv (E.C β st w) x ux) (hc : (Nn P t id n lo m x st.o).c) :
 ∃ u w' o, (Builtin.copy_ #[dT, sT] ty #[ud, ux]).run P w = .ok u w' /\ (Nn P t id n lo m x st.o).up = [(id, o)] /\ Rel E β (st.set id o) a w' /\ Dv (E.C β (st.set id o) w') (Nn P t id n lo m x st.o).v u := by
 subst hT
 unfold Nn at hc ⊢
 cases ho : st.o id with
 | gone => rw [ho] at hc; exact hc.elim
 | box ty cs => rw [ho] at hc; exact hc.elim
 | row ty' k fr fz es =>
  rw [ho] at hc
  obtain ⟨h1, h2, h3, rfl, rfl, h6, h7⟩ := hc
  obtain ⟨A, c, rfl, hA⟩ := hd _ _ _ _ _ ho h6 h7
  have hinfo : (P.info? (Dw P dT)).map (·.size) = some (tsz P (Dw P dT)) := by
   simp only [tok, Ah] at h2
   obtain ⟨i, hi⟩ := Option.isSome_iff_exists.1 h2.2
   simp [tsz, hi]
  have hs := Ws r hx h3
  obtain ⟨hk, hel, hcell⟩ := r.row_cells ho
  by_cases h0 : min (F7 st.o x).length m = 0
  ·obtain ⟨A', c', rfl, _⟩ := hs
   obtain ⟨q1, q2⟩ := r.flag ho (fr' := fr && O4 st.o x) (fz' := false) (fun e => by simp only [Ah] at e; exact .inl e.1) fun e => rfl
   have he : (F7 st.o x).take m = [] := List.eq_nil_of_length_eq_zero (by rw [A5]; omega)
   simp only [he, Jt, h0]
   exact ⟨_, _, _, Acr w dT sT ty _ _ A A' m c _ c' (Fc h1) hinfo h0, rfl, q1, .lit _⟩
  have hne : F7 st.o x ≠ [] := fun e => by rw [e] at h0; simp at h0
  obtain ⟨xb, xo, xc, news, rfl, n1, n2, n3, n4⟩ := hs.news hk w rfl hne
  obtain ⟨_, _, _, _, helx, _⟩ := hs
  rcases hA with hm | ⟨b, hb, rfl⟩
  ·omega
  rcases hcell with ⟨hb', _⟩ | ⟨b', cur, cc, hb', g1, g2, g3, g4, g5⟩
  ·rw [hb'] at hb; cases hb
  rw [hb'] at hb
  injection hb with hb
  subst hb
  have hlt : (news.take (min (F7 st.o x).length m * tsz P (Dw P dT))).length = min (F7 st.o x).length m * tsz P (Dw P dT) := by
   rw [A5, n1]
   exact Nat.min_eq_left (A1 _ (Nat.min_le_left _ _))
  have hnews : ∀ (j : Nat) (v : Value), (news.take (min (F7 st.o x).length m * tsz P (Dw P dT)))[j]? = some v -> news[j]? = some v := fun j v hv => by
   have hj : j < min (F7 st.o x).length m * tsz P (Dw P dT) := by rw [<- hlt]; exact (Ab.1 hv).1
   rw [Ag hj] at hv
   exact hv
  have hfit : lo * tsz P (Dw P dT) + (news.take (min (F7 st.o x).length m * tsz P (Dw P dT))).length <= cur.size := by
   rw [hlt, g2, <- Be]
   exact A1 _ (by omega)
  have hrun := K0 (P := P) w dT sT ty (Dw P dT) (tsz P (Dw P dT)) b' (lo * tsz P (Dw P dT)) m c ⟨xb, xo, none⟩ (F7 st.o x).length xc cur ty' _ (Fc h1) hinfo g1 hlt (fun j v hv => n2 j v (hnews j v hv)) hfit (fun v hv => n3 v (Aq hv))
  refine ⟨_, _, _, hrun, rfl, ?_, .lit _⟩
  have htl : ((F7 st.o x).take m).length = min (F7 st.o x).length m := by rw [A5, Nat.min_comm]
  refine r.change (id := id) (by rw [ho]; rfl) hb' g1 (setRow_heap w b' cur _ _ (0, 0) g1) (Gn cur _ _ hfit) (by simp) (fun b' hb' => setRow_other w _ b' _ hb') rfl rfl rfl
   (fun ty' cs' e => by rw [ho] at e; cases e) (fun ty' k' fr' fz' es' e => by
    rw [ho] at e
    injection e with e1 e2 e3 e4 e5
    subst e1 e2 e5
    exact ⟨_, _, _, rfl, by rw [Fb]; exact Aj _⟩) (fun C s hCβ hCh => ?_) (.inr trivial)
  refine ⟨⟨hk, fun i e he => ?_⟩, ?_⟩
  ·rw [I1] at he
   split at he
   ·exact helx _ e (by rw [List.getElem?_take] at he; split at he <;> first | exact he | cases he)
   exact hel _ e he
  rw [hCβ]
  refine ⟨_, cc, hCh, by rw [Gn cur _ _ hfit, g2], by rw [Fb]; exact g3, g4, fun i e j y he hy => ?_⟩
  rw [Na cur _ _ hfit, hlt]
  rw [I1, htl] at he
  have hmm : ∀ p q : Nat, p + 1 <= q -> p * tsz P (Dw P dT) + tsz P (Dw P dT) <= q * tsz P (Dw P dT) := fun p q h => by
   have := A1 (tsz P (Dw P dT)) h
   rw [Be] at this; omega
  by_cases hin : lo <= i /\ i < lo + min (F7 st.o x).length m /\ i < es.length
  ·rw [if_pos hin] at he
   have he' : (F7 st.o x)[i - lo]? = some e := by
    rw [List.getElem?_take] at he
    split at he
    ·exact he
    cases he
   have hj : j < tsz P (Dw P dT) := by rw [<- helx _ e he']; exact (Ab.1 hy).1
   obtain ⟨u, p1, p2⟩ := n4 _ e j y he' hy
   have a1 := hmm i (lo + min (F7 st.o x).length m) (by omega)
   have a2 : lo * tsz P (Dw P dT) <= i * tsz P (Dw P dT) := A1 _ hin.1
   have a3 := hmm (i - lo) (min (F7 st.o x).length m) (by omega)
   rw [Be] at a1
   rw [if_pos ⟨by omega, by omega⟩]
   refine ⟨u, ?_, VC.T_weak (s.T p2) fun e => by simp only [Ah] at e; exact e.2⟩
   rw [Ag (by rw [Nat.sub_mul] at a3; omega), <- p1, Nat.sub_mul]
   congr 1
   omega
  rw [if_neg hin] at he
  have hj : j < tsz P (Dw P dT) := by rw [<- hel _ e he]; exact (Ab.1 hy).1
  have hil : i < es.length := (Ab.1 he).1
  have hout : ¬ (lo * tsz P (Dw P dT) <= i * tsz P (Dw P dT) + j /\ i * tsz P (Dw P dT) + j < lo * tsz P (Dw P dT) + min (F7 st.o x).length m * tsz P (Dw P dT)) := by
   rintro ⟨b1, b2⟩
   rw [<- Be] at b2
   rcases Nat.lt_or_ge i lo with hlo | hlo
   ·have := hmm i lo (by omega); omega
   have := hmm (lo + min (F7 st.o x).length m) (i + 1) (by omega)
   have := A1 (tsz P (Dw P dT)) (show lo + min (F7 st.o x).length m <= i by omega)
   omega
  rw [if_neg hout]
  obtain ⟨u, p1, p2⟩ := g5 i e j y he hy
  exact ⟨u, p1, VC.T_weak (s.T p2) fun e => by simp only [Ah] at e; exact e.1⟩
theorem Ata {E : Ent} {β : Nat -> Option Nat} {st : St} {a : Act} {w : World} (r : Rel E β st a w) {t sT ty : TypeId} {d x : AV} {ud ux : Value} (hd : Dv (E.C β st w) d ud) (hx : Dv (E.C β st w) x ux) (hc : (S3 P t d x st.o).c) :
 ∃ u w' id o, (Builtin.copy_ #[t, sT] ty #[ud, ux]).run P w = .ok u w' /\ (S3 P t d x st.o).up = [(id, o)] /\ Rel E β (st.set id o) a w' /\ Dv (E.C β (st.set id o) w') (S3 P t d x st.o).v u := by
 cases hd with
 | own id n u h =>
  obtain ⟨u, w', o, h1⟩ := Anh r (ty := ty) (sT := sT) (ud := ud) rfl (fun ty k fr fz es ho hn hm => by
   rcases r.own_val ho h hn with ⟨_, he, A, rfl⟩ | ⟨b, cur, c, hb, _, _, _, _, rfl, _⟩
   ·subst he
    exact ⟨A, 0, by rw [hn]; rfl, .inl hn⟩
   exact ⟨_, c, by rw [hn], .inr ⟨b, hb, by rw [Nat.zero_mul]⟩⟩) hx (show (Nn P t id n 0 n x st.o).c from hc)
  exact ⟨u, w', id, o, h1⟩
 | sub id n lo m u h =>
  obtain ⟨u, w', o, h1⟩ := Anh r (ty := ty) (sT := sT) (ud := ud) rfl (fun ty k fr fz es ho hn hm => by
   obtain ⟨_, ty', k', fr', fz', es', ho', _, h5⟩ := h
   have ho' : st.o id = _ := ho'
   rw [ho] at ho'
   injection ho' with e1 e2 e3 e4 e5
   subst e1 e2 e3 e4 e5
   obtain ⟨_, A, c, rfl, hmc, _, h8⟩ := h5 hn
   exact ⟨A, c, rfl, h8.elim (fun e => .inl (by omega)) .inr⟩) hx (show (Nn P t id n lo m x st.o).c from hc)
  exact ⟨u, w', id, o, h1⟩
 | _ => simp [S3, Eff.bad] at hc
theorem Ach {E : Ent} {β : Nat -> Option Nat} {st : St} {a : Act} {w : World} (r : Rel E β st a w) {id b lo : Nat} {ty k : Nat} {fr fr2 : Bool} {es ns : List (List T)} (ho : st.o id = .row ty k fr false es) (hb : β id = some b) {cur : Array Value} (hcur : w.heap[b]? = some (.cells cur ty (0, 0)))
 {news : List Value} (hlen : news.length = ns.length * k) (helx : ∀ (i : Nat) (e : List T), ns[i]? = some e -> e.length = k) (hn : ∀ (i : Nat) (e : List T) (j : Nat) (y : T), ns[i]? = some e -> e[j]? = some y -> ∃ u, news[i * k + j]? = some u /\ F3 w.heap ((E.C β st w).S fr2) y u) (hle : lo + ns.length <= es.length) :
  lo * k + news.length <= cur.size /\ Rel E β (st.set id (.row ty k (fr && fr2) false (Jt es lo ns))) a (w.setRow b (cur.toList.take (lo * k) ++ news ++ cur.toList.drop (lo * k + news.length)).toArray) := by
 obtain ⟨hk, hel, hcell⟩ := r.row_cells ho
 rcases hcell with ⟨hb', _⟩ | ⟨b', cur', cc, hb', g1, g2, g3, g4, g5⟩
 ·rw [hb'] at hb; cases hb
 rw [hb'] at hb
 injection hb with hb
 subst hb
 rw [g1] at hcur
 injection hcur with hcur
 injection hcur with hcur
 subst hcur
 have hfit : lo * k + news.length <= cur'.size := by
  rw [hlen, g2, <- Be]
  exact A1 _ (by omega)
 refine ⟨hfit, ?_⟩
 refine r.change (id := id) (by rw [ho]; rfl) hb' g1 (setRow_heap w b' cur' _ _ (0, 0) g1) (Gn cur' _ _ hfit) (by simp) (fun b' hb' => setRow_other w _ b' _ hb') rfl rfl rfl
  (fun ty' cs' e => by rw [ho] at e; cases e) (fun ty' k' fr' fz' es' e => by
   rw [ho] at e
   injection e with e1 e2 e3 e4 e5
   subst e1 e2 e5
   exact ⟨_, _, _, rfl, by rw [Fb]; exact Aj _⟩) (fun C s hCβ hCh => ?_) (.inr trivial)
 refine ⟨⟨hk, fun i e he => ?_⟩, ?_⟩
 ·rw [I1] at he
  split at he
  ·exact helx _ e he
  exact hel _ e he
 rw [hCβ]
 refine ⟨_, cc, hCh, by rw [Gn cur' _ _ hfit, g2], by rw [Fb]; exact g3, g4, fun i e j y he hy => ?_⟩
 rw [Na cur' _ _ hfit, hlen]
 rw [I1] at he
 have hmm : ∀ p q : Nat, p + 1 <= q -> p * k + k <= q * k := fun p q h => by
  have := A1 k h
  rw [Be] at this; omega
 by_cases hin : lo <= i /\ i < lo + ns.length /\ i < es.length
 ·rw [if_pos hin] at he
  have hj : j < k := by rw [<- helx _ e he]; exact (Ab.1 hy).1
  obtain ⟨u, p1, p2⟩ := hn _ e j y he hy
  have a1 := hmm i (lo + ns.length) (by omega)
  have a2 : lo * k <= i * k := A1 _ hin.1
  rw [Be] at a1
  rw [if_pos ⟨by omega, by omega⟩]
  refine ⟨u, ?_, VC.T_weak (s.T p2) fun e => by simp only [Ah] at e; exact e.2⟩
  rw [<- p1, Nat.sub_mul]
  congr 1
  omega
 rw [if_neg hin] at he
 have hj : j < k := by rw [<- hel _ e he]; exact (Ab.1 hy).1
 have hil : i < es.length := (Ab.1 he).1
 have hout : ¬ (lo * k <= i * k + j /\ i * k + j < lo * k + ns.length * k) := by
  rintro ⟨b1, b2⟩
  rw [<- Be] at b2
  rcases Nat.lt_or_ge i lo with hlo | hlo
  ·have := hmm i lo (by omega); omega
  have := A1 k (show lo + ns.length <= i by omega)
  omega
 rw [if_neg hout]
 obtain ⟨u, p1, p2⟩ := g5 i e j y he hy
 exact ⟨u, p1, VC.T_weak (s.T p2) fun e => by simp only [Ah] at e; exact e.1⟩
def Pl (P : Program) (t : TypeId) (id n lo m : Nat) (src : AV) (o : Nat -> Ob) : Eff :=
 match o id with
 | .row ty k fr fz es => ⟨.sub id n lo (m + (F7 o src).length), [(id, .row ty k (fr && O4 o src) false (Jt es (lo + m) (F7 o src)))],
  G8 P t = true /\ tok P (Dw P t) = true /\ Aa2 o (tsz P (Dw P t)) src /\ k = tsz P (Dw P t) /\ fz = false /\ n = es.length /\ lo + m + (F7 o src).length <= n⟩
 | _ => .bad
theorem Acs {P : Program} (w : World) (t ty e : TypeId) (i : TypeInfo) (ht : P.underlying t = some (.slice e)) (hi : P.info? e = some i) (b off sLen sCap : Nat) (cur : Array Value) (bt : TypeId) (hb : w.heap[b]? = some (.cells cur bt (0, 0)))
 (a : Addr) (m c : Nat) (news : List Value) (hl : news.length = m * i.size) (hnews : ∀ (j : Nat) (u : Value), news[j]? = some u -> w.cell? (a.add j) = some u) (h1 : ∀ u ∈ news, u.oneCell' = true) (hroom : sLen + m <= sCap) (hfit : off + sLen * i.size + news.length <= cur.size) :
  (Builtin.append_ #[t, t] ty #[.slice (some ⟨b, off, none⟩) sLen sCap, .slice (some a) m c]).run P w = .ok (.slice (some ⟨b, off, none⟩) (sLen + m) sCap) (w.setRow b (cur.toList.take (off + sLen * i.size) ++ news ++ cur.toList.drop (off + sLen * i.size + news.length)).toArray) := by
 have hfc := run_firstCells_some (P := P) w i.size m a m c news hl hnews
 have hst := run_storeCells_at P b (off + sLen * i.size) bt news 0 cur w hb (by simpa using hfit) h1
 simp only [Nat.add_zero] at hst
 simp [Builtin.append_, run_underlying ht, sizeOf, typeInfo, hi, Builtin.lenOf, hroom, hfc, Addr.add_lit, hst]
theorem Al6 {E : Ent} {β : Nat -> Option Nat} {st : St} {a : Act} {w : World} (r : Rel E β st a w) {t ty : TypeId} {id n lo m : Nat} {x : AV} {ud ux : Value} (hd : Dv (E.C β st w) (.sub id n lo m) ud) (hx : Dv (E.C β st w) x ux) (hc : (Pl P t id n lo m x st.o).c) :
 ∃ u w' o, (Builtin.append_ #[t, t] ty #[ud, ux]).run P w = .ok u w' /\ (Pl P t id n lo m x st.o).up = [(id, o)] /\ Rel E β (st.set id o) a w' /\ Dv (E.C β (st.set id o) w') (Pl P t id n lo m x st.o).v u := by
 unfold Pl at hc ⊢
 cases ho : st.o id with
 | gone => rw [ho] at hc; exact hc.elim
 | box ty cs => rw [ho] at hc; exact hc.elim
 | row ty' k fr fz es =>
  rw [ho] at hc
  obtain ⟨h1, h2, h3, rfl, rfl, h6, h7⟩ := hc
  obtain ⟨i, hi, hsz⟩ : ∃ i, P.info? (Dw P t) = some i /\ i.size = tsz P (Dw P t) := by
   simp only [tok, Ah] at h2
   obtain ⟨i, hi⟩ := Option.isSome_iff_exists.1 h2.2
   exact ⟨i, hi, by simp [tsz, hi]⟩
  cases hd with
  | sub id n lo m u h =>
   have h' := h
   obtain ⟨q0, ty2, k', fr', fz', es', ho', q1, h5⟩ := h'
   have ho' : st.o id = _ := ho'
   rw [ho] at ho'
   injection ho' with e1 e2 e3 e4 e5
   subst e1 e2 e3 e4 e5
   obtain ⟨h8, A, c, rfl, hmc, hec, hA⟩ := h5 h6
   have hs := Ws r hx h3
   obtain ⟨hk, hel, hcell⟩ := r.row_cells ho
   by_cases he : F7 st.o x = []
   ·obtain ⟨A', c', rfl, _⟩ := hs
    obtain ⟨q1, q2⟩ := r.flag ho (fr' := fr && O4 st.o x) (fz' := false) (fun e => by simp only [Ah] at e; exact .inl e.1) fun e => rfl
    simp only [he, Jt, List.length_nil, Nat.add_zero]
    exact ⟨_, _, _, Oo w t ty _ i (Fc h1) hi A m c hmc A' c', rfl, q1, (Dv.sub id n lo m _ h).step q2⟩
   have hpos : 0 < (F7 st.o x).length := List.length_pos_iff.2 he
   obtain ⟨xb, xo, xc, news, rfl, n1, n2, n3, n4⟩ := hs.news hk w rfl he
   obtain ⟨_, _, _, _, helx, _⟩ := hs
   rcases hA with hA | ⟨b, hb, rfl⟩
   ·omega
   have hb : β id = some b := hb
   rcases hcell with ⟨hb', _⟩ | ⟨b', cur, cc, hb', g1, g2, g3, g4, g5⟩
   ·rw [hb'] at hb; cases hb
   rw [hb'] at hb
   injection hb with hb
   subst hb
   obtain ⟨hfit, hrel⟩ := Ach r (lo := lo + m) (fr2 := O4 st.o x) (ns := F7 st.o x) ho hb' g1 n1 helx n4 (by omega)
   have hrun := Acs (P := P) w t ty _ i (Fc h1) hi b' (lo * tsz P (Dw P t)) m c cur ty' g1 ⟨xb, xo, none⟩ _ xc news (by rw [hsz]; exact n1) n2 n3 (by omega) (by rw [hsz, <- Be]; exact hfit)
   rw [hsz, <- Be] at hrun
   refine ⟨_, _, _, hrun, rfl, hrel, ?_⟩
   refine .sub _ _ _ _ _ ⟨rfl, ty', _, _, false, _, by show (st.set _ _).o _ = _; rw [St.set_o, if_pos rfl], by rw [Fb]; omega, fun e => ⟨by rw [Fb]; omega, _, _, rfl, by omega, by rw [Fb]; exact hec, .inr ⟨b', hb', rfl⟩⟩⟩
def Yo (P : Program) (t : TypeId) (dst src : AV) (o : Nat -> Ob) (nid : Nat) : Eff :=
 match dst with
 | .sub id n lo m => Pl P t id n lo m src o
 | v => L7 P t v src o nid
theorem Auk {E : Ent} {β : Nat -> Option Nat} {st : St} {a : Act} {w : World} (r : Rel E β st a w) {nid : Nat} {t ty : TypeId} {d x : AV} (hn : (∃ k, d = .nil k) -> st.o nid = .gone) {ud ux : Value} (hd : Dv (E.C β st w) d ud) (hx : Dv (E.C β st w) x ux) (hc : (Yo P t d x st.o nid).c) :
 ∃ u w' β' id o, (Builtin.append_ #[t, t] ty #[ud, ux]).run P w = .ok u w' /\ (Yo P t d x st.o nid).up = [(id, o)] /\ Rel E β' (st.set id o) a w' /\ Dv (E.C β' (st.set id o) w') (Yo P t d x st.o nid).v u := by
 unfold Yo at hc ⊢
 split at hc
 ·rename_i id n lo m
  obtain ⟨u, w', o, h1, h2, h3, h4⟩ := Al6 (ty := ty) r hd hx hc
  exact ⟨u, w', β, id, o, h1, h2, h3, h4⟩
 exact Aor r hn hd hx hc
def Ky (P : Program) (t : TypeId) (id n lo m : Nat) (o : Nat -> Ob) : Eff :=
 match o id with
 | .row ty k fr fz es => ⟨.tup [], [(id, .row ty k fr false (Jt es lo (List.replicate m ((Gv P (Dw P t)).map AV.toT))))],
  G8 P t = true /\ zok P (Dw P t) = true /\ k = tsz P (Dw P t) /\ fz = false /\ n = es.length /\ lo + m <= n⟩
 | _ => .bad
def Oh (P : Program) (t : TypeId) (x : AV) (o : Nat -> Ob) : Eff :=
 match x with
 | .own id n => Ky P t id n 0 n o
 | .sub id n lo m => Ky P t id n lo m o
 | _ => .bad
theorem Aky {t : TypeId} {i : TypeInfo} {z : Value} (hi : P.info? t = some i) (hz : i.zero = some z) {j : Nat} {q : AV} (hq : (Gv P t)[j]? = some q) (hj2 : j < z.cells.size) : q.fresh = true := by
 have : q = W6 z.cells[j] ((Ss P 10 t).getD j 0) := by
  have e : L3 P t = z.cells.toList := by simp [L3, hi, hz]
  simp only [Gv, e, List.getElem?_zipWith] at hq
  have hu' : z.cells.toList[j]? = some z.cells[j] := by simp
  rw [hu'] at hq
  cases hk : (Ss P 10 t)[j]? with
  | none => rw [hk] at hq; simp at hq
  | some k => rw [hk] at hq; simp at hq; rw [Ad, hk]; exact hq.symm
 rw [this]
 unfold W6
 split <;> rfl
theorem Akf {E : Ent} {β : Nat -> Option Nat} {st : St} {a : Act} {w : World} (r : Rel E β st a w) {t ty : TypeId} {id n lo m : Nat} {ud : Value} (hd : ∀ ty k fr fz es, st.o id = .row ty k fr fz es -> n = es.length -> lo + m <= n -> ∃ A c, ud = .slice A m c /\ (m = 0 \/ ∃ b, β id = some b /\ A = some ⟨b, lo * k, none⟩)) (hc : (Ky P t id n lo m st.o).c) :
 ∃ u w' o, (Builtin.clear_ #[t] ty #[ud]).run P w = .ok u w' /\ (Ky P t id n lo m st.o).up = [(id, o)] /\ Rel E β (st.set id o) a w' /\ Dv (E.C β (st.set id o) w') (Ky P t id n lo m st.o).v u := by
 unfold Ky at hc ⊢
 cases ho : st.o id with
 | gone => rw [ho] at hc; exact hc.elim
 | box ty cs => rw [ho] at hc; exact hc.elim
 | row ty' k fr fz es =>
  rw [ho] at hc
  obtain ⟨h1, h2, rfl, rfl, h6, h7⟩ := hc
  obtain ⟨A, c, rfl, hA⟩ := hd _ _ _ _ _ ho h6 h7
  obtain ⟨hk, hel, hcell⟩ := r.row_cells ho
  obtain ⟨i, z, hi, hz, hsz, hzs, htl, hzc⟩ := O2 h2
  have htup : ∀ C : VC, Dv C (.tup []) (.tuple #[]) := fun C => .tup [] #[] rfl fun i c u h => by simp at h
  rcases hA with hm | ⟨b, hb, rfl⟩
  ·subst hm
   obtain ⟨q1, q2⟩ := r.flag ho (fr' := fr) (fz' := false) (fun e => .inl e) fun e => rfl
   simp only [List.replicate_zero, Jt]
   refine ⟨_, _, _, ?_, rfl, q1, htup _⟩
   cases A <;> simp [Builtin.clear_, run_underlying (Fc h1)]
  by_cases hm : m = 0
  ·subst hm
   obtain ⟨q1, q2⟩ := r.flag ho (fr' := fr) (fz' := false) (fun e => .inl e) fun e => rfl
   simp only [List.replicate_zero, Jt]
   refine ⟨_, _, _, ?_, rfl, q1, htup _⟩
   simp [Builtin.clear_, run_underlying (Fc h1)]
  rcases hcell with ⟨hb', _⟩ | ⟨b', cur, cc, hb', g1, g2, g3, g4, g5⟩
  ·rw [hb'] at hb; cases hb
  rw [hb'] at hb
  injection hb with hb
  subst hb
  have hzl : (Builtin.zeroCells z.cells m).toList.length = m * tsz P (Dw P t) := by simp [Builtin.zeroCells, hzs]
  have hns : (List.replicate m ((Gv P (Dw P t)).map AV.toT)).length = m := List.length_replicate
  obtain ⟨hfit, hrel⟩ := Ach r (lo := lo) (fr2 := true) (ns := List.replicate m ((Gv P (Dw P t)).map AV.toT)) (news := (Builtin.zeroCells z.cells m).toList) ho hb' g1 (by rw [hns]; exact hzl)
   (fun i e he => by rw [List.getElem?_replicate] at he; split at he <;> simp at he; rw [<- he, A2, htl]) (fun i' e j x he hx => by
    rw [List.getElem?_replicate] at he
    split at he
    ·rename_i hlt
     simp at he
     subst he
     rw [Ap] at hx
     cases hq : (Gv P (Dw P t))[j]? with
     | none => rw [hq] at hx; cases hx
     | some q =>
      rw [hq] at hx
      simp only [Ai, Option.some.injEq] at hx
      subst hx
      have hj : j < tsz P (Dw P t) := by rw [<- htl]; exact (Ab.1 hq).1
      have hj2 : j < z.cells.size := by omega
      obtain ⟨k1, k2, k3⟩ := hzc j q z.cells[j] hq (Al hj2)
      refine ⟨z.cells[j], ?_, (k1 (E.C β st w)).toT k3 fun _ => Aky hi hz hq hj2⟩
      have hlt2 : i' * tsz P (Dw P t) + j < m * z.cells.size := by
       rw [hzs]
       have := A1 (tsz P (Dw P t)) (show i' + 1 <= m by omega)
       rw [Be] at this; omega
      have hmod : (i' * tsz P (Dw P t) + j) % z.cells.size = j := by rw [hzs, Nat.mul_comm, Nat.mul_add_mod, Nat.mod_eq_of_lt hj]
      simp only [Builtin.zeroCells]
      rw [Array.getElem?_toList, Array.getElem?_map, Array.getElem?_range, if_pos hlt2]
      simp only [Ai, hmod]
      rw [getElem!_pos z.cells j hj2]
    cases he) (by rw [hns]; omega)
  rw [Bool.and_true] at hrel
  have hone : ∀ v ∈ (Builtin.zeroCells z.cells m).toList, v.oneCell' = true := fun v hv => by
   simp only [Builtin.zeroCells, Array.toList_map, A4] at hv
   obtain ⟨j, hj, rfl⟩ := hv
   have hj : j < m * z.cells.size := by simpa using hj
   have hzp : 0 < z.cells.size := by
    rcases Nat.eq_zero_or_pos z.cells.size with e | e
    ·rw [e] at hj; omega
    exact e
   have hj2 : j % z.cells.size < z.cells.size := Nat.mod_lt _ hzp
   rw [getElem!_pos z.cells _ hj2]
   have hq := Aa (l := Gv P (Dw P t)) (i := j % z.cells.size) (by omega)
   exact (hzc _ _ _ hq (Al hj2)).2.1
  have hst := run_storeCells_at P b' (lo * tsz P (Dw P t)) ty' (Builtin.zeroCells z.cells m).toList 0 cur w g1 (by simpa using hfit) hone
  simp only [Nat.add_zero] at hst
  obtain ⟨m', rfl⟩ : ∃ m', m = m' + 1 := ⟨m - 1, by omega⟩
  refine ⟨_, _, _, ?_, rfl, hrel, htup _⟩
  simp [Builtin.clear_, run_underlying (Fc h1), zeroValue, typeInfo, hi, hz, hst]
theorem Ari {E : Ent} {β : Nat -> Option Nat} {st : St} {a : Act} {w : World} (r : Rel E β st a w) {t ty : TypeId} {d : AV} {ud : Value} (hd : Dv (E.C β st w) d ud) (hc : (Oh P t d st.o).c) :
 ∃ u w' id o, (Builtin.clear_ #[t] ty #[ud]).run P w = .ok u w' /\ (Oh P t d st.o).up = [(id, o)] /\ Rel E β (st.set id o) a w' /\ Dv (E.C β (st.set id o) w') (Oh P t d st.o).v u := by
 cases hd with
 | own id n u h =>
  obtain ⟨u, w', o, h1⟩ := Akf (P := P) (t := t) (ty := ty) r (ud := ud) (fun ty k fr fz es ho hn hm => by
   rcases r.own_val ho h hn with ⟨_, he, A, rfl⟩ | ⟨b, cur, c, hb, _, _, _, _, rfl, _⟩
   ·subst he
    exact ⟨A, 0, by rw [hn]; rfl, .inl hn⟩
   exact ⟨_, c, by rw [hn], .inr ⟨b, hb, by rw [Nat.zero_mul]⟩⟩) (show (Ky P t id n 0 n st.o).c from hc)
  exact ⟨u, w', id, o, h1⟩
 | sub id n lo m u h =>
  obtain ⟨u, w', o, h1⟩ := Akf (P := P) (t := t) (ty := ty) r (ud := ud) (fun ty k fr fz es ho hn hm => by
   obtain ⟨_, ty', k', fr', fz', es', ho', _, h5⟩ := h
   have ho' : st.o id = _ := ho'
   rw [ho] at ho'
   injection ho' with e1 e2 e3 e4 e5
   subst e1 e2 e3 e4 e5
   obtain ⟨_, A, c, rfl, hmc, _, h8⟩ := h5 hn
   exact ⟨A, c, rfl, h8.elim (fun e => .inl (by omega)) .inr⟩) (show (Ky P t id n lo m st.o).c from hc)
  exact ⟨u, w', id, o, h1⟩
 | _ => simp [Oh, Eff.bad] at hc
end
section
variable {P : Program}
theorem Pr (t : TypeId) : P.elem t = Dw P t := rfl
def tpl (P : Program) (t : TypeId) : List (Nat × Nat) := match P.underlying t with
 | some (.struct fs) => fs.toList.map fun f => (f.offset, tsz P f.type)
 | some (.array n e) => (List.range n).map fun i => (i * tsz P e, tsz P e)
 | _ => []
def Qd (P : Program) (t : TypeId) : Bool := match P.underlying t with
 | some (.struct fs) => fs.all fun f => tok P f.type
 | _ => false
def Alc (P : Program) (t : TypeId) : Option Nat := match P.underlying t with
 | some (.array n _) => some n
 | _ => none
theorem Zw {t : TypeId} (h : Qd P t = true) : ∃ fs, P.underlying t = some (.struct fs) /\ (∀ f ∈ fs, tok P f.type = true) /\ tpl P t = fs.toList.map fun f => (f.offset, tsz P f.type) := by
 unfold Qd at h
 split at h
 ·rename_i fs he
  exact ⟨fs, he, fun f hf => by simpa using (Array.all_eq_true'.1 h) f hf, by simp [tpl, he]⟩
 cases h
def Og (P : Program) (s : TypeId) (x : AV) (f : Nat) (o : Nat -> Ob) : Eff :=
 let c := Qd P s = true /\ f < (tpl P s).length /\ ((tpl P s).getD f (0, 0)).2 ≠ 0
 let d := ((tpl P s).getD f (0, 0)).1
 match x with
 | .ptr id off => ⟨.ptr id (off + d), [], c⟩
 | .rptr id n i off => ⟨.rptr id n i (off + d), [], n = (Kj (o id)).length /\ c⟩
 | .iptr fr cs off => ⟨.iptr fr cs (off + d), [], c⟩
 | _ => .bad
theorem Ara {C : VC} {w : World} {s : TypeId} {x : AV} {f : Nat} {u : Value} (hx : Dv C x u) (hc : (Og P s x f C.ob).c) :
 ∃ v, (Instr.fieldAt s u f).run P w = .ok v w /\ Dv C (Og P s x f C.ob).v v /\ (Og P s x f C.ob).up = [] := by
 have hrun : ∀ b off, (Qd P s = true /\ f < (tpl P s).length /\ ((tpl P s).getD f (0, 0)).2 ≠ 0) -> (Instr.fieldAt s (.pointer (some ⟨b, off, none⟩)) f).run P w = .ok (.pointer (some ⟨b, off + ((tpl P s).getD f (0, 0)).1, none⟩)) w := by
  rintro b off ⟨h1, h2, h3⟩
  obtain ⟨fs, hu, hk, hp⟩ := Zw h1
  rw [hp] at h2 h3 ⊢
  rw [A2] at h2
  have hf : fs[f]? = some fs[f] := by simp
  have hg : ((fs.toList.map fun f => (f.offset, tsz P f.type)).getD f (0, 0)) = (fs[f].offset, tsz P fs[f].type) := by
   rw [Ad, Ap]; simp [hf]
  rw [hg] at h3 ⊢
  simp only [Instr.fieldAt, Sem.run_bind, run_underlying hu, Result.andThen_ok, hf, Instr.sureAddr, Sem.run_pure, fieldPlace, Ld (hk _ (Array.getElem_mem _)), h3, if_false, Addr.add_lit]
 cases hx with
 | ptr id off u h =>
  obtain ⟨ty, cs, b, ho, hb, rfl⟩ := h
  exact ⟨_, hrun b off hc, .ptr _ _ _ ⟨ty, cs, b, ho, hb, rfl⟩, rfl⟩
 | rptr id n i off u h =>
  obtain ⟨h0, ty, k, fr, fz, es, ho, hn, hu⟩ := h
  obtain ⟨e, hc⟩ := hc
  rw [ho] at e
  obtain ⟨b, hb, rfl⟩ := hu e
  exact ⟨_, hrun b _ hc, .rptr _ _ _ _ _ ⟨rfl, ty, k, fr, fz, es, ho, hn, fun _ => ⟨b, hb, by rw [Af]⟩⟩, rfl⟩
 | iptr fr cs off b o cur ty fz us h1 h2 h3 =>
  refine ⟨_, hrun b _ hc, ?_, rfl⟩
  have := Dv.iptr (C := C) fr cs (off + ((tpl P s).getD f (0, 0)).1) b o cur ty fz us h1 h2 h3
  rw [<- Af] at this
  exact this
 | _ => simp [Og, Eff.bad] at hc
def Of (P : Program) (t : TypeId) (x ix : AV) (o : Nat -> Ob) : Eff :=
 let i := (Fg ix).toNat
 match x with
 | .imm fr k es => ⟨.iptr fr (es.getD i []) 0, [], Mu ix = true /\ G8 P t = true /\ tok P (Dw P t) = true /\ k = tsz P (Dw P t) /\ 0 <= Fg ix /\ Fg ix < es.length⟩
 | .own id n => ⟨.rptr id n i 0, [], Mu ix = true /\ G8 P t = true /\ tok P (Dw P t) = true /\ Fp (o id) = true /\ Q8 (o id) = tsz P (Dw P t) /\ n = (Kj (o id)).length /\ 0 <= Fg ix /\ Fg ix < n⟩
 | .sub id n lo m => ⟨.rptr id n (lo + i) 0, [], Mu ix = true /\ G8 P t = true /\ tok P (Dw P t) = true /\ Fp (o id) = true /\ Q8 (o id) = tsz P (Dw P t) /\ n = (Kj (o id)).length /\ 0 <= Fg ix /\ Fg ix < m⟩
 | .bsl id n => ⟨.ptr id (i * tsz P (Dw P t)), [], Mu ix = true /\ G8 P t = true /\ tok P (Dw P t) = true /\ 0 <= Fg ix /\ Fg ix < n⟩
 | .ptr id off => ⟨.ptr id (off + i * tsz P (Dw P t)), [], Mu ix = true /\ tok P (Dw P t) = true /\ 0 <= Fg ix /\ ∃ m, Alc P t = some m /\ Fg ix < m⟩
 | .iptr fr cs off => ⟨.iptr fr cs (off + i * tsz P (Dw P t)), [], Mu ix = true /\ tok P (Dw P t) = true /\ 0 <= Fg ix /\ ∃ m, Alc P t = some m /\ Fg ix < m⟩
 | _ => .bad
theorem O6 {w : World} {t : TypeId} (h1 : G8 P t = true) (h2 : tok P (Dw P t) = true) {b off n c : Nat} {k : IntKind} {i : Int} (h3 : 0 <= i) (h4 : i < n) :
 (Instr.indexAt t (.slice (some ⟨b, off, none⟩) n c) (.int k i)).run P w = .ok (.pointer (some ⟨b, off + i.toNat * tsz P (Dw P t), none⟩)) w := by
 rw [run_indexAt_slice w t _ n c k i (Fc h1), if_pos ⟨h3, h4⟩, Pr, Ld h2, Result.andThen_ok, Addr.add_lit]
theorem Acf {t : TypeId} {m : Nat} (h : Alc P t = some m) : P.underlying t = some (.array m (Dw P t)) := by
 unfold Alc at h
 unfold Dw
 split at h
 ·rename_i n e he
  injection h with h
  subst h
  rw [he]
 cases h
theorem V3 {w : World} {t : TypeId} {m : Nat} (h1 : Alc P t = some m) (h2 : tok P (Dw P t) = true) {b off : Nat} {k : IntKind} {i : Int} (h3 : 0 <= i) (h4 : i < m) :
 (Instr.indexAt t (.pointer (some ⟨b, off, none⟩)) (.int k i)).run P w = .ok (.pointer (some ⟨b, off + i.toNat * tsz P (Dw P t), none⟩)) w := by
 have hl : P.arrayLen t = m := by simp [Program.arrayLen, Acf h1]
 rw [run_indexAt_array w t _ k i (by rw [hl, Pr]; exact Acf h1), hl, if_pos ⟨h3, h4⟩, Pr, Ld h2, Result.andThen_ok, Addr.add_lit]
theorem Aq2 {E : Ent} {β : Nat -> Option Nat} {st : St} {a : Act} {w : World} (r : Rel E β st a w) {t : TypeId} {x ix : AV} {u ui : Value} (hx : Dv (E.C β st w) x u) (hi : Dv (E.C β st w) ix ui) (hc : (Of P t x ix st.o).c) :
 ∃ v, (Instr.indexAt t u ui).run P w = .ok v w /\ Dv (E.C β st w) (Of P t x ix st.o).v v /\ (Of P t x ix st.o).up = [] := by
 cases hx with
 | imm fr k es u h =>
  obtain ⟨c1, c2, c3, c4, c5, c6⟩ := hc
  obtain ⟨kk, rfl⟩ := Hn c1 hi
  cases h with
  | nil k A c => simp at c6; omega
  | sl k es b off c cur ty fz us h1 h2 h3 h4 h5 h6 =>
   refine ⟨_, O6 c2 c3 c5 c6, ?_, rfl⟩
   have he : es[(Fg ix).toNat]? = some (es.getD (Fg ix).toNat []) := by rw [Ad, Aa (by omega)]; rfl
   have := Dv.iptr (C := E.C β st w) fr (es.getD (Fg ix).toNat []) 0 b (off + (Fg ix).toNat * k) cur ty fz (us (Fg ix).toNat) h1 h2 fun j x hx => ⟨h5 _ _ j x he hx, h6 _ _ j x he hx⟩
   rw [Nat.add_zero] at this
   rw [<- c4]
   exact this
 | own id n u h =>
  obtain ⟨c1, c2, c3, c4, c5, c6, c7, c8⟩ := hc
  obtain ⟨kk, rfl⟩ := Hn c1 hi
  obtain ⟨ty, fz, ho⟩ := Js c4
  rcases r.own_val ho h c6 with ⟨_, he, _⟩ | ⟨b, cur, c, hb, g1, g2, g3, g4, rfl, g5⟩
  ·rw [he] at c6; simp at c6; omega
  refine ⟨_, O6 c2 c3 c7 (by rw [<- c6]; exact c8), ?_, rfl⟩
  refine .rptr _ _ _ _ _ ⟨rfl, ty, _, _, fz, _, ho, by omega, fun _ => ⟨b, hb, ?_⟩⟩
  rw [Bm, Nat.add_zero, c5]
 | sub id n lo m u h =>
  obtain ⟨c1, c2, c3, c4, c5, c6, c7, c8⟩ := hc
  obtain ⟨kk, rfl⟩ := Hn c1 hi
  obtain ⟨ty, fz, ho⟩ := Js c4
  obtain ⟨_, ty', k', fr', fz', es', ho', _, h5⟩ := h
  have ho' : st.o id = _ := ho'
  rw [ho] at ho'
  injection ho' with e1 e2 e3 e4 e5
  subst e1 e2 e3 e4 e5
  obtain ⟨h6, A, c, rfl, h7, _, h8⟩ := h5 c6
  rcases h8 with h8 | ⟨b, hb, rfl⟩
  ·omega
  refine ⟨_, O6 c2 c3 c7 c8, ?_, rfl⟩
  refine .rptr _ _ _ _ _ ⟨rfl, ty, _, _, fz, _, ho, by omega, fun _ => ⟨b, hb, ?_⟩⟩
  rw [Nat.add_zero, c5, Be]
 | bsl id n u h =>
  obtain ⟨c1, c2, c3, c5, c6⟩ := hc
  obtain ⟨kk, rfl⟩ := Hn c1 hi
  obtain ⟨ty, cs, b, c, ho, hb, rfl, hle⟩ := h
  refine ⟨_, O6 c2 c3 c5 c6, ?_, rfl⟩
  exact .ptr _ _ _ ⟨ty, cs, b, ho, hb, by rw [Bm]⟩
 | ptr id off u h =>
  obtain ⟨c1, c3, c5, m, c4, c6⟩ := hc
  obtain ⟨kk, rfl⟩ := Hn c1 hi
  obtain ⟨ty, cs, b, ho, hb, rfl⟩ := h
  exact ⟨_, V3 c4 c3 c5 c6, .ptr _ _ _ ⟨ty, cs, b, ho, hb, rfl⟩, rfl⟩
 | iptr fr cs off b o cur ty fz us h1 h2 h3 =>
  obtain ⟨c1, c3, c5, m, c4, c6⟩ := hc
  obtain ⟨kk, rfl⟩ := Hn c1 hi
  refine ⟨_, V3 c4 c3 c5 c6, ?_, rfl⟩
  have := Dv.iptr (C := E.C β st w) fr cs (off + (Fg ix).toNat * tsz P (Dw P t)) b o cur ty fz us h1 h2 h3
  rw [<- Af] at this
  exact this
 | _ => simp [Of, Eff.bad] at hc
def Py : Option AV -> Int
 | some v => Fg v
 | none => 0
def Rd (n : Nat) : Option AV -> Int
 | some v => Fg v
 | none => n
def Hp (P : Program) (t : TypeId) (x : AV) (lo hi : Option AV) (o : Nat -> Ob) : Eff :=
 let ok := (∀ v, lo = some v -> Mu v = true) /\ (∀ v, hi = some v -> Mu v = true) /\ G8 P t = true /\ tok P (Dw P t) = true
 match x with
 | .nil k => ⟨.nil k, [], ok /\ Py lo = 0 /\ Rd 0 hi = 0⟩
 | .imm fr k es => ⟨.imm fr k ((es.take (Rd es.length hi).toNat).drop (Py lo).toNat), [], ok /\ k = tsz P (Dw P t) /\ 0 <= Py lo /\ Py lo <= Rd es.length hi /\ Rd es.length hi <= es.length⟩
 | .own id n => ⟨.sub id n (Py lo).toNat ((Rd n hi).toNat - (Py lo).toNat), [], ok /\ Fp (o id) = true /\ Q8 (o id) = tsz P (Dw P t) /\ n = (Kj (o id)).length /\ 0 <= Py lo /\ Py lo <= Rd n hi /\ Rd n hi <= n⟩
 | .sub id n a m => ⟨.sub id n (a + (Py lo).toNat) ((Rd m hi).toNat - (Py lo).toNat), [], ok /\ Fp (o id) = true /\ Q8 (o id) = tsz P (Dw P t) /\ n = (Kj (o id)).length /\ 0 <= Py lo /\ Py lo <= Rd m hi /\ Rd m hi <= m⟩
 | _ => .bad
theorem Jm {w : World} {t : TypeId} (h1 : G8 P t = true) (h2 : tok P (Dw P t) = true) {A : Option Addr} {n c : Nat} (hnc : n <= c) {lo hi : Option AV} {C : VC} {ulo uhi : Option Value}
 (hlo : ∀ v, lo = some v -> Mu v = true /\ ∃ u, ulo = some u /\ Dv C v u) (hlo' : lo = none -> ulo = none) (hhi : ∀ v, hi = some v -> Mu v = true /\ ∃ u, uhi = some u /\ Dv C v u) (hhi' : hi = none -> uhi = none)
  (h3 : 0 <= Py lo) (h4 : (Py lo) <= (Rd n hi)) (h5 : (Rd n hi) <= n) :
  (Instr.sliceAt t (.slice A n c) ulo uhi none).run P w = .ok (sliced A (Py lo).toNat (Rd n hi).toNat c (tsz P (Dw P t))) w := by
 have ht := Fc h1
 rw [run_sliceAt_slice w t _ _ _ _ ht]
 cases lo with
 | none =>
  have := hlo' rfl
  subst this
  cases hi with
  | none =>
   have := hhi' rfl
   subst this
   rw [run_slice_all w t A n c ht, Pr, Ld h2]; rfl
  | some v =>
   obtain ⟨e1, u, rfl, e2⟩ := hhi v rfl
   obtain ⟨k, rfl⟩ := Hn e1 e2
   simp only [Py, Rd] at h3 h4 h5 ⊢
   rw [run_slice_h w t A n c ht k _ (by omega) (by omega), Pr, Ld h2]; rfl
 | some v =>
  obtain ⟨e1, u, rfl, e2⟩ := hlo v rfl
  obtain ⟨k, rfl⟩ := Hn e1 e2
  cases hi with
  | none =>
   have := hhi' rfl
   subst this
   simp only [Py, Rd] at h3 h4 h5 ⊢
   rw [run_slice_l w t A n c ht k _ h3 (by omega), Pr, Ld h2]; rfl
  | some v2 =>
   obtain ⟨e3, u, rfl, e4⟩ := hhi v2 rfl
   obtain ⟨k2, rfl⟩ := Hn e3 e4
   simp only [Py, Rd] at h3 h4 h5 ⊢
   rw [run_slice_lh w t A n c ht k k2 _ _ h3 (by omega) (by omega), Pr, Ld h2]; rfl
theorem Apr {E : Ent} {β : Nat -> Option Nat} {st : St} {a : Act} {w : World} (r : Rel E β st a w) {t : TypeId} {x : AV} {u : Value} {lo hi : Option AV} {ulo uhi : Option Value} (hx : Dv (E.C β st w) x u)
 (hlo : ∀ v, lo = some v -> ∃ u, ulo = some u /\ Dv (E.C β st w) v u) (hlo' : lo = none -> ulo = none) (hhi : ∀ v, hi = some v -> ∃ u, uhi = some u /\ Dv (E.C β st w) v u) (hhi' : hi = none -> uhi = none) (hc : (Hp P t x lo hi st.o).c) :
  ∃ v, (Instr.sliceAt t u ulo uhi none).run P w = .ok v w /\ Dv (E.C β st w) (Hp P t x lo hi st.o).v v /\ (Hp P t x lo hi st.o).up = [] := by
 cases hx with
 | nil k A =>
  obtain ⟨⟨c1, c2, c3, c4⟩, c5, c6⟩ := hc
  refine ⟨_, Jm c3 c4 (Aj 0) (fun v e => ⟨c1 v e, hlo v e⟩) hlo' (fun v e => ⟨c2 v e, hhi v e⟩) hhi' (by omega) (by omega) (by omega), ?_, rfl⟩
  rw [c5, c6]
  exact .nil _ _
 | imm fr k es u h =>
  obtain ⟨⟨c1, c2, c3, c4⟩, rfl, c5, c6, c7⟩ := hc
  cases h with
  | nil k A c =>
   have a1 := c7
   simp only [List.length_nil] at c5 c6 c7
   refine ⟨_, Jm c3 c4 (Ae c) (fun v e => ⟨c1 v e, hlo v e⟩) hlo' (fun v e => ⟨c2 v e, hhi v e⟩) hhi' c5 c6 c7, ?_, rfl⟩
   simp only [Hp, List.take_nil, List.drop_nil, sliced]
   refine .imm _ _ _ _ ?_
   have e0 : (Rd 0 hi).toNat - (Py lo).toNat = 0 := by omega
   rw [e0]
   exact .nil _ _ _
  | sl k es b off c cur ty fz us h1 h2 h3 h4 h5 h6 =>
   refine ⟨_, Jm c3 c4 h3 (fun v e => ⟨c1 v e, hlo v e⟩) hlo' (fun v e => ⟨c2 v e, hhi v e⟩) hhi' c5 c6 c7, ?_, rfl⟩
   simp only [Hp]
   generalize hL : Py lo = L at c5 c6 c7 ⊢
   generalize hH : Rd es.length hi = H at c5 c6 c7 ⊢
   refine .imm _ _ _ _ ?_
   have hlen : ((es.take H.toNat).drop L.toNat).length = H.toNat - L.toNat := by rw [Bc, A5]; omega
   have hget : ∀ (i : Nat) (e : List T), ((es.take H.toNat).drop L.toNat)[i]? = some e -> es[L.toNat + i]? = some e := fun i e he => by
    have hi : i < H.toNat - L.toNat := by rw [<- hlen]; exact (Ab.1 he).1
    rw [Bd, Ag (by omega)] at he
    exact he
   unfold sliced
   rw [<- hlen]
   by_cases hcl : c = L.toNat
   ·have : (es.take H.toNat).drop L.toNat = [] := List.eq_nil_of_length_eq_zero (by omega)
    rw [this]
    exact .nil _ _ _
   rw [if_neg hcl]
   simp only [Ai, Addr.add_lit]
   refine .sl _ _ b _ _ cur ty fz (fun i j => us (L.toNat + i) j) h1 h2 (by omega) (fun i e he => h4 _ e (hget i e he)) (fun i e j x he hx => ?_) (fun i e j x he hx => h6 _ e j x (hget i e he) hx)
   rw [<- h5 _ e j x (hget i e he) hx]
   congr 1
   rw [Be]
   omega
 | own id n u h =>
  obtain ⟨⟨c1, c2, c3, c4⟩, c8, c9, c10, c5, c6, c7⟩ := hc
  obtain ⟨ty, fz, ho⟩ := Js c8
  have hval : ∃ A c, u = .slice A n c /\ n <= c /\ (c = 0 \/ ∃ b, β id = some b /\ A = some ⟨b, 0, none⟩) := by
   rcases r.own_val ho h c10 with ⟨_, e, A, rfl⟩ | ⟨b, cur, c, hb, _, _, g3, _, rfl, _⟩
   ·rw [e] at c10
    exact ⟨A, 0, by rw [c10]; rfl, by rw [c10]; exact Aj _, .inl rfl⟩
   exact ⟨_, c, by rw [<- c10], by omega, .inr ⟨b, hb, rfl⟩⟩
  obtain ⟨A, c, rfl, hnc, hA⟩ := hval
  refine ⟨_, Jm c3 c4 hnc (fun v e => ⟨c1 v e, hlo v e⟩) hlo' (fun v e => ⟨c2 v e, hhi v e⟩) hhi' c5 c6 c7, ?_, rfl⟩
  simp only [Hp]
  generalize hL : Py lo = L at c5 c6 c7 ⊢
  generalize hH : Rd n hi = H at c5 c6 c7 ⊢
  unfold sliced
  refine .sub _ _ _ _ _ ⟨rfl, ty, _, _, fz, _, ho, by omega, fun _ => ⟨by omega, _, _, rfl, by omega, by omega, ?_⟩⟩
  by_cases h0 : c = L.toNat
  ·exact .inl (by omega)
  rcases hA with hA | ⟨b, hb, rfl⟩
  ·exact .inl (by omega)
  refine .inr ⟨b, hb, ?_⟩
  rw [if_neg h0]
  simp only [Ai, Addr.add_lit, Bm, c9]
 | sub id n lo' m u h =>
  obtain ⟨⟨c1, c2, c3, c4⟩, c8, c9, c10, c5, c6, c7⟩ := hc
  obtain ⟨ty, fz, ho⟩ := Js c8
  obtain ⟨_, ty', k', fr', fz', es', ho', _, h5⟩ := h
  have ho' : st.o id = _ := ho'
  rw [ho] at ho'
  injection ho' with e1 e2 e3 e4 e5
  subst e1 e2 e3 e4 e5
  obtain ⟨h6, A, c, rfl, hnc, hes, hA⟩ := h5 c10
  refine ⟨_, Jm c3 c4 hnc (fun v e => ⟨c1 v e, hlo v e⟩) hlo' (fun v e => ⟨c2 v e, hhi v e⟩) hhi' c5 c6 c7, ?_, rfl⟩
  simp only [Hp]
  generalize hL : Py lo = L at c5 c6 c7 ⊢
  generalize hH : Rd m hi = H at c5 c6 c7 ⊢
  unfold sliced
  refine .sub _ _ _ _ _ ⟨rfl, ty, _, _, fz, _, ho, by omega, fun _ => ⟨by omega, _, _, rfl, by omega, by omega, ?_⟩⟩
  by_cases h0 : c = L.toNat
  ·exact .inl (by omega)
  rcases hA with hA | ⟨b, hb, rfl⟩
  ·exact .inl (by omega)
  refine .inr ⟨b, hb, ?_⟩
  rw [if_neg h0]
  simp only [Ai, Addr.add_lit, c9, Be]
 | _ => simp [Hp, Eff.bad] at hc
end
end Go.Proofs.YtkkimgjinbaemaaGreat
