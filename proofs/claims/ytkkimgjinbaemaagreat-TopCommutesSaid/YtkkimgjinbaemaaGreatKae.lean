/- The walk. -/
import Derived.Test.YtkkimgjinbaemaaGreatKad
namespace Go.Proofs.YtkkimgjinbaemaaGreat
open Go.RowKit
set_option linter.unusedVariables false
set_option linter.unusedSimpArgs false
set_option maxRecDepth 100000
set_option maxHeartbeats 4000000
section
variable {P : Program}
theorem I0 {P : Program} (w : World) (dT sT ty elem : TypeId) (k g o dLen dCap : Nat) (a : Addr) (sLen sCap : Nat) (cur : Array Value) (t : TypeId) (cs : List Value)
 (hu : P.underlying dT = some (.slice elem)) (hs : (P.info? elem).map (·.size) = some k)
  (hg : w.heap[g]? = some (.cells cur t (0, 0))) (hn : cs.length = Nat.min sLen dLen * k)
  (hsrc : ∀ j v, cs[j]? = some v -> w.cell? (a.add j) = some v) (hfit : o + cs.length <= cur.size) (h1 : ∀ v ∈ cs, v.oneCell' = true) :
  (Builtin.copy_ #[dT, sT] ty #[.slice (some ⟨g, o, none⟩) dLen dCap, .slice (some a) sLen sCap]).run P w =
   .ok (goInt (Nat.min sLen dLen)) (w.setRow g (cur.toList.take o ++ cs ++ cur.toList.drop (o + cs.length)).toArray) := by
 have hl := run_loadCells_list (P := P) w a cs hsrc
 have hst := run_storeCells_at P g o t cs 0 cur w hg (by simpa using hfit) h1
 cases hq : P.info? elem with
 | none => simp [hq] at hs
 | some i =>
  have hi : i.size = k := by simpa [hq] using hs
  simp [Builtin.copy_, run_underlying hu, Builtin.lenOf, Builtin.firstCells, sizeOf, typeInfo, hq, hi, <- hn, hl, hst]
theorem Z7 {P : Program} (w : World) (dT sT ty elem : TypeId) (k : Nat) (d a : Option Addr) (dLen dCap sLen sCap : Nat) (hu : P.underlying dT = some (.slice elem)) (hs : (P.info? elem).map (·.size) = some k) (hn : Nat.min sLen dLen = 0) :
 (Builtin.copy_ #[dT, sT] ty #[.slice d dLen dCap, .slice a sLen sCap]).run P w = .ok (goInt 0) w := by
 cases hq : P.info? elem with
 | none => simp [hq] at hs
 | some i =>
  have hl : ∀ (x : Addr), (loadCells x 0).run P w = .ok #[] w := fun x => by simpa using run_loadCells_list (P := P) w x [] (by simp)
  cases d <;> cases a <;> simp [Builtin.copy_, run_underlying hu, Builtin.lenOf, Builtin.firstCells, sizeOf, typeInfo, hq, hn, storeCells, hl]
def Lp (P : Program) (t : TypeId) (id n lo m : Nat) (src : AV) (o : Nat -> Ob) : Eff :=
 match o id with
 | .row ty k fr fz es => ⟨.lit (.int .i64 (min (Dr o src).length m : Nat)), [(id, .row ty k (fr && Mt o src) false (Hm es lo ((Dr o src).take m)))],
  Ex P t = true /\ tok P (Bs P t) = true /\ Yj o (tsz P (Bs P t)) src /\ k = tsz P (Bs P t) /\ fz = false /\ n = es.length /\ lo + m <= n⟩
 | _ => .bad
def Qv (P : Program) (t : TypeId) (d src : AV) (o : Nat -> Ob) : Eff :=
 match d with
 | .own id n => Lp P t id n 0 n src o
 | .sub id n lo m => Lp P t id n lo m src o
 | _ => .bad
theorem Ake {E : Ent} {β : Nat -> Option Nat} {st : St} {a : Act} {w : World} (r : Rel E β st a w) {t dT sT ty : TypeId} (hT : dT = t) {id n lo m : Nat} {x : AV} {ud ux : Value} (hd : ∀ ty k fr fz es, st.o id = .row ty k fr fz es -> n = es.length -> lo + m <= n -> ∃ A c, ud = .slice A m c /\ (m = 0 \/ ∃ b, β id = some b /\ A = some ⟨b, lo * k, none⟩)) (hx : Br (E.C β st w) x ux) (hc : (Lp P t id n lo m x st.o).c) :
 ∃ u w' o, (Builtin.copy_ #[dT, sT] ty #[ud, ux]).run P w = .ok u w' /\ (Lp P t id n lo m x st.o).up = [(id, o)] /\ Rel E β (st.set id o) a w' /\ Br (E.C β (st.set id o) w') (Lp P t id n lo m x st.o).v u := by
 subst hT
 unfold Lp at hc ⊢
 cases ho : st.o id with
 | gone => rw [ho] at hc; exact hc.elim
 | box ty cs => rw [ho] at hc; exact hc.elim
 | row ty' k fr fz es =>
  rw [ho] at hc
  obtain ⟨h1, h2, h3, rfl, rfl, h6, h7⟩ := hc
  obtain ⟨A, c, rfl, hA⟩ := hd _ _ _ _ _ ho h6 h7
  have hinfo : (P.info? (Bs P dT)).map (·.size) = some (tsz P (Bs P dT)) := by
   simp only [tok, Ah] at h2
   obtain ⟨i, hi⟩ := Option.isSome_iff_exists.1 h2.2
   simp [tsz, hi]
  have hs := Ub r hx h3
  obtain ⟨hk, hel, hcell⟩ := r.row_cells ho
  by_cases h0 : min (Dr st.o x).length m = 0
  ·obtain ⟨A', c', rfl, _⟩ := hs
   obtain ⟨q1, q2⟩ := r.flag ho (fr' := fr && Mt st.o x) (fz' := false) (fun e => by simp only [Ah] at e; exact .inl e.1) fun e => rfl
   have he : (Dr st.o x).take m = [] := List.eq_nil_of_length_eq_zero (by rw [A5]; omega)
   simp only [he, Hm, h0]
   exact ⟨_, _, _, Z7 w dT sT ty _ _ A A' m c _ c' (Cy h1) hinfo h0, rfl, q1, .lit _⟩
  have hne : Dr st.o x ≠ [] := fun e => by rw [e] at h0; simp at h0
  obtain ⟨xb, xo, xc, news, rfl, n1, n2, n3, n4⟩ := hs.news hk w rfl hne
  obtain ⟨_, _, _, _, helx, _⟩ := hs
  rcases hA with hm | ⟨b, hb, rfl⟩
  ·omega
  rcases hcell with ⟨hb', _⟩ | ⟨b', cur, cc, hb', g1, g2, g3, g4, g5⟩
  ·rw [hb'] at hb; cases hb
  rw [hb'] at hb
  injection hb with hb
  subst hb
  have hlt : (news.take (min (Dr st.o x).length m * tsz P (Bs P dT))).length = min (Dr st.o x).length m * tsz P (Bs P dT) := by
   rw [A5, n1]
   exact Nat.min_eq_left (A1 _ (Nat.min_le_left _ _))
  have hnews : ∀ (j : Nat) (v : Value), (news.take (min (Dr st.o x).length m * tsz P (Bs P dT)))[j]? = some v -> news[j]? = some v := fun j v hv => by
   have hj : j < min (Dr st.o x).length m * tsz P (Bs P dT) := by rw [<- hlt]; exact (Ab.1 hv).1
   rw [Ag hj] at hv
   exact hv
  have hfit : lo * tsz P (Bs P dT) + (news.take (min (Dr st.o x).length m * tsz P (Bs P dT))).length <= cur.size := by
   rw [hlt, g2, <- Be]
   exact A1 _ (by omega)
  have hrun := I0 (P := P) w dT sT ty (Bs P dT) (tsz P (Bs P dT)) b' (lo * tsz P (Bs P dT)) m c ⟨xb, xo, none⟩ (Dr st.o x).length xc cur ty' _ (Cy h1) hinfo g1 hlt (fun j v hv => n2 j v (hnews j v hv)) hfit (fun v hv => n3 v (Aq hv))
  refine ⟨_, _, _, hrun, rfl, ?_, .lit _⟩
  have htl : ((Dr st.o x).take m).length = min (Dr st.o x).length m := by rw [A5, Nat.min_comm]
  refine r.change (id := id) (by rw [ho]; rfl) hb' g1 (setRow_heap w b' cur _ _ (0, 0) g1) (Eh cur _ _ hfit) (by simp) (fun b' hb' => setRow_other w _ b' _ hb') rfl rfl rfl
   (fun ty' cs' e => by rw [ho] at e; cases e) (fun ty' k' fr' fz' es' e => by
    rw [ho] at e
    injection e with e1 e2 e3 e4 e5
    subst e1 e2 e5
    exact ⟨_, _, _, rfl, by rw [Cv]; exact Aj _⟩) (fun C s hCβ hCh => ?_) (.inr trivial)
  refine ⟨⟨hk, fun i e he => ?_⟩, ?_⟩
  ·rw [Gq] at he
   split at he
   ·exact helx _ e (by rw [List.getElem?_take] at he; split at he <;> first | exact he | cases he)
   exact hel _ e he
  rw [hCβ]
  refine ⟨_, cc, hCh, by rw [Eh cur _ _ hfit, g2], by rw [Cv]; exact g3, g4, fun i e j y he hy => ?_⟩
  rw [La cur _ _ hfit, hlt]
  rw [Gq, htl] at he
  have hmm : ∀ p q : Nat, p + 1 <= q -> p * tsz P (Bs P dT) + tsz P (Bs P dT) <= q * tsz P (Bs P dT) := fun p q h => by
   have := A1 (tsz P (Bs P dT)) h
   rw [Be] at this; omega
  by_cases hin : lo <= i /\ i < lo + min (Dr st.o x).length m /\ i < es.length
  ·rw [if_pos hin] at he
   have he' : (Dr st.o x)[i - lo]? = some e := by
    rw [List.getElem?_take] at he
    split at he
    ·exact he
    cases he
   have hj : j < tsz P (Bs P dT) := by rw [<- helx _ e he']; exact (Ab.1 hy).1
   obtain ⟨u, p1, p2⟩ := n4 _ e j y he' hy
   have a1 := hmm i (lo + min (Dr st.o x).length m) (by omega)
   have a2 : lo * tsz P (Bs P dT) <= i * tsz P (Bs P dT) := A1 _ hin.1
   have a3 := hmm (i - lo) (min (Dr st.o x).length m) (by omega)
   rw [Be] at a1
   rw [if_pos ⟨by omega, by omega⟩]
   refine ⟨u, ?_, VC.T_weak (s.T p2) fun e => by simp only [Ah] at e; exact e.2⟩
   rw [Ag (by rw [Nat.sub_mul] at a3; omega), <- p1, Nat.sub_mul]
   congr 1
   omega
  rw [if_neg hin] at he
  have hj : j < tsz P (Bs P dT) := by rw [<- hel _ e he]; exact (Ab.1 hy).1
  have hil : i < es.length := (Ab.1 he).1
  have hout : ¬ (lo * tsz P (Bs P dT) <= i * tsz P (Bs P dT) + j /\ i * tsz P (Bs P dT) + j < lo * tsz P (Bs P dT) + min (Dr st.o x).length m * tsz P (Bs P dT)) := by
   rintro ⟨b1, b2⟩
   rw [<- Be] at b2
   rcases Nat.lt_or_ge i lo with hlo | hlo
   ·have := hmm i lo (by omega); omega
   have := hmm (lo + min (Dr st.o x).length m) (i + 1) (by omega)
   have := A1 (tsz P (Bs P dT)) (show lo + min (Dr st.o x).length m <= i by omega)
   omega
  rw [if_neg hout]
  obtain ⟨u, p1, p2⟩ := g5 i e j y he hy
  exact ⟨u, p1, VC.T_weak (s.T p2) fun e => by simp only [Ah] at e; exact e.1⟩
theorem Ap0 {E : Ent} {β : Nat -> Option Nat} {st : St} {a : Act} {w : World} (r : Rel E β st a w) {t sT ty : TypeId} {d x : AV} {ud ux : Value} (hd : Br (E.C β st w) d ud) (hx : Br (E.C β st w) x ux) (hc : (Qv P t d x st.o).c) :
 ∃ u w' id o, (Builtin.copy_ #[t, sT] ty #[ud, ux]).run P w = .ok u w' /\ (Qv P t d x st.o).up = [(id, o)] /\ Rel E β (st.set id o) a w' /\ Br (E.C β (st.set id o) w') (Qv P t d x st.o).v u := by
 cases hd with
 | own id n u h =>
  obtain ⟨u, w', o, h1⟩ := Ake r (ty := ty) (sT := sT) (ud := ud) rfl (fun ty k fr fz es ho hn hm => by
   rcases r.own_val ho h hn with ⟨_, he, A, rfl⟩ | ⟨b, cur, c, hb, _, _, _, _, rfl, _⟩
   ·subst he
    exact ⟨A, 0, by rw [hn]; rfl, .inl hn⟩
   exact ⟨_, c, by rw [hn], .inr ⟨b, hb, by rw [Nat.zero_mul]⟩⟩) hx (show (Lp P t id n 0 n x st.o).c from hc)
  exact ⟨u, w', id, o, h1⟩
 | sub id n lo m u h =>
  obtain ⟨u, w', o, h1⟩ := Ake r (ty := ty) (sT := sT) (ud := ud) rfl (fun ty k fr fz es ho hn hm => by
   obtain ⟨_, ty', k', fr', fz', es', ho', _, h5⟩ := h
   have ho' : st.o id = _ := ho'
   rw [ho] at ho'
   injection ho' with e1 e2 e3 e4 e5
   subst e1 e2 e3 e4 e5
   obtain ⟨_, A, c, rfl, hmc, _, h8⟩ := h5 hn
   exact ⟨A, c, rfl, h8.elim (fun e => .inl (by omega)) .inr⟩) hx (show (Lp P t id n lo m x st.o).c from hc)
  exact ⟨u, w', id, o, h1⟩
 | _ => simp [Qv, Eff.bad] at hc
theorem Zz {E : Ent} {β : Nat -> Option Nat} {st : St} {a : Act} {w : World} (r : Rel E β st a w) {id b lo : Nat} {ty k : Nat} {fr fr2 : Bool} {es ns : List (List T)} (ho : st.o id = .row ty k fr false es) (hb : β id = some b) {cur : Array Value} (hcur : w.heap[b]? = some (.cells cur ty (0, 0)))
 {news : List Value} (hlen : news.length = ns.length * k) (helx : ∀ (i : Nat) (e : List T), ns[i]? = some e -> e.length = k) (hn : ∀ (i : Nat) (e : List T) (j : Nat) (y : T), ns[i]? = some e -> e[j]? = some y -> ∃ u, news[i * k + j]? = some u /\ Do w.heap ((E.C β st w).S fr2) y u) (hle : lo + ns.length <= es.length) :
  lo * k + news.length <= cur.size /\ Rel E β (st.set id (.row ty k (fr && fr2) false (Hm es lo ns))) a (w.setRow b (cur.toList.take (lo * k) ++ news ++ cur.toList.drop (lo * k + news.length)).toArray) := by
 obtain ⟨hk, hel, hcell⟩ := r.row_cells ho
 rcases hcell with ⟨hb', _⟩ | ⟨b', cur', cc, hb', g1, g2, g3, g4, g5⟩
 ·rw [hb'] at hb; cases hb
 rw [hb'] at hb
 injection hb with hb
 subst hb
 rw [g1] at hcur
 injection hcur with hcur
 injection hcur with hcur
 subst hcur
 have hfit : lo * k + news.length <= cur'.size := by
  rw [hlen, g2, <- Be]
  exact A1 _ (by omega)
 refine ⟨hfit, ?_⟩
 refine r.change (id := id) (by rw [ho]; rfl) hb' g1 (setRow_heap w b' cur' _ _ (0, 0) g1) (Eh cur' _ _ hfit) (by simp) (fun b' hb' => setRow_other w _ b' _ hb') rfl rfl rfl
  (fun ty' cs' e => by rw [ho] at e; cases e) (fun ty' k' fr' fz' es' e => by
   rw [ho] at e
   injection e with e1 e2 e3 e4 e5
   subst e1 e2 e5
   exact ⟨_, _, _, rfl, by rw [Cv]; exact Aj _⟩) (fun C s hCβ hCh => ?_) (.inr trivial)
 refine ⟨⟨hk, fun i e he => ?_⟩, ?_⟩
 ·rw [Gq] at he
  split at he
  ·exact helx _ e he
  exact hel _ e he
 rw [hCβ]
 refine ⟨_, cc, hCh, by rw [Eh cur' _ _ hfit, g2], by rw [Cv]; exact g3, g4, fun i e j y he hy => ?_⟩
 rw [La cur' _ _ hfit, hlen]
 rw [Gq] at he
 have hmm : ∀ p q : Nat, p + 1 <= q -> p * k + k <= q * k := fun p q h => by
  have := A1 k h
  rw [Be] at this; omega
 by_cases hin : lo <= i /\ i < lo + ns.length /\ i < es.length
 ·rw [if_pos hin] at he
  have hj : j < k := by rw [<- helx _ e he]; exact (Ab.1 hy).1
  obtain ⟨u, p1, p2⟩ := hn _ e j y he hy
  have a1 := hmm i (lo + ns.length) (by omega)
  have a2 : lo * k <= i * k := A1 _ hin.1
  rw [Be] at a1
  rw [if_pos ⟨by omega, by omega⟩]
  refine ⟨u, ?_, VC.T_weak (s.T p2) fun e => by simp only [Ah] at e; exact e.2⟩
  rw [<- p1, Nat.sub_mul]
  congr 1
  omega
 rw [if_neg hin] at he
 have hj : j < k := by rw [<- hel _ e he]; exact (Ab.1 hy).1
 have hil : i < es.length := (Ab.1 he).1
 have hout : ¬ (lo * k <= i * k + j /\ i * k + j < lo * k + ns.length * k) := by
  rintro ⟨b1, b2⟩
  rw [<- Be] at b2
  rcases Nat.lt_or_ge i lo with hlo | hlo
  ·have := hmm i lo (by omega); omega
  have := A1 k (show lo + ns.length <= i by omega)
  omega
 rw [if_neg hout]
 obtain ⟨u, p1, p2⟩ := g5 i e j y he hy
 exact ⟨u, p1, VC.T_weak (s.T p2) fun e => by simp only [Ah] at e; exact e.1⟩
def Nb (P : Program) (t : TypeId) (id n lo m : Nat) (src : AV) (o : Nat -> Ob) : Eff :=
 match o id with
 | .row ty k fr fz es => ⟨.sub id n lo (m + (Dr o src).length), [(id, .row ty k (fr && Mt o src) false (Hm es (lo + m) (Dr o src)))],
  Ex P t = true /\ tok P (Bs P t) = true /\ Yj o (tsz P (Bs P t)) src /\ k = tsz P (Bs P t) /\ fz = false /\ n = es.length /\ lo + m + (Dr o src).length <= n⟩
 | _ => .bad
theorem Z8 {P : Program} (w : World) (t ty e : TypeId) (i : TypeInfo) (ht : P.underlying t = some (.slice e)) (hi : P.info? e = some i) (b off sLen sCap : Nat) (cur : Array Value) (bt : TypeId) (hb : w.heap[b]? = some (.cells cur bt (0, 0)))
 (a : Addr) (m c : Nat) (news : List Value) (hl : news.length = m * i.size) (hnews : ∀ (j : Nat) (u : Value), news[j]? = some u -> w.cell? (a.add j) = some u) (h1 : ∀ u ∈ news, u.oneCell' = true) (hroom : sLen + m <= sCap) (hfit : off + sLen * i.size + news.length <= cur.size) :
  (Builtin.append_ #[t, t] ty #[.slice (some ⟨b, off, none⟩) sLen sCap, .slice (some a) m c]).run P w = .ok (.slice (some ⟨b, off, none⟩) (sLen + m) sCap) (w.setRow b (cur.toList.take (off + sLen * i.size) ++ news ++ cur.toList.drop (off + sLen * i.size + news.length)).toArray) := by
 have hfc := run_firstCells_some (P := P) w i.size m a m c news hl hnews
 have hst := run_storeCells_at P b (off + sLen * i.size) bt news 0 cur w hb (by simpa using hfit) h1
 simp only [Nat.add_zero] at hst
 simp [Builtin.append_, run_underlying ht, sizeOf, typeInfo, hi, Builtin.lenOf, hroom, hfc, Addr.add_lit, hst]
theorem Ai9 {E : Ent} {β : Nat -> Option Nat} {st : St} {a : Act} {w : World} (r : Rel E β st a w) {t ty : TypeId} {id n lo m : Nat} {x : AV} {ud ux : Value} (hd : Br (E.C β st w) (.sub id n lo m) ud) (hx : Br (E.C β st w) x ux) (hc : (Nb P t id n lo m x st.o).c) :
 ∃ u w' o, (Builtin.append_ #[t, t] ty #[ud, ux]).run P w = .ok u w' /\ (Nb P t id n lo m x st.o).up = [(id, o)] /\ Rel E β (st.set id o) a w' /\ Br (E.C β (st.set id o) w') (Nb P t id n lo m x st.o).v u := by
 unfold Nb at hc ⊢
 cases ho : st.o id with
 | gone => rw [ho] at hc; exact hc.elim
 | box ty cs => rw [ho] at hc; exact hc.elim
 | row ty' k fr fz es =>
  rw [ho] at hc
  obtain ⟨h1, h2, h3, rfl, rfl, h6, h7⟩ := hc
  obtain ⟨i, hi, hsz⟩ : ∃ i, P.info? (Bs P t) = some i /\ i.size = tsz P (Bs P t) := by
   simp only [tok, Ah] at h2
   obtain ⟨i, hi⟩ := Option.isSome_iff_exists.1 h2.2
   exact ⟨i, hi, by simp [tsz, hi]⟩
  cases hd with
  | sub id n lo m u h =>
   have h' := h
   obtain ⟨q0, ty2, k', fr', fz', es', ho', q1, h5⟩ := h'
   have ho' : st.o id = _ := ho'
   rw [ho] at ho'
   injection ho' with e1 e2 e3 e4 e5
   subst e1 e2 e3 e4 e5
   obtain ⟨h8, A, c, rfl, hmc, hec, hA⟩ := h5 h6
   have hs := Ub r hx h3
   obtain ⟨hk, hel, hcell⟩ := r.row_cells ho
   by_cases he : Dr st.o x = []
   ·obtain ⟨A', c', rfl, _⟩ := hs
    obtain ⟨q1, q2⟩ := r.flag ho (fr' := fr && Mt st.o x) (fz' := false) (fun e => by simp only [Ah] at e; exact .inl e.1) fun e => rfl
    simp only [he, Hm, List.length_nil, Nat.add_zero]
    exact ⟨_, _, _, Mm w t ty _ i (Cy h1) hi A m c hmc A' c', rfl, q1, (Br.sub id n lo m _ h).step q2⟩
   have hpos : 0 < (Dr st.o x).length := List.length_pos_iff.2 he
   obtain ⟨xb, xo, xc, news, rfl, n1, n2, n3, n4⟩ := hs.news hk w rfl he
   obtain ⟨_, _, _, _, helx, _⟩ := hs
   rcases hA with hA | ⟨b, hb, rfl⟩
   ·omega
   have hb : β id = some b := hb
   rcases hcell with ⟨hb', _⟩ | ⟨b', cur, cc, hb', g1, g2, g3, g4, g5⟩
   ·rw [hb'] at hb; cases hb
   rw [hb'] at hb
   injection hb with hb
   subst hb
   obtain ⟨hfit, hrel⟩ := Zz r (lo := lo + m) (fr2 := Mt st.o x) (ns := Dr st.o x) ho hb' g1 n1 helx n4 (by omega)
   have hrun := Z8 (P := P) w t ty _ i (Cy h1) hi b' (lo * tsz P (Bs P t)) m c cur ty' g1 ⟨xb, xo, none⟩ _ xc news (by rw [hsz]; exact n1) n2 n3 (by omega) (by rw [hsz, <- Be]; exact hfit)
   rw [hsz, <- Be] at hrun
   refine ⟨_, _, _, hrun, rfl, hrel, ?_⟩
   refine .sub _ _ _ _ _ ⟨rfl, ty', _, _, false, _, by show (st.set _ _).o _ = _; rw [St.set_o, if_pos rfl], by rw [Cv]; omega, fun e => ⟨by rw [Cv]; omega, _, _, rfl, by omega, by rw [Cv]; exact hec, .inr ⟨b', hb', rfl⟩⟩⟩
def V8 (P : Program) (t : TypeId) (dst src : AV) (o : Nat -> Ob) (nid : Nat) : Eff :=
 match dst with
 | .sub id n lo m => Nb P t id n lo m src o
 | v => J9 P t v src o nid
theorem Aq8 {E : Ent} {β : Nat -> Option Nat} {st : St} {a : Act} {w : World} (r : Rel E β st a w) {nid : Nat} {t ty : TypeId} {d x : AV} (hn : (∃ k, d = .nil k) -> st.o nid = .gone) {ud ux : Value} (hd : Br (E.C β st w) d ud) (hx : Br (E.C β st w) x ux) (hc : (V8 P t d x st.o nid).c) :
 ∃ u w' β' id o, (Builtin.append_ #[t, t] ty #[ud, ux]).run P w = .ok u w' /\ (V8 P t d x st.o nid).up = [(id, o)] /\ Rel E β' (st.set id o) a w' /\ Br (E.C β' (st.set id o) w') (V8 P t d x st.o nid).v u := by
 unfold V8 at hc ⊢
 split at hc
 ·rename_i id n lo m
  obtain ⟨u, w', o, h1, h2, h3, h4⟩ := Ai9 (ty := ty) r hd hx hc
  exact ⟨u, w', β, id, o, h1, h2, h3, h4⟩
 exact Aln r hn hd hx hc
def Iy (P : Program) (t : TypeId) (id n lo m : Nat) (o : Nat -> Ob) : Eff :=
 match o id with
 | .row ty k fr fz es => ⟨.tup [], [(id, .row ty k fr false (Hm es lo (List.replicate m ((El P (Bs P t)).map AV.toT))))],
  Ex P t = true /\ zok P (Bs P t) = true /\ k = tsz P (Bs P t) /\ fz = false /\ n = es.length /\ lo + m <= n⟩
 | _ => .bad
def Mh (P : Program) (t : TypeId) (x : AV) (o : Nat -> Ob) : Eff :=
 match x with
 | .own id n => Iy P t id n 0 n o
 | .sub id n lo m => Iy P t id n lo m o
 | _ => .bad
theorem Ah0 {t : TypeId} {i : TypeInfo} {z : Value} (hi : P.info? t = some i) (hz : i.zero = some z) {j : Nat} {q : AV} (hq : (El P t)[j]? = some q) (hj2 : j < z.cells.size) : q.fresh = true := by
 have : q = Ul z.cells[j] ((Qj P 10 t).getD j 0) := by
  have e : J4 P t = z.cells.toList := by simp [J4, hi, hz]
  simp only [El, e, List.getElem?_zipWith] at hq
  have hu' : z.cells.toList[j]? = some z.cells[j] := by simp
  rw [hu'] at hq
  cases hk : (Qj P 10 t)[j]? with
  | none => rw [hk] at hq; simp at hq
  | some k => rw [hk] at hq; simp at hq; rw [Ad, hk]; exact hq.symm
 rw [this]
 unfold Ul
 split <;> rfl
theorem Ahi {E : Ent} {β : Nat -> Option Nat} {st : St} {a : Act} {w : World} (r : Rel E β st a w) {t ty : TypeId} {id n lo m : Nat} {ud : Value} (hd : ∀ ty k fr fz es, st.o id = .row ty k fr fz es -> n = es.length -> lo + m <= n -> ∃ A c, ud = .slice A m c /\ (m = 0 \/ ∃ b, β id = some b /\ A = some ⟨b, lo * k, none⟩)) (hc : (Iy P t id n lo m st.o).c) :
 ∃ u w' o, (Builtin.clear_ #[t] ty #[ud]).run P w = .ok u w' /\ (Iy P t id n lo m st.o).up = [(id, o)] /\ Rel E β (st.set id o) a w' /\ Br (E.C β (st.set id o) w') (Iy P t id n lo m st.o).v u := by
 unfold Iy at hc ⊢
 cases ho : st.o id with
 | gone => rw [ho] at hc; exact hc.elim
 | box ty cs => rw [ho] at hc; exact hc.elim
 | row ty' k fr fz es =>
  rw [ho] at hc
  obtain ⟨h1, h2, rfl, rfl, h6, h7⟩ := hc
  obtain ⟨A, c, rfl, hA⟩ := hd _ _ _ _ _ ho h6 h7
  obtain ⟨hk, hel, hcell⟩ := r.row_cells ho
  obtain ⟨i, z, hi, hz, hsz, hzs, htl, hzc⟩ := Mr h2
  have htup : ∀ C : VC, Br C (.tup []) (.tuple #[]) := fun C => .tup [] #[] rfl fun i c u h => by simp at h
  rcases hA with hm | ⟨b, hb, rfl⟩
  ·subst hm
   obtain ⟨q1, q2⟩ := r.flag ho (fr' := fr) (fz' := false) (fun e => .inl e) fun e => rfl
   simp only [List.replicate_zero, Hm]
   refine ⟨_, _, _, ?_, rfl, q1, htup _⟩
   cases A <;> simp [Builtin.clear_, run_underlying (Cy h1)]
  by_cases hm : m = 0
  ·subst hm
   obtain ⟨q1, q2⟩ := r.flag ho (fr' := fr) (fz' := false) (fun e => .inl e) fun e => rfl
   simp only [List.replicate_zero, Hm]
   refine ⟨_, _, _, ?_, rfl, q1, htup _⟩
   simp [Builtin.clear_, run_underlying (Cy h1)]
  rcases hcell with ⟨hb', _⟩ | ⟨b', cur, cc, hb', g1, g2, g3, g4, g5⟩
  ·rw [hb'] at hb; cases hb
  rw [hb'] at hb
  injection hb with hb
  subst hb
  have hzl : (Builtin.zeroCells z.cells m).toList.length = m * tsz P (Bs P t) := by simp [Builtin.zeroCells, hzs]
  have hns : (List.replicate m ((El P (Bs P t)).map AV.toT)).length = m := List.length_replicate
  obtain ⟨hfit, hrel⟩ := Zz r (lo := lo) (fr2 := true) (ns := List.replicate m ((El P (Bs P t)).map AV.toT)) (news := (Builtin.zeroCells z.cells m).toList) ho hb' g1 (by rw [hns]; exact hzl)
   (fun i e he => by rw [List.getElem?_replicate] at he; split at he <;> simp at he; rw [<- he, A2, htl]) (fun i' e j x he hx => by
    rw [List.getElem?_replicate] at he
    split at he
    ·rename_i hlt
     simp at he
     subst he
     rw [Ap] at hx
     cases hq : (El P (Bs P t))[j]? with
     | none => rw [hq] at hx; cases hx
     | some q =>
      rw [hq] at hx
      simp only [Ai, Option.some.injEq] at hx
      subst hx
      have hj : j < tsz P (Bs P t) := by rw [<- htl]; exact (Ab.1 hq).1
      have hj2 : j < z.cells.size := by omega
      obtain ⟨k1, k2, k3⟩ := hzc j q z.cells[j] hq (Al hj2)
      refine ⟨z.cells[j], ?_, (k1 (E.C β st w)).toT k3 fun _ => Ah0 hi hz hq hj2⟩
      have hlt2 : i' * tsz P (Bs P t) + j < m * z.cells.size := by
       rw [hzs]
       have := A1 (tsz P (Bs P t)) (show i' + 1 <= m by omega)
       rw [Be] at this; omega
      have hmod : (i' * tsz P (Bs P t) + j) % z.cells.size = j := by rw [hzs, Nat.mul_comm, Nat.mul_add_mod, Nat.mod_eq_of_lt hj]
      simp only [Builtin.zeroCells]
      rw [Array.getElem?_toList, Array.getElem?_map, Array.getElem?_range, if_pos hlt2]
      simp only [Ai, hmod]
      rw [getElem!_pos z.cells j hj2]
    cases he) (by rw [hns]; omega)
  rw [Bool.and_true] at hrel
  have hone : ∀ v ∈ (Builtin.zeroCells z.cells m).toList, v.oneCell' = true := fun v hv => by
   simp only [Builtin.zeroCells, Array.toList_map, A4] at hv
   obtain ⟨j, hj, rfl⟩ := hv
   have hj : j < m * z.cells.size := by simpa using hj
   have hzp : 0 < z.cells.size := by
    rcases Nat.eq_zero_or_pos z.cells.size with e | e
    ·rw [e] at hj; omega
    exact e
   have hj2 : j % z.cells.size < z.cells.size := Nat.mod_lt _ hzp
   rw [getElem!_pos z.cells _ hj2]
   have hq := Aa (l := El P (Bs P t)) (i := j % z.cells.size) (by omega)
   exact (hzc _ _ _ hq (Al hj2)).2.1
  have hst := run_storeCells_at P b' (lo * tsz P (Bs P t)) ty' (Builtin.zeroCells z.cells m).toList 0 cur w g1 (by simpa using hfit) hone
  simp only [Nat.add_zero] at hst
  obtain ⟨m', rfl⟩ : ∃ m', m = m' + 1 := ⟨m - 1, by omega⟩
  refine ⟨_, _, _, ?_, rfl, hrel, htup _⟩
  simp [Builtin.clear_, run_underlying (Cy h1), zeroValue, typeInfo, hi, hz, hst]
theorem Aoa {E : Ent} {β : Nat -> Option Nat} {st : St} {a : Act} {w : World} (r : Rel E β st a w) {t ty : TypeId} {d : AV} {ud : Value} (hd : Br (E.C β st w) d ud) (hc : (Mh P t d st.o).c) :
 ∃ u w' id o, (Builtin.clear_ #[t] ty #[ud]).run P w = .ok u w' /\ (Mh P t d st.o).up = [(id, o)] /\ Rel E β (st.set id o) a w' /\ Br (E.C β (st.set id o) w') (Mh P t d st.o).v u := by
 cases hd with
 | own id n u h =>
  obtain ⟨u, w', o, h1⟩ := Ahi (P := P) (t := t) (ty := ty) r (ud := ud) (fun ty k fr fz es ho hn hm => by
   rcases r.own_val ho h hn with ⟨_, he, A, rfl⟩ | ⟨b, cur, c, hb, _, _, _, _, rfl, _⟩
   ·subst he
    exact ⟨A, 0, by rw [hn]; rfl, .inl hn⟩
   exact ⟨_, c, by rw [hn], .inr ⟨b, hb, by rw [Nat.zero_mul]⟩⟩) (show (Iy P t id n 0 n st.o).c from hc)
  exact ⟨u, w', id, o, h1⟩
 | sub id n lo m u h =>
  obtain ⟨u, w', o, h1⟩ := Ahi (P := P) (t := t) (ty := ty) r (ud := ud) (fun ty k fr fz es ho hn hm => by
   obtain ⟨_, ty', k', fr', fz', es', ho', _, h5⟩ := h
   have ho' : st.o id = _ := ho'
   rw [ho] at ho'
   injection ho' with e1 e2 e3 e4 e5
   subst e1 e2 e3 e4 e5
   obtain ⟨_, A, c, rfl, hmc, _, h8⟩ := h5 hn
   exact ⟨A, c, rfl, h8.elim (fun e => .inl (by omega)) .inr⟩) (show (Iy P t id n lo m st.o).c from hc)
  exact ⟨u, w', id, o, h1⟩
 | _ => simp [Mh, Eff.bad] at hc
end
end Go.Proofs.YtkkimgjinbaemaaGreat
