/- The walk. -/
import Derived.Test.YtkkimgjinbaemaaGreatKad
namespace Go.Proofs.YtkkimgjinbaemaaGreat
open Go.RowKit
set_option linter.unusedVariables false
set_option linter.unusedSimpArgs false
set_option maxRecDepth 100000
set_option maxHeartbeats 4000000
section
variable {P : Program}
theorem Nh (t : TypeId) : P.elem t = Bs P t := rfl
def tpl (P : Program) (t : TypeId) : List (Nat × Nat) := match P.underlying t with
 | some (.struct fs) => fs.toList.map fun f => (f.offset, tsz P f.type)
 | some (.array n e) => (List.range n).map fun i => (i * tsz P e, tsz P e)
 | _ => []
def N7 (P : Program) (t : TypeId) : Bool := match P.underlying t with
 | some (.struct fs) => fs.all fun f => tok P f.type
 | _ => false
def Aie (P : Program) (t : TypeId) : Option Nat := match P.underlying t with
 | some (.array n _) => some n
 | _ => none
theorem Xb {t : TypeId} (h : N7 P t = true) : ∃ fs, P.underlying t = some (.struct fs) /\ (∀ f ∈ fs, tok P f.type = true) /\ tpl P t = fs.toList.map fun f => (f.offset, tsz P f.type) := by
 unfold N7 at h
 split at h
 ·rename_i fs he
  exact ⟨fs, he, fun f hf => by simpa using (Array.all_eq_true'.1 h) f hf, by simp [tpl, he]⟩
 cases h
def Mg (P : Program) (s : TypeId) (x : AV) (f : Nat) (o : Nat -> Ob) : Eff :=
 let c := N7 P s = true /\ f < (tpl P s).length /\ ((tpl P s).getD f (0, 0)).2 ≠ 0
 let d := ((tpl P s).getD f (0, 0)).1
 match x with
 | .ptr id off => ⟨.ptr id (off + d), [], c⟩
 | .rptr id n i off => ⟨.rptr id n i (off + d), [], n = (Ik (o id)).length /\ c⟩
 | .iptr fr cs off => ⟨.iptr fr cs (off + d), [], c⟩
 | _ => .bad
theorem An3 {C : VC} {w : World} {s : TypeId} {x : AV} {f : Nat} {u : Value} (hx : Br C x u) (hc : (Mg P s x f C.ob).c) :
 ∃ v, (Instr.fieldAt s u f).run P w = .ok v w /\ Br C (Mg P s x f C.ob).v v /\ (Mg P s x f C.ob).up = [] := by
 have hrun : ∀ b off, (N7 P s = true /\ f < (tpl P s).length /\ ((tpl P s).getD f (0, 0)).2 ≠ 0) -> (Instr.fieldAt s (.pointer (some ⟨b, off, none⟩)) f).run P w = .ok (.pointer (some ⟨b, off + ((tpl P s).getD f (0, 0)).1, none⟩)) w := by
  rintro b off ⟨h1, h2, h3⟩
  obtain ⟨fs, hu, hk, hp⟩ := Xb h1
  rw [hp] at h2 h3 ⊢
  rw [A2] at h2
  have hf : fs[f]? = some fs[f] := by simp
  have hg : ((fs.toList.map fun f => (f.offset, tsz P f.type)).getD f (0, 0)) = (fs[f].offset, tsz P fs[f].type) := by
   rw [Ad, Ap]; simp [hf]
  rw [hg] at h3 ⊢
  simp only [Instr.fieldAt, Sem.run_bind, run_underlying hu, Result.andThen_ok, hf, Instr.sureAddr, Sem.run_pure, fieldPlace, Jc (hk _ (Array.getElem_mem _)), h3, if_false, Addr.add_lit]
 cases hx with
 | ptr id off u h =>
  obtain ⟨ty, cs, b, ho, hb, rfl⟩ := h
  exact ⟨_, hrun b off hc, .ptr _ _ _ ⟨ty, cs, b, ho, hb, rfl⟩, rfl⟩
 | rptr id n i off u h =>
  obtain ⟨h0, ty, k, fr, fz, es, ho, hn, hu⟩ := h
  obtain ⟨e, hc⟩ := hc
  rw [ho] at e
  obtain ⟨b, hb, rfl⟩ := hu e
  exact ⟨_, hrun b _ hc, .rptr _ _ _ _ _ ⟨rfl, ty, k, fr, fz, es, ho, hn, fun _ => ⟨b, hb, by rw [Af]⟩⟩, rfl⟩
 | iptr fr cs off b o cur ty fz us h1 h2 h3 =>
  refine ⟨_, hrun b _ hc, ?_, rfl⟩
  have := Br.iptr (C := C) fr cs (off + ((tpl P s).getD f (0, 0)).1) b o cur ty fz us h1 h2 h3
  rw [<- Af] at this
  exact this
 | _ => simp [Mg, Eff.bad] at hc
def Mf (P : Program) (t : TypeId) (x ix : AV) (o : Nat -> Ob) : Eff :=
 let i := (C3 ix).toNat
 match x with
 | .imm fr k es => ⟨.iptr fr (es.getD i []) 0, [], Kw ix = true /\ Ex P t = true /\ tok P (Bs P t) = true /\ k = tsz P (Bs P t) /\ 0 <= C3 ix /\ C3 ix < es.length⟩
 | .own id n => ⟨.rptr id n i 0, [], Kw ix = true /\ Ex P t = true /\ tok P (Bs P t) = true /\ Db (o id) = true /\ O2 (o id) = tsz P (Bs P t) /\ n = (Ik (o id)).length /\ 0 <= C3 ix /\ C3 ix < n⟩
 | .sub id n lo m => ⟨.rptr id n (lo + i) 0, [], Kw ix = true /\ Ex P t = true /\ tok P (Bs P t) = true /\ Db (o id) = true /\ O2 (o id) = tsz P (Bs P t) /\ n = (Ik (o id)).length /\ 0 <= C3 ix /\ C3 ix < m⟩
 | .bsl id n => ⟨.ptr id (i * tsz P (Bs P t)), [], Kw ix = true /\ Ex P t = true /\ tok P (Bs P t) = true /\ 0 <= C3 ix /\ C3 ix < n⟩
 | .ptr id off => ⟨.ptr id (off + i * tsz P (Bs P t)), [], Kw ix = true /\ tok P (Bs P t) = true /\ 0 <= C3 ix /\ ∃ m, Aie P t = some m /\ C3 ix < m⟩
 | .iptr fr cs off => ⟨.iptr fr cs (off + i * tsz P (Bs P t)), [], Kw ix = true /\ tok P (Bs P t) = true /\ 0 <= C3 ix /\ ∃ m, Aie P t = some m /\ C3 ix < m⟩
 | _ => .bad
theorem Mv {w : World} {t : TypeId} (h1 : Ex P t = true) (h2 : tok P (Bs P t) = true) {b off n c : Nat} {k : IntKind} {i : Int} (h3 : 0 <= i) (h4 : i < n) :
 (Instr.indexAt t (.slice (some ⟨b, off, none⟩) n c) (.int k i)).run P w = .ok (.pointer (some ⟨b, off + i.toNat * tsz P (Bs P t), none⟩)) w := by
 rw [run_indexAt_slice w t _ n c k i (Cy h1), if_pos ⟨h3, h4⟩, Nh, Jc h2, Result.andThen_ok, Addr.add_lit]
theorem Zx {t : TypeId} {m : Nat} (h : Aie P t = some m) : P.underlying t = some (.array m (Bs P t)) := by
 unfold Aie at h
 unfold Bs
 split at h
 ·rename_i n e he
  injection h with h
  subst h
  rw [he]
 cases h
theorem Tn {w : World} {t : TypeId} {m : Nat} (h1 : Aie P t = some m) (h2 : tok P (Bs P t) = true) {b off : Nat} {k : IntKind} {i : Int} (h3 : 0 <= i) (h4 : i < m) :
 (Instr.indexAt t (.pointer (some ⟨b, off, none⟩)) (.int k i)).run P w = .ok (.pointer (some ⟨b, off + i.toNat * tsz P (Bs P t), none⟩)) w := by
 have hl : P.arrayLen t = m := by simp [Program.arrayLen, Zx h1]
 rw [run_indexAt_array w t _ k i (by rw [hl, Nh]; exact Zx h1), hl, if_pos ⟨h3, h4⟩, Nh, Jc h2, Result.andThen_ok, Addr.add_lit]
theorem Anv {E : Ent} {β : Nat -> Option Nat} {st : St} {a : Act} {w : World} (r : Rel E β st a w) {t : TypeId} {x ix : AV} {u ui : Value} (hx : Br (E.C β st w) x u) (hi : Br (E.C β st w) ix ui) (hc : (Mf P t x ix st.o).c) :
 ∃ v, (Instr.indexAt t u ui).run P w = .ok v w /\ Br (E.C β st w) (Mf P t x ix st.o).v v /\ (Mf P t x ix st.o).up = [] := by
 cases hx with
 | imm fr k es u h =>
  obtain ⟨c1, c2, c3, c4, c5, c6⟩ := hc
  obtain ⟨kk, rfl⟩ := Fg c1 hi
  cases h with
  | nil k A c => simp at c6; omega
  | sl k es b off c cur ty fz us h1 h2 h3 h4 h5 h6 =>
   refine ⟨_, Mv c2 c3 c5 c6, ?_, rfl⟩
   have he : es[(C3 ix).toNat]? = some (es.getD (C3 ix).toNat []) := by rw [Ad, Aa (by omega)]; rfl
   have := Br.iptr (C := E.C β st w) fr (es.getD (C3 ix).toNat []) 0 b (off + (C3 ix).toNat * k) cur ty fz (us (C3 ix).toNat) h1 h2 fun j x hx => ⟨h5 _ _ j x he hx, h6 _ _ j x he hx⟩
   rw [Nat.add_zero] at this
   rw [<- c4]
   exact this
 | own id n u h =>
  obtain ⟨c1, c2, c3, c4, c5, c6, c7, c8⟩ := hc
  obtain ⟨kk, rfl⟩ := Fg c1 hi
  obtain ⟨ty, fz, ho⟩ := Hl c4
  rcases r.own_val ho h c6 with ⟨_, he, _⟩ | ⟨b, cur, c, hb, g1, g2, g3, g4, rfl, g5⟩
  ·rw [he] at c6; simp at c6; omega
  refine ⟨_, Mv c2 c3 c7 (by rw [<- c6]; exact c8), ?_, rfl⟩
  refine .rptr _ _ _ _ _ ⟨rfl, ty, _, _, fz, _, ho, by omega, fun _ => ⟨b, hb, ?_⟩⟩
  rw [Bm, Nat.add_zero, c5]
 | sub id n lo m u h =>
  obtain ⟨c1, c2, c3, c4, c5, c6, c7, c8⟩ := hc
  obtain ⟨kk, rfl⟩ := Fg c1 hi
  obtain ⟨ty, fz, ho⟩ := Hl c4
  obtain ⟨_, ty', k', fr', fz', es', ho', _, h5⟩ := h
  have ho' : st.o id = _ := ho'
  rw [ho] at ho'
  injection ho' with e1 e2 e3 e4 e5
  subst e1 e2 e3 e4 e5
  obtain ⟨h6, A, c, rfl, h7, _, h8⟩ := h5 c6
  rcases h8 with h8 | ⟨b, hb, rfl⟩
  ·omega
  refine ⟨_, Mv c2 c3 c7 c8, ?_, rfl⟩
  refine .rptr _ _ _ _ _ ⟨rfl, ty, _, _, fz, _, ho, by omega, fun _ => ⟨b, hb, ?_⟩⟩
  rw [Nat.add_zero, c5, Be]
 | bsl id n u h =>
  obtain ⟨c1, c2, c3, c5, c6⟩ := hc
  obtain ⟨kk, rfl⟩ := Fg c1 hi
  obtain ⟨ty, cs, b, c, ho, hb, rfl, hle⟩ := h
  refine ⟨_, Mv c2 c3 c5 c6, ?_, rfl⟩
  exact .ptr _ _ _ ⟨ty, cs, b, ho, hb, by rw [Bm]⟩
 | ptr id off u h =>
  obtain ⟨c1, c3, c5, m, c4, c6⟩ := hc
  obtain ⟨kk, rfl⟩ := Fg c1 hi
  obtain ⟨ty, cs, b, ho, hb, rfl⟩ := h
  exact ⟨_, Tn c4 c3 c5 c6, .ptr _ _ _ ⟨ty, cs, b, ho, hb, rfl⟩, rfl⟩
 | iptr fr cs off b o cur ty fz us h1 h2 h3 =>
  obtain ⟨c1, c3, c5, m, c4, c6⟩ := hc
  obtain ⟨kk, rfl⟩ := Fg c1 hi
  refine ⟨_, Tn c4 c3 c5 c6, ?_, rfl⟩
  have := Br.iptr (C := E.C β st w) fr cs (off + (C3 ix).toNat * tsz P (Bs P t)) b o cur ty fz us h1 h2 h3
  rw [<- Af] at this
  exact this
 | _ => simp [Mf, Eff.bad] at hc
def No : Option AV -> Int
 | some v => C3 v
 | none => 0
def O6 (n : Nat) : Option AV -> Int
 | some v => C3 v
 | none => n
def Fi (P : Program) (t : TypeId) (x : AV) (lo hi : Option AV) (o : Nat -> Ob) : Eff :=
 let ok := (∀ v, lo = some v -> Kw v = true) /\ (∀ v, hi = some v -> Kw v = true) /\ Ex P t = true /\ tok P (Bs P t) = true
 match x with
 | .nil k => ⟨.nil k, [], ok /\ No lo = 0 /\ O6 0 hi = 0⟩
 | .imm fr k es => ⟨.imm fr k ((es.take (O6 es.length hi).toNat).drop (No lo).toNat), [], ok /\ k = tsz P (Bs P t) /\ 0 <= No lo /\ No lo <= O6 es.length hi /\ O6 es.length hi <= es.length⟩
 | .own id n => ⟨.sub id n (No lo).toNat ((O6 n hi).toNat - (No lo).toNat), [], ok /\ Db (o id) = true /\ O2 (o id) = tsz P (Bs P t) /\ n = (Ik (o id)).length /\ 0 <= No lo /\ No lo <= O6 n hi /\ O6 n hi <= n⟩
 | .sub id n a m => ⟨.sub id n (a + (No lo).toNat) ((O6 m hi).toNat - (No lo).toNat), [], ok /\ Db (o id) = true /\ O2 (o id) = tsz P (Bs P t) /\ n = (Ik (o id)).length /\ 0 <= No lo /\ No lo <= O6 m hi /\ O6 m hi <= m⟩
 | _ => .bad
theorem Hg {w : World} {t : TypeId} (h1 : Ex P t = true) (h2 : tok P (Bs P t) = true) {A : Option Addr} {n c : Nat} (hnc : n <= c) {lo hi : Option AV} {C : VC} {ulo uhi : Option Value}
 (hlo : ∀ v, lo = some v -> Kw v = true /\ ∃ u, ulo = some u /\ Br C v u) (hlo' : lo = none -> ulo = none) (hhi : ∀ v, hi = some v -> Kw v = true /\ ∃ u, uhi = some u /\ Br C v u) (hhi' : hi = none -> uhi = none)
  (h3 : 0 <= No lo) (h4 : (No lo) <= (O6 n hi)) (h5 : (O6 n hi) <= n) :
  (Instr.sliceAt t (.slice A n c) ulo uhi none).run P w = .ok (sliced A (No lo).toNat (O6 n hi).toNat c (tsz P (Bs P t))) w := by
 have ht := Cy h1
 rw [run_sliceAt_slice w t _ _ _ _ ht]
 cases lo with
 | none =>
  have := hlo' rfl
  subst this
  cases hi with
  | none =>
   have := hhi' rfl
   subst this
   rw [run_slice_all w t A n c ht, Nh, Jc h2]; rfl
  | some v =>
   obtain ⟨e1, u, rfl, e2⟩ := hhi v rfl
   obtain ⟨k, rfl⟩ := Fg e1 e2
   simp only [No, O6] at h3 h4 h5 ⊢
   rw [run_slice_h w t A n c ht k _ (by omega) (by omega), Nh, Jc h2]; rfl
 | some v =>
  obtain ⟨e1, u, rfl, e2⟩ := hlo v rfl
  obtain ⟨k, rfl⟩ := Fg e1 e2
  cases hi with
  | none =>
   have := hhi' rfl
   subst this
   simp only [No, O6] at h3 h4 h5 ⊢
   rw [run_slice_l w t A n c ht k _ h3 (by omega), Nh, Jc h2]; rfl
  | some v2 =>
   obtain ⟨e3, u, rfl, e4⟩ := hhi v2 rfl
   obtain ⟨k2, rfl⟩ := Fg e3 e4
   simp only [No, O6] at h3 h4 h5 ⊢
   rw [run_slice_lh w t A n c ht k k2 _ _ h3 (by omega) (by omega), Nh, Jc h2]; rfl
theorem Amk {E : Ent} {β : Nat -> Option Nat} {st : St} {a : Act} {w : World} (r : Rel E β st a w) {t : TypeId} {x : AV} {u : Value} {lo hi : Option AV} {ulo uhi : Option Value} (hx : Br (E.C β st w) x u)
 (hlo : ∀ v, lo = some v -> ∃ u, ulo = some u /\ Br (E.C β st w) v u) (hlo' : lo = none -> ulo = none) (hhi : ∀ v, hi = some v -> ∃ u, uhi = some u /\ Br (E.C β st w) v u) (hhi' : hi = none -> uhi = none) (hc : (Fi P t x lo hi st.o).c) :
  ∃ v, (Instr.sliceAt t u ulo uhi none).run P w = .ok v w /\ Br (E.C β st w) (Fi P t x lo hi st.o).v v /\ (Fi P t x lo hi st.o).up = [] := by
 cases hx with
 | nil k A =>
  obtain ⟨⟨c1, c2, c3, c4⟩, c5, c6⟩ := hc
  refine ⟨_, Hg c3 c4 (Aj 0) (fun v e => ⟨c1 v e, hlo v e⟩) hlo' (fun v e => ⟨c2 v e, hhi v e⟩) hhi' (by omega) (by omega) (by omega), ?_, rfl⟩
  rw [c5, c6]
  exact .nil _ _
 | imm fr k es u h =>
  obtain ⟨⟨c1, c2, c3, c4⟩, rfl, c5, c6, c7⟩ := hc
  cases h with
  | nil k A c =>
   have a1 := c7
   simp only [List.length_nil] at c5 c6 c7
   refine ⟨_, Hg c3 c4 (Ae c) (fun v e => ⟨c1 v e, hlo v e⟩) hlo' (fun v e => ⟨c2 v e, hhi v e⟩) hhi' c5 c6 c7, ?_, rfl⟩
   simp only [Fi, List.take_nil, List.drop_nil, sliced]
   refine .imm _ _ _ _ ?_
   have e0 : (O6 0 hi).toNat - (No lo).toNat = 0 := by omega
   rw [e0]
   exact .nil _ _ _
  | sl k es b off c cur ty fz us h1 h2 h3 h4 h5 h6 =>
   refine ⟨_, Hg c3 c4 h3 (fun v e => ⟨c1 v e, hlo v e⟩) hlo' (fun v e => ⟨c2 v e, hhi v e⟩) hhi' c5 c6 c7, ?_, rfl⟩
   simp only [Fi]
   generalize hL : No lo = L at c5 c6 c7 ⊢
   generalize hH : O6 es.length hi = H at c5 c6 c7 ⊢
   refine .imm _ _ _ _ ?_
   have hlen : ((es.take H.toNat).drop L.toNat).length = H.toNat - L.toNat := by rw [Bc, A5]; omega
   have hget : ∀ (i : Nat) (e : List T), ((es.take H.toNat).drop L.toNat)[i]? = some e -> es[L.toNat + i]? = some e := fun i e he => by
    have hi : i < H.toNat - L.toNat := by rw [<- hlen]; exact (Ab.1 he).1
    rw [Bd, Ag (by omega)] at he
    exact he
   unfold sliced
   rw [<- hlen]
   by_cases hcl : c = L.toNat
   ·have : (es.take H.toNat).drop L.toNat = [] := List.eq_nil_of_length_eq_zero (by omega)
    rw [this]
    exact .nil _ _ _
   rw [if_neg hcl]
   simp only [Ai, Addr.add_lit]
   refine .sl _ _ b _ _ cur ty fz (fun i j => us (L.toNat + i) j) h1 h2 (by omega) (fun i e he => h4 _ e (hget i e he)) (fun i e j x he hx => ?_) (fun i e j x he hx => h6 _ e j x (hget i e he) hx)
   rw [<- h5 _ e j x (hget i e he) hx]
   congr 1
   rw [Be]
   omega
 | own id n u h =>
  obtain ⟨⟨c1, c2, c3, c4⟩, c8, c9, c10, c5, c6, c7⟩ := hc
  obtain ⟨ty, fz, ho⟩ := Hl c8
  have hval : ∃ A c, u = .slice A n c /\ n <= c /\ (c = 0 \/ ∃ b, β id = some b /\ A = some ⟨b, 0, none⟩) := by
   rcases r.own_val ho h c10 with ⟨_, e, A, rfl⟩ | ⟨b, cur, c, hb, _, _, g3, _, rfl, _⟩
   ·rw [e] at c10
    exact ⟨A, 0, by rw [c10]; rfl, by rw [c10]; exact Aj _, .inl rfl⟩
   exact ⟨_, c, by rw [<- c10], by omega, .inr ⟨b, hb, rfl⟩⟩
  obtain ⟨A, c, rfl, hnc, hA⟩ := hval
  refine ⟨_, Hg c3 c4 hnc (fun v e => ⟨c1 v e, hlo v e⟩) hlo' (fun v e => ⟨c2 v e, hhi v e⟩) hhi' c5 c6 c7, ?_, rfl⟩
  simp only [Fi]
  generalize hL : No lo = L at c5 c6 c7 ⊢
  generalize hH : O6 n hi = H at c5 c6 c7 ⊢
  unfold sliced
  refine .sub _ _ _ _ _ ⟨rfl, ty, _, _, fz, _, ho, by omega, fun _ => ⟨by omega, _, _, rfl, by omega, by omega, ?_⟩⟩
  by_cases h0 : c = L.toNat
  ·exact .inl (by omega)
  rcases hA with hA | ⟨b, hb, rfl⟩
  ·exact .inl (by omega)
  refine .inr ⟨b, hb, ?_⟩
  rw [if_neg h0]
  simp only [Ai, Addr.add_lit, Bm, c9]
 | sub id n lo' m u h =>
  obtain ⟨⟨c1, c2, c3, c4⟩, c8, c9, c10, c5, c6, c7⟩ := hc
  obtain ⟨ty, fz, ho⟩ := Hl c8
  obtain ⟨_, ty', k', fr', fz', es', ho', _, h5⟩ := h
  have ho' : st.o id = _ := ho'
  rw [ho] at ho'
  injection ho' with e1 e2 e3 e4 e5
  subst e1 e2 e3 e4 e5
  obtain ⟨h6, A, c, rfl, hnc, hes, hA⟩ := h5 c10
  refine ⟨_, Hg c3 c4 hnc (fun v e => ⟨c1 v e, hlo v e⟩) hlo' (fun v e => ⟨c2 v e, hhi v e⟩) hhi' c5 c6 c7, ?_, rfl⟩
  simp only [Fi]
  generalize hL : No lo = L at c5 c6 c7 ⊢
  generalize hH : O6 m hi = H at c5 c6 c7 ⊢
  unfold sliced
  refine .sub _ _ _ _ _ ⟨rfl, ty, _, _, fz, _, ho, by omega, fun _ => ⟨by omega, _, _, rfl, by omega, by omega, ?_⟩⟩
  by_cases h0 : c = L.toNat
  ·exact .inl (by omega)
  rcases hA with hA | ⟨b, hb, rfl⟩
  ·exact .inl (by omega)
  refine .inr ⟨b, hb, ?_⟩
  rw [if_neg h0]
  simp only [Ai, Addr.add_lit, c9, Be]
 | _ => simp [Fi, Eff.bad] at hc
end
section
variable {P : Program}
theorem Ada (off : Nat) : ∀ (vs : List Value) (n : Nat) (cs : Array Value) (p : Nat), off + n + vs.length <= cs.size -> ((vs.zipIdx n).foldl (fun (cs : Array Value) (x : Value × Nat) => cs.setIfInBounds (off + x.2) x.1) cs)[p]? = if off + n <= p /\ p < off + n + vs.length then vs[p - (off + n)]? else cs[p]?
 | [], n, cs, p, _ => by simp; omega
 | v :: vs, n, cs, p, h => by
  simp only [A6] at h
  rw [List.zipIdx_cons, List.foldl_cons, Ada off vs (n + 1) _ p (by simp; omega)]
  simp only [A6]
  by_cases h1 : off + (n + 1) <= p /\ p < off + (n + 1) + vs.length
  ·rw [if_pos h1, if_pos (by omega), show p - (off + n) = (p - (off + (n + 1))) + 1 by omega, Bb]
  rw [if_neg h1, Array.getElem?_setIfInBounds]
  by_cases h2 : off + n = p
  ·subst h2
   rw [if_pos rfl, if_pos (by omega), if_pos (by omega)]; simp
  rw [if_neg h2, if_neg (by omega)]
theorem Aas (off : Nat) : ∀ (vs : List Value) (n : Nat) (cs : Array Value), ((vs.zipIdx n).foldl (fun (cs : Array Value) (x : Value × Nat) => cs.setIfInBounds (off + x.2) x.1) cs).size = cs.size
 | [], n, cs => rfl
 | v :: vs, n, cs => by rw [List.zipIdx_cons, List.foldl_cons, Aas off vs]; simp
theorem Ahg (off : Nat) (v cs : Array Value) (h : off + v.size <= cs.size) : (v.zipIdx.foldl (fun (cs : Array Value) (x : Value × Nat) => cs.setIfInBounds (off + x.2) x.1) cs).size = cs.size /\
 ∀ p, (v.zipIdx.foldl (fun (cs : Array Value) (x : Value × Nat) => cs.setIfInBounds (off + x.2) x.1) cs)[p]? = if off <= p /\ p < off + v.size then v[p - off]? else cs[p]? := by
 have e : v.zipIdx.foldl (fun (cs : Array Value) (x : Value × Nat) => cs.setIfInBounds (off + x.2) x.1) cs = (v.toList.zipIdx 0).foldl (fun (cs : Array Value) (x : Value × Nat) => cs.setIfInBounds (off + x.2) x.1) cs := by
  rw [<- Array.foldl_toList]; simp
 rw [e]
 refine ⟨Aas off _ 0 cs, fun p => ?_⟩
 rw [Ada off v.toList 0 cs p (by simpa using h)]
 simp
def Xp (pl : List (Nat × Nat)) (cs : List AV) : List (Nat × AV) -> List AV
 | [] => cs
 | p :: ps => Xp pl (Hm cs (pl.getD p.1 (0, 0)).1 p.2.cl) ps
def Akd (pl : List (Nat × Nat)) (n : Nat) : List (Nat × AV) -> Prop
 | [] => True
 | p :: ps => (p.1 < pl.length /\ (pl.getD p.1 (0, 0)).2 = p.2.cl.length /\ (pl.getD p.1 (0, 0)).1 + p.2.cl.length <= n /\ ∀ c ∈ p.2.cl, c.one = true) /\ Akd pl n ps
theorem Vk (pl : List (Nat × Nat)) : ∀ (ps : List (Nat × AV)) (cs : List AV), (Xp pl cs ps).length = cs.length
 | [], _ => rfl
 | p :: ps, cs => by rw [Xp, Vk pl ps, Cv]
inductive Nq (C : VC) : List (Nat × AV) -> List (Nat × Value) -> Prop
  | nil : Nq C [] []
  | cons {i : Nat} {v : AV} {u : Value} {ps : List (Nat × AV)} {us : List (Nat × Value)} : Br C v u -> Nq C ps us -> Nq C ((i, v) :: ps) ((i, u) :: us)
theorem Aev {C : VC} {pl : List (Nat × Nat)} {place : Nat -> Option (Nat × Nat)} (hp : ∀ i, i < pl.length -> place i = some (pl.getD i (0, 0))) : ∀ {ps : List (Nat × AV)} {us : List (Nat × Value)} (hr : Nq C ps us) {cs : List AV} {cells : Array Value},
 cells.size = cs.length -> (∀ (j : Nat) (c : AV) (u : Value), cs[j]? = some c -> cells[j]? = some u -> Br C c u) -> Akd pl cs.length ps ->
  ∃ cells', Instr.fill place cells us = some cells' /\ cells'.size = cs.length /\ ∀ (j : Nat) (c : AV) (u : Value), (Xp pl cs ps)[j]? = some c -> cells'[j]? = some u -> Br C c u
 | _, _, .nil, cs, cells, hs, hc, _ => ⟨cells, rfl, hs, hc⟩
 | _, _, .cons (i := i) (v := v) (u := u) (ps := ps) (us := us) hv hr, cs, cells, hs, hc, ⟨⟨h1, h2, h3, h4⟩, h5⟩ => by
  have h1 : i < pl.length := h1
  have h2 : (pl.getD i (0, 0)).2 = v.cl.length := h2
  have h3 : (pl.getD i (0, 0)).1 + v.cl.length <= cs.length := h3
  have h4 : ∀ c ∈ v.cl, c.one = true := h4
  obtain ⟨e1, e2⟩ := hv.cells h4
  obtain ⟨g1, g2⟩ := Ahg (pl.getD i (0, 0)).1 u.cells cells (by omega)
  have hfill : Instr.fill place cells ((i, u) :: us) = Instr.fill place (u.cells.zipIdx.foldl (fun (cs : Array Value) (x : Value × Nat) => cs.setIfInBounds ((pl.getD i (0, 0)).1 + x.2) x.1) cells) us := by
   rw [Instr.fill, hp i h1]
   simp only []
   rw [if_neg]
   simp only [Bool.or_eq_true, bne_iff_ne, ne_eq, decide_eq_true_eq, not_or, Decidable.not_not]
   exact ⟨by omega, by omega⟩
  rw [hfill]
  obtain ⟨cells', q1, q2, q3⟩ := Aev hp hr (cs := Hm cs (pl.getD i (0, 0)).1 v.cl) (cells := u.cells.zipIdx.foldl (fun (cs : Array Value) (x : Value × Nat) => cs.setIfInBounds ((pl.getD i (0, 0)).1 + x.2) x.1) cells) (by rw [g1, Cv, hs]) (fun j c x hj hx => by
   rw [g2] at hx
   rw [Gq] at hj
   by_cases hin : (pl.getD i (0, 0)).1 <= j /\ j < (pl.getD i (0, 0)).1 + v.cl.length
   ·rw [if_pos (by omega)] at hj hx
    exact (e2 _ c x hj hx).1
   rw [if_neg (by omega)] at hj hx
   exact hc j c x hj hx) (by rw [Cv]; exact h5)
  exact ⟨cells', q1, by rw [q2, Cv], q3⟩
def V7 (P : Program) (t : TypeId) (ps : List (Nat × AV)) : Eff :=
 ⟨.agg (Xp (tpl P t) (El P t) ps), [], zok P t = true /\ (N7 P t = true \/ ((Aie P t).isSome = true /\ tok P (Bs P t) = true)) /\ Akd (tpl P t) (tsz P t) ps⟩
theorem Ac3 {α β : Type} {f : α -> Option β} {g : α -> β} : ∀ (l : List α), (∀ x ∈ l, f x = some (g x)) -> l.mapM f = some (l.map g)
 | [], _ => rfl
 | x :: l, h => by
  rw [List.mapM_cons, h x (by simp), Ac3 l fun y hy => h y (by simp [hy])]
  rfl
theorem Aoe {C : VC} {w : World} {t : TypeId} {ps : List (Nat × AV)} {us : Array (Nat × Value)} (hr : Nq C ps us.toList) (hc : (V7 P t ps).c) :
 ∃ v, (Instr.build t us).run P w = .ok v w /\ Br C (V7 P t ps).v v := by
 obtain ⟨h1, h2, h3⟩ := hc
 obtain ⟨i, z, hi, hz, hsz, hzs, htl, hcell⟩ := Mr h1
 rw [<- htl] at h3
 have hbase : ∀ (j : Nat) (c : AV) (u : Value), (El P t)[j]? = some c -> z.cells[j]? = some u -> Br C c u := fun j c u hc hu => (hcell j c u hc hu).1 C
 have fin : ∀ cells', P.built t us.toList = some cells' -> cells'.size = (El P t).length -> (∀ (j : Nat) (c : AV) (u : Value), (Xp (tpl P t) (El P t) ps)[j]? = some c -> cells'[j]? = some u -> Br C c u) -> ∃ v, (Instr.build t us).run P w = .ok v w /\ Br C (V7 P t ps).v v := fun cells' e1 e2 e3 =>
  ⟨_, run_build w t us cells' e1, .agg _ _ (by rw [Vk, e2]) e3⟩
 rcases h2 with h2 | ⟨h2, h4⟩
 ·obtain ⟨fs, hu, hk, hp⟩ := Xb h2
  have hpl : fs.toList.mapM (fun f => (P.info? f.type).map fun i => (f.offset, i.size)) = some (fs.toList.map fun f => (f.offset, tsz P f.type)) := Ac3 _ fun f hf => by
   have := hk f (by simpa using hf)
   simp only [tok, Ah] at this
   obtain ⟨j, hj⟩ := Option.isSome_iff_exists.1 this.2
   simp [hj, tsz]
  obtain ⟨cells', q1, q2, q3⟩ := Aev (C := C) (pl := tpl P t) (place := fun i => (fs.toList.map fun f => (f.offset, tsz P f.type)).toArray[i]?) (fun i hi => by
   rw [hp] at hi ⊢
   rw [List.getElem?_toArray, Ad, Aa hi]; rfl) hr (by rw [hzs, htl]) hbase h3
  exact fin cells' (by simp only [Program.built, hi, hu, hz, hpl]; exact q1) q2 q3
 obtain ⟨n, hn⟩ := Option.isSome_iff_exists.1 h2
 have hu := Zx hn
 simp only [tok, Ah] at h4
 obtain ⟨ie, hie⟩ := Option.isSome_iff_exists.1 h4.2
 have hte : tsz P (Bs P t) = ie.size := by simp [tsz, hie]
 have htp : tpl P t = (List.range n).map fun i => (i * ie.size, ie.size) := by simp only [tpl, hu, hte]
 obtain ⟨cells', q1, q2, q3⟩ := Aev (C := C) (pl := tpl P t) (place := fun i => some (i * ie.size, ie.size)) (fun i hi => by
  rw [htp] at hi ⊢
  rw [A2, List.length_range] at hi
  rw [Ad, Ap, List.getElem?_range hi]; rfl) hr (by rw [hzs, htl]) hbase h3
 exact fin cells' (by simp only [Program.built, hi, hu, hz, hie]; exact q1) q2 q3
def W5 (P : Program) (t : TypeId) (len : Nat) (ps : List (Nat × AV)) (nid : Nat) : Eff :=
 ⟨.own nid len, [(nid, .row (Bs P t) (tsz P (Bs P t)) (ps.all fun p => p.2.cl.all AV.fresh) false (ps.map fun p => p.2.cl.map AV.toT))],
  Ex P t = true /\ zok P (Bs P t) = true /\ 0 < tsz P (Bs P t) /\ ps.map (·.1) = List.range len /\ (∀ p ∈ ps, p.2.cl.length = tsz P (Bs P t) /\ ∀ c ∈ p.2.cl, c.laid = true) /\ len * tsz P (Bs P t) <= 16777216⟩
theorem Nq.length {C : VC} {ps : List (Nat × AV)} {us : List (Nat × Value)} (h : Nq C ps us) : ps.length = us.length := by
 induction h with
 | nil => rfl
 | cons _ _ ih => simp [ih]
theorem Nq.fst {C : VC} {ps : List (Nat × AV)} {us : List (Nat × Value)} (h : Nq C ps us) : ps.map (·.1) = us.map (·.1) := by
 induction h with
 | nil => rfl
 | cons _ _ ih => simp [ih]
theorem Nq.get {C : VC} {ps : List (Nat × AV)} {us : List (Nat × Value)} (h : Nq C ps us) : ∀ (i : Nat) (p : Nat × AV) (u : Nat × Value), ps[i]? = some p -> us[i]? = some u -> Br C p.2 u.2 := by
 induction h with
 | nil => intro i p u hp; simp at hp
 | cons h1 _ ih =>
  intro i p u hp hu
  cases i with
  | zero => simp at hp hu; subst hp hu; exact h1
  | succ i => simp at hp hu; exact ih i p u hp hu
theorem Ahf {k : Nat} : ∀ (us : List (Nat × Value)) (n : Nat) (cells : Array Value), us.map (·.1) = List.range' n us.length -> (∀ u ∈ us, u.2.cells.size = k) -> (n + us.length) * k <= cells.size ->
 ∃ cells', Instr.fill (fun i => some (i * k, k)) cells us = some cells' /\ cells'.size = cells.size /\ (∀ p, p < n * k -> cells'[p]? = cells[p]?) /\ ∀ (q : Nat) (u : Nat × Value) (j : Nat), us[q]? = some u -> j < k -> cells'[(n + q) * k + j]? = u.2.cells[j]?
 | [], n, cells, _, _, _ => ⟨cells, rfl, rfl, fun _ _ => rfl, fun q u j h => by simp at h⟩
 | (i, u) :: us, n, cells, h1, h2, h3 => by
  simp only [List.map_cons, A6, List.range'_succ, List.cons.injEq] at h1
  obtain ⟨rfl, h1⟩ := h1
  have hk := h2 (i, u) (by simp)
  have hk : u.cells.size = k := hk
  simp only [A6] at h3
  have hle : i * k + k <= cells.size := by
   have := A1 k (show i + 1 <= i + (us.length + 1) by omega)
   rw [Be] at this; omega
  obtain ⟨g1, g2⟩ := Ahg (i * k) u.cells cells (by omega)
  obtain ⟨cells', q1, q2, q3, q4⟩ := Ahf (k := k) us (i + 1) _ h1 (fun x hx => h2 x (by simp [hx])) (by rw [g1]; rw [show i + 1 + us.length = i + (us.length + 1) by omega]; exact h3)
  refine ⟨cells', ?_, by rw [q2, g1], fun p hp => ?_, fun q x j hq hj => ?_⟩
  ·rw [Instr.fill]
   simp only []
   rw [if_neg]
   ·exact q1
   simp only [Bool.or_eq_true, bne_iff_ne, ne_eq, decide_eq_true_eq, not_or, Decidable.not_not]
   exact ⟨hk, by omega⟩
  ·rw [q3 p (by rw [Be]; omega), g2, if_neg (by omega)]
  cases q with
  | zero =>
   simp at hq
   subst hq
   rw [Nat.add_zero, q3 _ (by rw [Be]; omega), g2, if_pos (by omega), show i * k + j - i * k = j by omega]
  | succ q =>
   simp at hq
   rw [show i + (q + 1) = i + 1 + q by omega]
   exact q4 q x j hq hj
theorem App {E : Ent} {β : Nat -> Option Nat} {st : St} {a : Act} {w : World} (r : Rel E β st a w) {nid : Nat} (hn : st.o nid = .gone) {t : TypeId} {len : Nat} {ps : List (Nat × AV)} {us : Array (Nat × Value)} (hr : Nq (E.C β st w) ps us.toList) (hc : (W5 P t len ps nid).c) :
 ∃ u w' β' o, (Instr.buildSlice t len us).run P w = .ok u w' /\ (W5 P t len ps nid).up = [(nid, o)] /\ Rel E β' (st.set nid o) a w' /\ Br (E.C β' (st.set nid o) w') (W5 P t len ps nid).v u := by
 obtain ⟨h1, h2, h3, h4, h5, h6⟩ := hc
 obtain ⟨i, z, hi, hz, hsz, hzs, htl, _⟩ := Mr h2
 have hlen : ps.length = len := by have := congrArg List.length h4; simpa using this
 have hul : us.toList.length = len := by rw [<- hr.length, hlen]
 have hbase : ((Array.range (len * tsz P (Bs P t))).map (z.cells[· % z.cells.size]!)).size = len * tsz P (Bs P t) := by simp
 have hcl : ∀ (q : Nat) (p : Nat × AV) (u : Nat × Value), ps[q]? = some p -> us.toList[q]? = some u -> u.2.cells.size = tsz P (Bs P t) /\ ∀ (j : Nat) (c : AV) (x : Value), p.2.cl[j]? = some c -> u.2.cells[j]? = some x -> Br (E.C β st w) c x := fun q p u hp hu => by
  have hm := h5 p (Ac hp)
  obtain ⟨e1, e2⟩ := (hr.get q p u hp hu).cells fun c hc => AV.laid_one (hm.2 c hc)
  exact ⟨by rw [e1, hm.1], fun j c x hc hx => (e2 j c x hc hx).1⟩
 obtain ⟨cells', q1, q2, _, q4⟩ := Ahf (k := tsz P (Bs P t)) us.toList 0 ((Array.range (len * tsz P (Bs P t))).map (z.cells[· % z.cells.size]!)) (by rw [<- hr.fst, h4, hul, List.range_eq_range']) (fun u hu => by
  obtain ⟨q, hq⟩ := A3.1 hu
  have hlt : q < ps.length := by rw [hlen, <- hul]; exact (Ab.1 hq).1
  exact (hcl q _ u (Aa hlt) hq).1) (by rw [Bm, hul, hbase]; exact Aj _)
 have hrun : (Instr.buildSlice t len us).run P w = .ok (.slice (some ⟨w.heap.size, 0, none⟩) len len) (w.alloc (.cells cells' (Bs P t))) := by
  have hz2 : (zeroValue (Bs P t)).run P w = .ok z w := by simp [zeroValue, typeInfo, hi, hz]
  have htk : tok P (Bs P t) = true := by simp only [zok, Ah] at h2; exact h2.1.1.1.1
  by_cases h0 : len * tsz P (Bs P t) = 0
  ·have e : cells' = #[] := Array.eq_empty_of_size_eq_zero (by rw [q2, hbase, h0])
   have e0 : ((Array.range (len * tsz P (Bs P t))).map (z.cells[· % z.cells.size]!)) = #[] := Array.eq_empty_of_size_eq_zero (by rw [hbase, h0])
   rw [e0] at q1
   have e1 : (Array.map (fun (x : Nat) => (default : Value)) (Array.range 0)) = #[] := Array.eq_empty_of_size_eq_zero (by simp)
   simp [Instr.buildSlice, run_underlying (Cy h1), Jc htk, h0, e1, q1, newRow]
  have h6' : ¬ len * tsz P (Bs P t) > 16777216 := by omega
  simp [Instr.buildSlice, run_underlying (Cy h1), Jc htk, h0, h6', hz2, q1, newRow]
 obtain ⟨p1, p2⟩ := Aee (ty := Bs P t) (fr := ps.all fun p => p.2.cl.all AV.fresh) r hn (es := ps.map fun p => p.2.cl.map AV.toT) (cur := cells') (c := len) h3
  (fun i e he => by
   rw [Ap] at he
   cases hp : ps[i]? with
   | none => rw [hp] at he; cases he
   | some p =>
    rw [hp] at he
    simp only [Ai, Option.some.injEq] at he
    rw [<- he, A2, (h5 p (Ac hp)).1]) (by rw [q2, hbase]) (by rw [A2, hlen]; exact Aj _) (by
   have : len <= len * tsz P (Bs P t) := Nat.le_mul_of_pos_right _ h3
   simp only [maxLen]; omega) (fun i e j x he hx => by
   rw [Ap] at he
   cases hp : ps[i]? with
   | none => rw [hp] at he; cases he
   | some p =>
    rw [hp] at he
    simp only [Ai, Option.some.injEq] at he
    subst he
    rw [Ap] at hx
    cases hq : p.2.cl[j]? with
    | none => rw [hq] at hx; cases hx
    | some c =>
     rw [hq] at hx
     simp only [Ai, Option.some.injEq] at hx
     subst hx
     have hlt : i < us.toList.length := by rw [hul, <- hlen]; exact (Ab.1 hp).1
     have hu := Aa hlt
     have hm := h5 p (Ac hp)
     obtain ⟨e1, e2⟩ := hcl i p _ hp hu
     have hj : j < tsz P (Bs P t) := by rw [<- hm.1]; exact (Ab.1 hq).1
     have hx := Al (xs := us.toList[i].2.cells) (i := j) (by omega)
     refine ⟨_, ?_, (e2 j c _ hq hx).toT (hm.2 c (Ac hq)) fun hf => ?_⟩
     ·have := q4 i _ j hu hj
      rw [Bm] at this
      rw [this, hx]
     have hf' := Am.1 hf p (Ac hp)
     exact Am.1 hf' c (Ac hq))
 rw [A2, hlen] at p2
 exact ⟨_, _, _, _, hrun, rfl, p1, p2⟩
end
end Go.Proofs.YtkkimgjinbaemaaGreat
