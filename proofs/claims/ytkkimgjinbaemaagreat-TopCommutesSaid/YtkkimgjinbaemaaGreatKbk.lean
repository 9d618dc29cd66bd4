/- The walk. -/
import Derived.Test.YtkkimgjinbaemaaGreatKbj
namespace Go.Proofs.YtkkimgjinbaemaaGreat
open Go.RowKit
set_option linter.unusedVariables false
set_option linter.unusedSimpArgs false
set_option maxRecDepth 100000
set_option maxHeartbeats 4000000
def Ajp (lo : Nat) (w : World) (es : List (List T)) (u : Value) (ob : Option Nat) : Prop :=
 u.oneCell' = true /\ match ob with
 | none => es = [] /\ ∃ A, u = .slice A 0 0
 | some b => lo <= b /\ b < w.heap.size /\ ∃ c cur, u = .slice (some ⟨b, 0, none⟩) es.length c /\ w.heap[b]? = some (.cells cur 166 (0, 0)) /\ cur.size = c * 5 /\ es.length <= c /\ c <= maxLen /\ ∀ (i : Nat) (e : List T) (j : Nat) (x : T), es[i]? = some e -> e[j]? = some x -> ∃ v, x = .lit v /\ v.oneCell' = true /\ cur[i * 5 + j]? = some v
theorem Ajp.kept {lo : Nat} {w w' : World} {es : List (List T)} {u : Value} {ob : Option Nat} (h : Ajp lo w es u ob) (hs : w.heap.size <= w'.heap.size) (hb : ∀ b, ob = some b -> w'.heap[b]? = w.heap[b]?) : Ajp lo w' es u ob := by
 obtain ⟨h0, h⟩ := h
 refine ⟨h0, ?_⟩
 cases ob with
 | none => exact h
 | some b =>
  obtain ⟨h1, h2, c, cur, h3, h4, h5⟩ := h
  exact ⟨h1, by omega, c, cur, h3, by rw [hb b rfl]; exact h4, h5⟩
def Aab (r : Cg) (u : Value) : List T := [.li r.id, .li r.veh, .li r.cls, .li r.unt, .lit u]
def Dt : List Cg -> List Value -> List (List T)
 | r :: l, u :: us => Aab r u :: Dt l us
 | _, _ => []
theorem Agq : ∀ (l : List Cg) (us : List Value) (r : Cg) (u : Value), us.length = l.length -> Dt (l ++ [r]) (us ++ [u]) = Dt l us ++ [Aab r u]
 | [], [], r, u, _ => rfl
 | x :: l, v :: us, r, u, h => by simp only [List.cons_append, Dt]; rw [Agq l us r u (by simpa using h)]
 | [], _ :: _, r, u, h => by simp at h
 | _ :: _, [], r, u, h => by simp at h
theorem R8 : ∀ (l : List Cg) (us : List Value), us.length = l.length -> (Dt l us).length = l.length
 | [], [], _ => rfl
 | x :: l, v :: us, h => by simp only [Dt, A6]; rw [R8 l us (by simpa using h)]
 | [], _ :: _, h => by simp at h
 | _ :: _, [], h => by simp at h
theorem Agp : ∀ {l : List Cg} {us : List Value}, us.length = l.length -> ∀ {i : Nat} {r : Cg}, l[i]? = some r -> ∃ u, us[i]? = some u /\ (Dt l us)[i]? = some (Aab r u)
 | x :: l, v :: us, h, 0, r, hr => by simp at hr; subst hr; exact ⟨v, rfl, rfl⟩
 | x :: l, v :: us, h, i + 1, r, hr => by
  obtain ⟨u, h1, h2⟩ := Agp (l := l) (us := us) (by simpa using h) (i := i) (by simpa using hr)
  exact ⟨u, by simpa using h1, by simpa [Dt] using h2⟩
 | [], _, h, i, r, hr => by simp at hr
 | _ :: _, [], h, i, r, hr => by simp at h
theorem Amh {legs : List Dp} {i j : Nat} {e : List T} {x : T} (he : (C7 legs)[i]? = some e) (hx : e[j]? = some x) : ∃ v, x = .lit v /\ v.oneCell' = true := by
 obtain ⟨g, hg, rfl⟩ := Mz he
 match j, hx with
 | 0, hx => simp [Dp.t] at hx; subst hx; exact ⟨_, rfl, rfl⟩
 | 1, hx => simp [Dp.t] at hx; subst hx; exact ⟨_, rfl, rfl⟩
 | 2, hx => simp [Dp.t] at hx; subst hx; exact ⟨_, rfl, rfl⟩
 | 3, hx => simp [Dp.t] at hx; subst hx; exact ⟨_, rfl, rfl⟩
 | 4, hx => simp [Dp.t] at hx; subst hx; exact ⟨_, rfl, rfl⟩
 | j + 5, hx => simp [Dp.t] at hx
structure Aoz (lo : Nat) (w : World) (l : List Cg) (us : List Value) (bs : List (Option Nat)) : Prop where
  len : bs.length = us.length
  leg : ∀ (j : Nat) (r : Cg) (u : Value) (b : Option Nat), l[j]? = some r -> us[j]? = some u -> bs[j]? = some b -> Ajp lo w (C7 r.legs) u b
  apart : ∀ (i j b : Nat), i < j -> bs[i]? = some (some b) -> bs[j]? ≠ some (some b)
theorem Uq (r : Cg) (h : r.legs.length <= 1000000) : PP 186 [] [r.g] [.row 166 5 true false (C7 r.legs)] (.agg [.li r.id, .li r.veh, .li r.cls, .li r.unt, .own 0 r.legs.length]) := by
 refine B0 Tryz.func186 ?_
 refine VW.R ?_
 refine VW.S (fun K kk => by simp [go_sem]; refine .lo (Js _ (by simpa using h) (by simp [T.plain, Dp.t])) rfl (by simp) ?_; simp [go_sem]; exact kk) ?_
 refine VW.R ?_
 exact .ret (rW ok0 [2])
def Cl : Nat -> List Cg -> List AV
 | _, [] => []
 | k, r :: l => .li r.id :: .li r.veh :: .li r.cls :: .li r.unt :: .own k r.legs.length :: Cl (k + 1) l
theorem Tt : ∀ (k : Nat) (l : List Cg), (Cl k l).length = l.length * 5
 | _, [] => rfl
 | k, r :: l => by simp [Cl, Tt (k + 1) l]; omega
theorem Aav : ∀ {k : Nat} {l : List Cg} {p : Nat} {c : AV}, (Cl k l)[p]? = some c -> ∃ i r, l[i]? = some r /\ ((∃ j, j < 4 /\ p = i * 5 + j /\ ∀ u, ∃ v, c = .lit v /\ (Aab r u)[j]? = some (.lit v)) \/ (p = i * 5 + 4 /\ c = .own (k + i) r.legs.length))
 | _, [], p, c, h => by simp [Cl] at h
 | k, r :: l, 0, c, h => by simp [Cl] at h; exact ⟨0, r, rfl, .inl ⟨0, by omega, by omega, fun u => ⟨_, h.symm, rfl⟩⟩⟩
 | k, r :: l, 1, c, h => by simp [Cl] at h; exact ⟨0, r, rfl, .inl ⟨1, by omega, by omega, fun u => ⟨_, h.symm, rfl⟩⟩⟩
 | k, r :: l, 2, c, h => by simp [Cl] at h; exact ⟨0, r, rfl, .inl ⟨2, by omega, by omega, fun u => ⟨_, h.symm, rfl⟩⟩⟩
 | k, r :: l, 3, c, h => by simp [Cl] at h; exact ⟨0, r, rfl, .inl ⟨3, by omega, by omega, fun u => ⟨_, h.symm, rfl⟩⟩⟩
 | k, r :: l, 4, c, h => by simp [Cl] at h; exact ⟨0, r, rfl, .inr ⟨by omega, by rw [<- h]; rfl⟩⟩
 | k, r :: l, p + 5, c, h => by
  simp only [Cl, Bb] at h
  obtain ⟨i, r', h1, h2⟩ := Aav h
  refine ⟨i + 1, r', by simpa using h1, ?_⟩
  rcases h2 with ⟨j, h3, h4, h5⟩ | ⟨h3, h4⟩
  ·exact .inl ⟨j, h3, by omega, h5⟩
  exact .inr ⟨by omega, by rw [h4]; congr 1; omega⟩
def Ec (l : List Cg) : List Ob := l.map fun r => .row 166 5 true false (C7 r.legs)
def Di (l : List Cg) : List Ob := .box 164 (Cl 1 l) :: Ec l
theorem Rel.deep {E : Ent} {β : Nat -> Option Nat} {a : Act} {w : World} {l : List Cg} {us : List Value} {bs : List (Option Nat)} {fr : Bool} {t : Nat} (r : Rel E β ⟨[(t, .own 0 l.length)], [.row 164 5 fr false (Dt l us)]⟩ a w) (hE : ∀ id, E.o0 id = .gone) (hne : l ≠ []) (hus : us.length = l.length)
 (hf : Aoz E.w0.heap.size w l us bs) (hb0 : ∀ b j : Nat, β 0 = some b -> bs[j]? ≠ some (some b)) : ∃ β', Rel E β' ⟨[(t, .bsl 0 l.length)], Di l⟩ a w := by
 have ho : (St.mk [(t, .own 0 l.length)] [.row 164 5 fr false (Dt l us)]).o 0 = .row 164 5 fr false (Dt l us) := rfl
 have hlen : l.length = (Dt l us).length := (R8 l us hus).symm
 have hv := r.sl t
 simp only [Ce, beq_self_eq_true, cond_true] at hv
 obtain ⟨u0, hu0⟩ : ∃ u0, u0 = a.tmps.getD t undef := ⟨_, rfl⟩
 rw [<- hu0] at hv
 cases hv with
 | own id n u hown =>
 rcases r.own_val ho hown hlen with ⟨_, he, _⟩ | ⟨b0, cur, c, hb, g1, g2, g3, g4, hu, g5⟩
 ·rw [he] at hlen
  cases l with
  | nil => exact absurd rfl hne
  | cons => simp at hlen
 obtain ⟨βF, hβF⟩ : ∃ βF : Nat -> Option Nat, βF = fun i => if i = 0 then some b0 else (bs[i - 1]?).join := ⟨_, rfl⟩
 have hβ0 : βF 0 = some b0 := by rw [hβF]; rfl
 have hβ1 : ∀ i, βF (i + 1) = (bs[i]?).join := fun i => by rw [hβF]; rfl
 have hob : ∀ i, (St.mk [(t, .bsl 0 l.length)] (Di l)).o (i + 1) = match l[i]? with | some r => .row 166 5 true false (C7 r.legs) | none => .gone := fun i => by
  show (Di l).getD (i + 1) .gone = _
  simp only [Di, Ec, Ad, Bb, Ap]
  cases l[i]? <;> rfl
 have hob0 : (St.mk [(t, .bsl 0 l.length)] (Di l)).o 0 = .box 164 (Cl 1 l) := rfl
 have hleg : ∀ (i : Nat) (r : Cg), l[i]? = some r -> ∃ u b, us[i]? = some u /\ bs[i]? = some b /\ Ajp E.w0.heap.size w (C7 r.legs) u b := fun i r hi => by
  have h1 := (Ab.1 hi).1
  have h2 : us[i]? = some us[i] := Aa (by omega)
  have h4 : i < bs.length := by rw [hf.len]; omega
  have h3 : bs[i]? = some bs[i] := Aa h4
  exact ⟨_, _, h2, h3, hf.leg i r _ _ hi h2 h3⟩
 have hlt0 : b0 < w.heap.size := (r.rng 0 b0 (by rw [ho]; simp) hb).1
 have hin : ∀ (i b : Nat), βF (i + 1) = some b -> ∃ r u, l[i]? = some r /\ Ajp E.w0.heap.size w (C7 r.legs) u (some b) /\ bs[i]? = some (some b) := fun i b h => by
  rw [hβ1] at h
  cases hq : bs[i]? with
  | none => rw [hq] at h; cases h
  | some ob =>
   rw [hq] at h
   have h : ob = some b := h
   subst h
   have h1 := (Ab.1 hq).1
   have h1' : i < l.length := by rw [hf.len] at h1; omega
   have h2 : l[i]? = some l[i] := Aa h1'
   obtain ⟨u, b', q1, q2, q3⟩ := hleg i _ h2
   rw [hq] at q2
   injection q2 with q2
   subst q2
   exact ⟨_, u, h2, q3, rfl⟩
 have hV : ∀ (i : Nat) (r : Cg) (u : Value), l[i]? = some r -> us[i]? = some u -> Aa7 (E.C βF ⟨[(t, .bsl 0 l.length)], Di l⟩ w) (1 + i) r.legs.length u := fun i r u hi hu => by
  obtain ⟨u', b, h1, h2, h3⟩ := hleg i r hi
  rw [hu] at h1
  injection h1 with h1
  subst h1
  refine ⟨h3.1, 166, 5, true, false, C7 r.legs, by show (St.mk _ (Di l)).o (1 + i) = _; rw [Ba, hob, hi], by simp, fun _ => ?_⟩
  have : (E.C βF ⟨[(t, .bsl 0 l.length)], Di l⟩ w).β (1 + i) = b := by show βF (1 + i) = b; rw [Ba, hβ1, h2]; rfl
  rw [this]
  cases b with
  | none => exact h3.2.2
  | some b =>
   obtain ⟨_, _, _, c, cur, k1, k2, k3, k4, k5, k6⟩ := h3
   exact ⟨c, cur, k2, k3, by rw [k1]; simp⟩
 refine ⟨βF, r.sz, fun x => ?_, r.df, fun i => ?_, fun i j b hi hj h1 h2 => ?_, fun i b hi h => ?_, r.kp, ⟨fun id ty cs h => ?_, fun id ty k fr fz es h => ?_⟩, r.kb, r.dk⟩
 ·simp only [Ce]
  cases hx : t == x with
  | true =>
   have : t = x := by simpa using hx
   subst this
   rw [<- hu0, hu, <- hlen]
   exact .bsl _ _ _ ⟨164, _, b0, c, hob0, hβ0, rfl, by omega⟩
  | false => exact .any _
 ·cases i with
  | zero =>
   rw [hob0]
   refine ⟨b0, cur, hβ0, g1, ?_, fun p cc u hc hu' => ?_⟩
   ·rw [Tt, g2, hlen]; exact A1 5 g3
   obtain ⟨i, r', h1, h2⟩ := Aav hc
   obtain ⟨ui, h3, h4⟩ := Agp hus h1
   rcases h2 with ⟨j, hj, rfl, h5⟩ | ⟨rfl, rfl⟩
   ·obtain ⟨v, rfl, h6⟩ := h5 ui
    obtain ⟨u', k1, k2⟩ := g5 i _ j _ h4 h6
    rw [hu'] at k1
    injection k1 with k1
    subst k1
    cases k2 with
    | lit v h => exact ⟨.lit _, h⟩
   obtain ⟨u', k1, k2⟩ := g5 i _ 4 _ h4 rfl
   rw [hu'] at k1
   injection k1 with k1
   subst k1
   cases k2 with
   | lit v h => exact ⟨.own _ _ _ (hV i r' _ h1 h3), h⟩
  | succ i =>
   rw [hob]
   cases hi : l[i]? with
   | none => trivial
   | some r' =>
    obtain ⟨u, b, h1, h2, h3⟩ := hleg i r' hi
    refine ⟨⟨by omega, fun i e he => ?_⟩, ?_⟩
    ·obtain ⟨g, _, rfl⟩ := Mz he
     rfl
    have : (E.C βF ⟨[(t, .bsl 0 l.length)], Di l⟩ w).β (i + 1) = b := by show βF (i + 1) = b; rw [hβ1, h2]; rfl
    rw [this]
    cases b with
    | none => exact h3.2.1
    | some b =>
     obtain ⟨_, _, _, c, cur, k1, k2, k3, k4, k5, k6⟩ := h3
     refine ⟨cur, c, k2, k3, k4, k5, fun i e j x he hx => ?_⟩
     obtain ⟨v, rfl, hv1, hv2⟩ := k6 i e j x he hx
     exact ⟨v, hv2, .lit v hv1⟩
 ·cases i with
  | zero =>
   cases j with
   | zero => rfl
   | succ j =>
    rw [hβ0] at h1
    injection h1 with h1
    subst h1
    obtain ⟨_, _, _, _, q⟩ := hin j _ h2
    exact absurd q (hb0 _ j hb)
  | succ i =>
   cases j with
   | zero =>
    rw [hβ0] at h2
    injection h2 with h2
    subst h2
    obtain ⟨_, _, _, _, q⟩ := hin i _ h1
    exact absurd q (hb0 _ i hb)
   | succ j =>
    obtain ⟨_, _, _, _, q1⟩ := hin i _ h1
    obtain ⟨_, _, _, _, q2⟩ := hin j _ h2
    rcases Nat.lt_trichotomy i j with h | h | h
    ·exact absurd q2 (hf.apart i j b h q1)
    ·rw [h]
    exact absurd q1 (hf.apart j i b h q2)
 ·cases i with
  | zero =>
   rw [hβ0] at h
   injection h with h
   subst h
   exact r.rng 0 _ (by rw [ho]; simp) hb
  | succ i =>
   obtain ⟨_, _, _, q, _⟩ := hin i _ h
   exact ⟨q.2.2.1, .inl q.2.1⟩
 ·rw [hE] at h; cases h
 rw [hE] at h; cases h
section
variable {P : Program} {E : Ent} {F : Fence} {st : St} {Q : Exit -> Act -> World -> Prop} {β : Nat -> Option Nat} {a : Act} {w : World}
theorem Ajs (r : Rel E β st a w) {c : Operand} {x y : Code} (hb : F7 (st.raw c).sv = true) (hs : (st.raw c).sb = true) (ht : C4 (st.raw c).sv = true -> x.wpIn F 0 P Q a w) (hf : C4 (st.raw c).sv = false -> y.wpIn F 0 P Q a w) : (Code.cond c x y).wpIn F 0 P Q a w := by
 obtain ⟨_, e2⟩ := Jn hb ((Jl r c).sv.1 hs)
 exact wpIn_cond_split e2 ht hf
theorem Rel.say1 (r : Rel E β st a w) (t : Nat) {v : AV} (h : Br (E.C β st w) v (a.tmps.getD t undef)) : Rel E β ⟨(t, v) :: st.sl, st.ob⟩ a w :=
 r.say fun x hx => by
  simp only [Ce]
  cases hb : t == x with
  | true =>
   have : t = x := by simpa using hb
   subst this
   exact h
  | false => exact hx
theorem Ap3 {C : VC} {cs : List AV} {c : AV} {v : Value} (h : Br C (.agg (cs ++ [c])) v) : ∃ u, Br C c u /\ Br C (.agg (cs ++ [.lit u])) v := by
 cases h with
 | agg cs' us h1 h2 =>
  have hl : us.size = cs.length + 1 := by rw [<- h1]; simp
  refine ⟨us[cs.length], h2 cs.length c _ (by simp) (Al (by omega)), .agg _ _ (by simpa using hl.symm) fun i x u hx hu => ?_⟩
  by_cases hi : i < cs.length
  ·refine h2 i x u ?_ hu
   rw [Au hi] at hx ⊢
   exact hx
  rw [Ao (by omega)] at hx
  have hi' : i = cs.length := by
   have := (Ab.1 hx).1
   simp at this; omega
  subst hi'
  simp at hx
  subst hx
  rw [Al (by omega)] at hu
  injection hu with hu
  subst hu
  exact .lit _
theorem Abm {c : Code} (I : Nat -> Act -> World -> Prop) (z : Nat) (h0 : I z a w) (round : ∀ z a w, I z a w -> c.wpIn F 0 P (Exit.then (fun a' w' => ∃ z', z' < z /\ I z' a' w') Q) a w) : (Code.loop c).wpIn F 0 P Q a w := by
 have hleast : ∀ a w, (∃ n, I n a w) -> ∃ n, I n a w /\ ∀ n', I n' a w -> n <= n' := by
  rintro a w ⟨n, h⟩
  induction n using Nat.strongRecOn with
  | _ n ih =>
   by_cases hm : ∃ n', n' < n /\ I n' a w
   ·obtain ⟨n', hlt, h'⟩ := hm
    exact ih n' hlt h'
   exact ⟨n, h, fun n' h' => Nat.le_of_not_lt fun hlt => hm ⟨n', hlt, h'⟩⟩
 refine wpIn_loop (fun a w => ∃ n, I n a w) (fun a w => Classical.epsilon fun n => I n a w /\ ∀ n', I n' a w -> n <= n') ⟨z, h0⟩ ?_
 intro a w hI
 obtain ⟨h1, hmin⟩ := Classical.epsilon_spec (hleast a w hI)
 refine wpIn_mono (round _ a w h1) fun e a' w' hq => ?_
 cases e with
 | normal =>
  obtain ⟨n', hlt, hI'⟩ := hq
  refine ⟨⟨n', hI'⟩, ?_⟩
  have := Classical.epsilon_spec (hleast a' w' ⟨n', hI'⟩)
  exact Nat.lt_of_le_of_lt (this.2 n' hI') hlt
 | _ => exact hq
end
def Aan (l : List Cg) (i : Nat) (us : List Value) : St := ⟨[(1, .fn 193 []), (5, .own 0 i), (8, .mReq l), (9, .li l.length), (10, .li i)], [.row 164 5 true false (Dt (l.take i) us)]⟩
theorem Apq {lo : Nat} {E : Ent} {β : Nat -> Option Nat} {st : St} {a : Act} {w : World} (r : Rel E β st a w) {id : Nat} {fr fz : Bool} {q : Cg} (ho : st.o id = .row 166 5 fr fz (C7 q.legs)) {u : Value} (hu : Aa7 (E.C β st w) id q.legs.length u) (hlo : ∀ b, β id = some b -> lo <= b) : Ajp lo w (C7 q.legs) u (β id) := by
 refine ⟨hu.1, ?_⟩
 rcases r.own_val ho hu (by simp) with ⟨h1, h2, h3⟩ | ⟨b, cur, c, h1, h2, h3, h4, h5, h6, h7⟩
 ·rw [h1]; exact ⟨h2, h3⟩
 rw [h1]
 refine ⟨hlo b h1, (r.rng id b (by rw [ho]; simp) h1).1, c, cur, h6, h2, h3, h4, h5, fun i e j x he hx => ?_⟩
 obtain ⟨v, rfl, hv⟩ := Amh he hx
 obtain ⟨u', k1, k2⟩ := h7 i e j _ he hx
 cases k2 with
 | lit v h => exact ⟨v, rfl, h, k1⟩
theorem Afy (l : List Cg) (hne : l ≠ []) (hl : l.length <= 4) (hg : ∀ r ∈ l, r.legs.length <= 1000000) : PP 168 [] [.mReq l, .fn 193 []] (Di l) (.bsl 0 l.length) := by
 refine Anh Tryz.func168 rfl rfl rfl (by simp [Tryz.ntmps168]) ?_
 rintro E F ⟨hn, hE0⟩ hF hds β a w r
 have hE : ∀ id, E.o0 id = .gone := fun id => hE0 id (Ae _)
 have hn : E.n = 24 := hn
 refine Jj hF hds (by rw [hn]; rfl) r fun K1 hK1 => ?_
 simp [go_sem]
 refine hK1 _ ?_; clear hK1
 intro β1 a1 w1 r1 f1
 refine Jj hF hds (by rw [hn]; rfl) r1 fun K1 hK1 => ?_
 simp [go_sem]
 refine hK1 _ ?_; clear hK1
 intro β2 a2 w2 r2 f2
 refine wpIn_seq ?_
 refine Jj hF hds (by rw [hn]; rfl) r2 fun K1 hK1 => ?_
 simp [go_sem]
 refine hK1 _ ?_; clear hK1
 intro β3 a3 w3 r3 f3
 refine wpIn_block ?_
 have r4 := (r3.own0 5 164 5 (by decide) (k' := 5) (by simp [go_sem])).weakE (sel := [0]) (st' := Aan l 0 []) (by
  refine Bp (by decide) ?_ ?_
  ·repeat' (first | exact .nil | refine .cons (by simp [go_sem]) ?_)
  repeat' (first | exact .nil | refine .cons (by simp [go_sem, Dt]) ?_)) (fun id h => absurd (hE id) h)
 clear r r1 r2 r3 f1 f2 f3
 refine Abm (fun z a w => ∃ i us bs β, i <= l.length /\ z = l.length - i /\ us.length = i /\ Rel E β (Aan l i us) a w /\ Aoz E.w0.heap.size w (l.take i) us bs /\ ∀ b j : Nat, β 0 = some b -> bs[j]? ≠ some (some b)) l.length ⟨0, [], [], _, Ae _, rfl, rfl, r4, ⟨rfl, fun j r u b h => by simp at h, fun i j b _ h => by simp at h⟩, fun b j _ h => by simp at h⟩ ?_
 clear r4
 rintro z a w ⟨i, us, bs, β, hi, hz, hus, r, hf, hb0⟩
 refine Jj hF hds (by rw [hn]; rfl) r fun K1 hK1 => ?_
 simp [go_sem, Aan]
 refine hK1 _ ?_; clear hK1
 intro β1 a1 w1 r1 f1
 refine wpIn_seq ?_
 refine Ajs r1 (by simp [go_sem]) (by simp [go_sem]) (fun h11 => ?_) (fun h11 => ?_) <;> simp [go_sem] at h11
 ·
  refine wpIn_skip ?_
  have hx : l[i]? = some l[i] := Aa (by omega)
  generalize l[i] = e at hx
  have ht : List.take (i + 1) l = List.take i l ++ [e] := by rw [List.take_add_one, hx]; rfl
  have hi4 : i < 4 := by omega
  have hlr : (Dt (l.take i) us).length = i := by rw [R8 _ _ (by simp; omega)]; simp; omega
  refine wpIn_seq ?_
  refine wpIn_block ?_
  refine Jj hF hds (by rw [hn]; rfl) r1 fun K1 hK1 => ?_
  simp [go_sem, hx]
  repeat' with_reducible refine Ax ?_ ?_
  all_goals try (intros; (repeat' refine Ax ?_ ?_) <;> omega)
  refine hK1 _ ?_; clear hK1
  intro β2 a2 w2 r2 f2
  refine Jj hF hds (by rw [hn]; rfl) r2 fun K1 hK1 => ?_
  simp [go_sem]
  refine .lo (Hs e) (by simp [go_sem]) (by simp [AV.cln, Cp]) ?_
  simp [go_sem]
  refine hK1 _ ?_; clear hK1
  intro β3 a3 w3 r3 f3
  refine Ajs r3 (by simp [go_sem]) (by simp [go_sem]) (fun h16 => ?_) (fun h16 => ?_) <;> simp [go_sem] at h16
  refine Afo hF hds 3 (by rw [hn]; rfl) r3 fun K1 hK1 => ?_
  simp [go_sem]
  refine .l (Uq e (hg e (Ac hx))) ?_
  simp [go_sem]
  refine hK1 _ ?_; clear hK1
  intro β4 a4 w4 r4 f4
  have hv := r4.sl 19
  simp only [Ce] at hv
  obtain ⟨u, hu1, hu2⟩ := Ap3 (cs := [_, _, _, _]) hv
  have r4' := r4.say1 19 hu2
  cases hu1 with
  | own _ _ _ hu1 =>
  have h1u := hu1.1
  refine W4 hF hds (by rw [hn]; rfl) r4' fun K1 hK1 => ?_
  simp [go_sem, h1u, hlr]
  repeat' with_reducible refine Ax ?_ ?_
  all_goals try exact h1u
  all_goals try (intros; (repeat' refine Ax ?_ ?_) <;> omega)
  refine hK1 _ ?_; clear hK1
  intro β5 a5 w5 r5 f5
  refine Al6 hF hds (by rw [hn]; rfl) r5 fun K1 hK1 => ?_
  simp [go_sem]
  refine hK1 _ ?_; clear hK1
  intro β6 a6 w6 r6 f6
  have g12 := f1.grew.trans f2.grew
  have g13 := g12.trans f3.grew
  have g14 := g13.trans f4.grew
  have g15 := g14.trans2 f5.grew rfl
  have g := g15.trans f6.grew
  have hown : ∀ (b : Nat), Own β (Aan l i us) b -> β 0 = some b := fun b ⟨id, h1, h2⟩ => by
   cases id with
   | zero => exact h2
   | succ id => exact absurd rfl h1
  have ho6 : β6 2 = β4 2 := (f6.row 2 166 5 _ _ (C7 e.legs) _ _ (C7 e.legs) rfl rfl rfl).trans (f5.row 2 166 5 _ _ (C7 e.legs) _ _ (C7 e.legs) rfl rfl rfl)
  have hv5 := f5.keep 2 166 5 _ _ (C7 e.legs) _ _ (C7 e.legs) _ _ rfl rfl rfl hu1
  have hv6 := f6.keep 2 166 5 _ _ (C7 e.legs) _ _ (C7 e.legs) _ _ rfl rfl rfl hv5
  have hnew : ∀ b, β4 2 = some b -> w.heap.size <= b := fun b hb => by
   rcases f4.rng b ⟨2, by simp [St.o], hb⟩ with h | ⟨id, h1, h2⟩
   ·exact Ak g13.kp.size h
   exfalso
   match id, h1, h2 with
   | 0, h1, h2 =>
    have := f4.row 0 164 5 _ _ (Dt (l.take i) us) _ _ (Dt (l.take i) us) rfl rfl rfl
    have := r4.inj 0 2 b (by simp [St.o]) (by simp [St.o]) (by rw [this]; exact h2) hb
    omega
   | 1, h1, h2 =>
    have := f4.box 1 164 _ rfl
    have := r4.inj 1 2 b (by simp [St.o]) (by simp [St.o]) (by rw [this]; exact h2) hb
    omega
   | id + 2, h1, h2 => exact h1 rfl
  have hleg := Apq (lo := E.w0.heap.size) r6 (id := 2) (q := e) rfl hv6 (fun b hb => by
   rw [ho6] at hb
   exact Ak r.kp.size (hnew b hb))
  have hold : ∀ (j b : Nat), bs[j]? = some (some b) -> b < w.heap.size /\ w6.heap[b]? = w.heap[b]? := fun j b hj => by
   have h1 := (Ab.1 hj).1
   rw [hf.len] at h1
   have h2 : us[j]? = some us[j] := Aa h1
   have h3' : j < (l.take i).length := by simp; omega
   have h3 : (l.take i)[j]? = some (l.take i)[j] := Aa h3'
   have h4 := hf.leg j _ _ _ h3 h2 hj
   refine ⟨h4.2.2.1, g.kp.block b h4.2.2.1 fun h => ?_⟩
   exact hb0 b j (hown b h) hj
  refine ⟨z - 1, by omega, i + 1, us ++ [u], bs ++ [β6 2], _, by omega, by omega, by simp [hus], r6.weakE (sel := [0]) (st' := Aan l (i + 1) (us ++ [u])) (Bp (by decide) ?_ ?_) (fun id h => absurd (hE id) h), ⟨by simp [hf.len], ?_, ?_⟩, ?_⟩
  ·repeat' (first | exact .nil | refine .cons (by simp [go_sem, Bq ((i : Int) + 1)]) ?_)
  ·refine .cons ?_ .nil
   rw [ht, Agq _ _ _ _ (by simp; omega)]
   simp [go_sem, Aab]
  ·intro j r' u' b h1 h2 h3
   by_cases hj : j < i
   ·have hj2 : j < us.length := by omega
    have hj3 : j < bs.length := by rw [hf.len]; omega
    rw [Au hj2] at h2
    rw [Au hj3] at h3
    rw [ht, Au (by simp; omega)] at h1
    exact (hf.leg j r' u' b h1 h2 h3).kept g.kp.size fun b' hb' => by
     subst hb'
     exact (hold j b' h3).2
   have hj2 : j = i := by
    have := (Ab.1 h2).1
    simp at this; omega
   subst hj2
   rw [Ao (by omega), show j - us.length = 0 by omega] at h2
   rw [Ao (by rw [hf.len]; omega), show j - bs.length = 0 by rw [hf.len]; omega] at h3
   rw [ht, Ao (by simp; omega), show j - (l.take j).length = 0 by simp; omega] at h1
   simp at h1 h2 h3
   subst h1 h2 h3
   exact hleg
  ·intro i' j b hij h1 h2
   have hj2 := (Ab.1 h2).1
   have hbl := hf.len
   simp at hj2
   rw [Au (by omega)] at h1
   by_cases hj : j < bs.length
   ·rw [Au hj] at h2
    exact hf.apart i' j b hij h1 h2
   rw [Ao (by omega), show j - bs.length = 0 by omega] at h2
   simp at h2
   rw [ho6] at h2
   have := hnew b h2
   have := (hold i' b h1).1
   omega
  intro b j h1 h2
  have h1 : β6 0 = some b := h1
  have hj2 := (Ab.1 h2).1
  have hbl := hf.len
  simp at hj2
  by_cases hj : j < bs.length
  ·rw [Au hj] at h2
   rcases g.rng b ⟨0, by simp [St.o], h1⟩ with h | h
   ·have := (hold j b h2).1
    omega
   exact hb0 b j (hown b h) h2
  rw [Ao (by omega), show j - bs.length = 0 by omega] at h2
  simp at h2
  have := r6.inj 0 2 b (by simp [St.o]) (by simp [St.o]) h1 h2
  omega
 -- the end
 have hi : i = l.length := by omega
 subst hi
 refine wpIn_exit ?_
 refine Jj (y := .ret) hF hds (by rw [hn]; rfl) r1 fun K1 hK1 => ?_
 simp [go_sem]
 refine hK1 _ ?_; clear hK1
 intro β2 a2 w2 r2 f2
 rw [List.take_length] at hf
 have g : Wy β (Aan l l.length us) w β2 _ w2 := f1.grew.trans f2.grew
 have hβ2 : β2 0 = β 0 := (f2.row 0 164 5 _ _ (Dt (l.take l.length) us) _ _ (Dt l us) rfl rfl (by rw [List.take_length])).trans (f1.row 0 164 5 _ _ (Dt (l.take l.length) us) _ _ (Dt (l.take l.length) us) rfl rfl rfl)
 have hown : ∀ (b : Nat), Own β (Aan l l.length us) b -> β 0 = some b := fun b ⟨id, h1, h2⟩ => by
  cases id with
  | zero => exact h2
  | succ id => exact absurd rfl h1
 have hf2 : Aoz E.w0.heap.size w2 l us bs := ⟨hf.len, fun j r' u b h1 h2 h3 => (hf.leg j r' u b h1 h2 h3).kept g.kp.size fun b' hb' => by
  subst hb'
  exact g.kp.block b' (hf.leg j r' u _ h1 h2 h3).2.2.1 fun h => hb0 b' j (hown b' h) h3, hf.apart⟩
 have r3 := r2.weakE (sel := [0]) (st' := ⟨[(4, .own 0 l.length)], [.row 164 5 true false (Dt l us)]⟩) (Bp (by decide) (by
  repeat' (first | exact .nil | refine .cons (by simp [go_sem]) ?_)) (by
  repeat' (first | exact .nil | refine .cons (by simp [go_sem]) ?_))) (fun id h => absurd (hE id) h)
 obtain ⟨β4, r4⟩ := r3.deep hE hne hus hf2 fun b j h => hb0 b j (by rw [<- hβ2]; exact h)
 refine wpIn_ret ⟨E, _, β4, Ej.refl E, ?_, r4⟩
 clear r4 r3 r2 r1 r f1 f2 hf2 hf g hown hβ2 hb0 hus hz hg h11
 match l, hl, hne with
 | [], _, hne => exact absurd rfl hne
 | [q0], _, _ =>
  refine Nx [0, 1] (by simp [go_sem]) (by decide) (by simp) (by simp [go_sem]) ?_
  simp only [Di, Cl, Ec, List.map]
  repeat' (first | exact .nil | refine .cons (by simp [go_sem]) ?_)
 | [q0, q1], _, _ =>
  refine Nx [0, 1, 2] (by simp [go_sem]) (by decide) (by simp) (by simp [go_sem]) ?_
  simp only [Di, Cl, Ec, List.map]
  repeat' (first | exact .nil | refine .cons (by simp [go_sem]) ?_)
 | [q0, q1, q2], _, _ =>
  refine Nx [0, 1, 2, 3] (by simp [go_sem]) (by decide) (by simp) (by simp [go_sem]) ?_
  simp only [Di, Cl, Ec, List.map]
  repeat' (first | exact .nil | refine .cons (by simp [go_sem]) ?_)
 | [q0, q1, q2, q3], _, _ =>
  refine Nx [0, 1, 2, 3, 4] (by simp [go_sem]) (by decide) (by simp) (by simp [go_sem]) ?_
  simp only [Di, Cl, Ec, List.map]
  repeat' (first | exact .nil | refine .cons (by simp [go_sem]) ?_)
 | _ :: _ :: _ :: _ :: _ :: l, h, _ => simp at h
theorem Hf (l : List Cg) (hne : l ≠ []) (hl : l.length <= 4) (hg : ∀ r ∈ l, r.legs.length <= 1000000) : PP 171 [] [.mReq l] (Di l) (.bsl 0 l.length) := by
 refine B0 Tryz.func171 ?_
 refine VW.R ?_
 refine VW.region_seq (by rfl) fun K1 hK1 => ?_
 simp [go_sem]
 have hk := Afy l hne hl hg
 match l, hl, hne, hk with
 | [], _, hne, _ => exact absurd rfl hne
 | [q0], _, _, hk =>
  refine .by hk (LeL.refl _) (by simp) ?_
  simp [go_sem, Di, Cl, Ec]
  refine hK1 _ ?_; clear hK1
  refine VW.ret (Nx [0, 1] (by simp [go_sem]) (by decide) (by simp) (by simp [go_sem]) ?_)
  simp only [Di, Cl, Ec, List.map]
  repeat' (first | exact .nil | refine .cons (by simp [go_sem]) ?_)
 | [q0, q1], _, _, hk =>
  refine .by hk (LeL.refl _) (by simp) ?_
  simp [go_sem, Di, Cl, Ec]
  refine hK1 _ ?_; clear hK1
  refine VW.ret (Nx [0, 1, 2] (by simp [go_sem]) (by decide) (by simp) (by simp [go_sem]) ?_)
  simp only [Di, Cl, Ec, List.map]
  repeat' (first | exact .nil | refine .cons (by simp [go_sem]) ?_)
 | [q0, q1, q2], _, _, hk =>
  refine .by hk (LeL.refl _) (by simp) ?_
  simp [go_sem, Di, Cl, Ec]
  refine hK1 _ ?_; clear hK1
  refine VW.ret (Nx [0, 1, 2, 3] (by simp [go_sem]) (by decide) (by simp) (by simp [go_sem]) ?_)
  simp only [Di, Cl, Ec, List.map]
  repeat' (first | exact .nil | refine .cons (by simp [go_sem]) ?_)
 | [q0, q1, q2, q3], _, _, hk =>
  refine .by hk (LeL.refl _) (by simp) ?_
  simp [go_sem, Di, Cl, Ec]
  refine hK1 _ ?_; clear hK1
  refine VW.ret (Nx [0, 1, 2, 3, 4] (by simp [go_sem]) (by decide) (by simp) (by simp [go_sem]) ?_)
  simp only [Di, Cl, Ec, List.map]
  repeat' (first | exact .nil | refine .cons (by simp [go_sem]) ?_)
 | _ :: _ :: _ :: _ :: _ :: l, h, _, _ => simp at h
end Go.Proofs.YtkkimgjinbaemaaGreat
