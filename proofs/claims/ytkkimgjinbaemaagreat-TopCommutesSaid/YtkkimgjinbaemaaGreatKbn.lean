/- The walk. -/
import Derived.Test.YtkkimgjinbaemaaGreatKbf
import Derived.Test.YtkkimgjinbaemaaGreatKbm
namespace Go.Proofs.YtkkimgjinbaemaaGreat
open Go.RowKit
set_option linter.unusedVariables false
set_option linter.unusedSimpArgs false
set_option maxRecDepth 100000
set_option maxHeartbeats 4000000
structure Aqb (cur vcur cur' : Array Value) (n i : Nat) : Prop where
  lo : ∀ j, j < i * 5 -> cur'[j]? = cur[j]?
  at' : ∀ j, j < 5 -> cur'[i * 5 + j]? = vcur[j]?
  hi : ∀ j, i * 5 <= j -> j < n * 5 -> cur'[j + 5]? = cur[j]?
theorem Ag9 {row vs : Array Value} {i : Nat} (h5 : 5 <= vs.size) (hr : i * 5 + 5 <= row.size) (p : Nat) : (Jo row vs i)[p]? = if i * 5 <= p /\ p < i * 5 + 5 then vs[p - i * 5]? else row[p]? := by
 have hl : (vs.toList.take 5).length = 5 := by simp; omega
 unfold Jo
 rw [La row (i * 5) (vs.toList.take 5) (by rw [hl]; exact hr), hl]
 split
 ·next h => rw [Ag (by omega)]; simp
 rfl
theorem Ag8 {row cur : Array Value} {n i : Nat} (hi : i < n) (hc : n * 5 <= cur.size) (hr : (n + 1) * 5 <= row.size) (p : Nat) : (Yq row cur n i)[p]? = if (i + 1) * 5 <= p /\ p < (n + 1) * 5 then cur[p - 5]? else row[p]? := by
 have hl : ((cur.toList.drop (i * 5)).take ((n - i) * 5)).length = (n - i) * 5 := by simp; omega
 unfold Yq
 rw [La row ((i + 1) * 5) _ (by rw [hl]; omega), hl]
 by_cases h : (i + 1) * 5 <= p /\ p < (n + 1) * 5
 ·rw [if_pos ⟨h.1, by omega⟩, if_pos h, Ag (by omega), Bd, show i * 5 + (p - (i + 1) * 5) = p - 5 by omega]
  simp
 rw [if_neg (by omega), if_neg h]
theorem Aka (cur : Array Value) (n i : Nat) : Sg cur n i = Yq cur cur n i := rfl
theorem Ai2 {cur vcur : Array Value} {n i c : Nat} (hi : i < n) (hc : n + 1 <= c) (hs : cur.size = c * 5) (hv : 5 <= vcur.size) : Aqb cur vcur (Jo (Sg cur n i) vcur i) n i := by
 have h1 := Wq hs hi hc
 have hB := Ag9 (row := Sg cur n i) (i := i) hv (by rw [h1]; omega)
 have hD := Ag8 (row := cur) (cur := cur) hi (by omega) (by omega)
 refine ⟨fun j hj => ?_, fun j hj => ?_, fun j h2 h3 => ?_⟩
 ·rw [hB, if_neg (by omega), Aka, hD, if_neg (by omega)]
 ·rw [hB, if_pos (by omega), show i * 5 + j - i * 5 = j by omega]
 rw [hB, if_neg (by omega), Aka, hD, if_pos (by omega), show j + 5 - 5 = j by omega]
theorem Ali {row cur : Array Value} {n i : Nat} (hi : i < n) (hc : n * 5 <= cur.size) (hr : (n + 1) * 5 <= row.size) : (Yq row cur n i).size = row.size := by
 have hl : ((cur.toList.drop (i * 5)).take ((n - i) * 5)).length = (n - i) * 5 := by simp; omega
 exact Eh row ((i + 1) * 5) _ (by rw [hl]; omega)
theorem Wp {row vs : Array Value} {i : Nat} (h5 : 5 <= vs.size) (hr : i * 5 + 5 <= row.size) : (Jo row vs i).size = row.size := by
 have hl : (vs.toList.take 5).length = 5 := by simp; omega
 exact Eh row (i * 5) _ (by rw [hl]; exact hr)
theorem Alh {cur vcur ROW : Array Value} {n i G c : Nat} (hi : i < n) (hG : n + 1 <= G) (hR : ROW.size = G * 5) (hs : cur.size = c * 5) (hc : n <= c) (hv : 5 <= vcur.size) (hRc : ∀ j, j < i * 5 -> ROW[j]? = cur[j]?) : Aqb cur vcur (Yq (Jo ROW vcur i) cur n i) n i := by
 have h1 := Wp (row := ROW) (i := i) hv (by omega)
 have hB := Ag9 (row := ROW) (i := i) hv (by omega)
 have hD := Ag8 (row := Jo ROW vcur i) (cur := cur) hi (by omega) (by rw [h1]; omega)
 refine ⟨fun j hj => ?_, fun j hj => ?_, fun j h2 h3 => ?_⟩
 ·rw [hD, if_neg (by omega), hB, if_neg (by omega), hRc j hj]
 ·rw [hD, if_neg (by omega), hB, if_pos (by omega), show i * 5 + j - i * 5 = j by omega]
 rw [hD, if_pos (by omega), show j + 5 - 5 = j by omega]
theorem Agd {l : List Cg} {q : Nat} {e : List T} (h : (Et l)[q]? = some e) : e.length = 5 := by
 obtain ⟨r, _, rfl⟩ := Mz h
 rfl
theorem Alg {R : T -> Value -> Prop} {cur vcur cur' : Array Value} {l : List Cg} {x : Cg} {i : Nat} (hi : i < l.length) (hP : Aqb cur vcur cur' l.length i)
 (h0 : ∀ (q : Nat) (e : List T) (s : Nat) (y : T), (Et l)[q]? = some e -> e[s]? = some y -> ∃ u, cur[q * 5 + s]? = some u /\ R y u)
  (h1 : ∀ (q : Nat) (e : List T) (s : Nat) (y : T), (Et [x])[q]? = some e -> e[s]? = some y -> ∃ u, vcur[q * 5 + s]? = some u /\ R y u) :
  ∀ (q : Nat) (e : List T) (s : Nat) (y : T), (Et (l.take i ++ x :: l.drop i))[q]? = some e -> e[s]? = some y -> ∃ u, cur'[q * 5 + s]? = some u /\ R y u := by
 intro q e s y he hy
 have hs : s < 5 := by rw [<- Agd he]; exact (Ab.1 hy).1
 obtain ⟨r, hr, rfl⟩ := Mz he
 have htl : (l.take i).length = i := by simp; omega
 by_cases hq : q < i
 ·rw [Au (by omega), Ag hq] at hr
  obtain ⟨u, h2, h3⟩ := h0 q r.t s y (by rw [Ap, hr]; rfl) hy
  exact ⟨u, by rw [hP.lo _ (by omega)]; exact h2, h3⟩
 rw [Ao (by omega), htl] at hr
 by_cases hqi : q = i
 ·subst hqi
  rw [Nat.sub_self] at hr
  simp at hr
  subst hr
  obtain ⟨u, h2, h3⟩ := h1 0 x.t s y rfl hy
  exact ⟨u, by rw [hP.at' s hs]; simpa using h2, h3⟩
 obtain ⟨p, rfl⟩ : ∃ p, q = p + 1 := ⟨q - 1, by omega⟩
 rw [show p + 1 - i = (p - i) + 1 by omega, Bb, Bd, show i + (p - i) = p by omega] at hr
 have hp : p < l.length := (Ab.1 hr).1
 obtain ⟨u, h2, h3⟩ := h0 p r.t s y (by rw [Ap, hr]; rfl) hy
 exact ⟨u, by rw [show (p + 1) * 5 + s = (p * 5 + s) + 5 by omega, hP.hi _ (by omega) (by omega)]; exact h2, h3⟩
theorem Rel.slots {E : Ent} {β : Nat -> Option Nat} {st : St} {a : Act} {w : World} (r : Rel E β st a w) {m : Nat} {sl : List (Nat × AV)} {us : Array Value} (hm : us.size = m) (hsl : ∀ t, Br (E.C β st w) (Ce sl t) (us.getD t undef)) : Rel { E with n := m } β ⟨sl, st.ob⟩ ⟨us, a.defers⟩ w :=
 ⟨hm, hsl, r.df, r.ob, r.inj, r.rng, r.kp, r.ct, r.kb, r.dk⟩
theorem Aa7.of {C : VC} {id n ty k : Nat} {fr fz : Bool} {es : List (List T)} {b c : Nat} {cur : Array Value} (ho : C.ob id = .row ty k fr fz es) (hn : n = es.length) (hb : C.β id = some b) (hc : C.h[b]? = some (.cells cur ty (0, 0))) (hs : cur.size = c * k) : Aa7 C id n (.slice (some ⟨b, 0, none⟩) n c) :=
 ⟨rfl, ty, k, fr, fz, es, ho, by omega, fun _ => by rw [hb]; exact ⟨c, cur, hc, hs, rfl⟩⟩
theorem Ad1 (l : List Cg) (x : Cg) (i : Nat) (hi : i < l.length) (hl : l.length <= 1000) (f1 f2 : Bool) : PP 266 [.row 164 5 f1 false (Et l), .row 164 5 f2 false (Et [x])] [.own 0 l.length, .li i, .own 1 1] [.row 164 5 false false (Et (l.take i ++ x :: l.drop i)), .row 164 5 f2 false (Et [x])] (.own 0 (l.length + 1)) := by
 refine ⟨⟨_, Tryz.func266, rfl, rfl⟩, fun E β us hn ho hβ r => ?_⟩
 have hsz : us.size = 3 := r.sz.trans hn
 have ho0 : (St.mk (E8 0 [AV.own 0 l.length, .li i, .own 1 1]) [.row 164 5 f1 false (Et l), .row 164 5 f2 false (Et [x])]).o 0 = .row 164 5 f1 false (Et l) := rfl
 have ho1 : (St.mk (E8 0 [AV.own 0 l.length, .li i, .own 1 1]) [.row 164 5 f1 false (Et l), .row 164 5 f2 false (Et [x])]).o 1 = .row 164 5 f2 false (Et [x]) := rfl
 have hlen : l.length = (Et l).length := (A2 _).symm
 obtain ⟨u0, hu0⟩ : ∃ u, us[0]? = some u := ⟨us[0], Al (by omega)⟩
 obtain ⟨u1, hu1⟩ : ∃ u, us[1]? = some u := ⟨us[1], Al (by omega)⟩
 obtain ⟨u2, hu2⟩ : ∃ u, us[2]? = some u := ⟨us[2], Al (by omega)⟩
 have hus : us = #[u0, u1, u2] := by
  apply Array.ext_getElem?
  intro j
  match j with
  | 0 => rw [hu0]; rfl
  | 1 => rw [hu1]; rfl
  | 2 => rw [hu2]; rfl
  | j + 3 => rw [Array.getElem?_eq_none (by omega)]; rfl
 have g0 := r.sl 0
 have g1 := r.sl 1
 have g2 := r.sl 2
 simp only [Av, hu0, hu1, hu2, Bh] at g0 g1 g2
 simp [E8, Ce] at g0 g1 g2
 cases g0 with
 | own _ _ _ g0 =>
 cases g1 with
 | lit _ =>
 cases g2 with
 | own _ _ _ g2 =>
 rcases r.own_val ho0 g0 hlen with ⟨_, he, _⟩ | ⟨b, cur, c, hb, q1, q2, q3, q4, hv0, q5⟩
 ·have : l = [] := by simpa using he
  rw [this] at hi; simp at hi
 rcases r.own_val ho1 g2 rfl with ⟨_, he, _⟩ | ⟨vb, vcur, vc, hvb, p1, p2, p3, p4, hv2, p5⟩
 ·simp at he
 have hne : vb ≠ b := fun e => by
  have := r.inj 1 0 vb (by rw [ho1]; simp) (by rw [ho0]; simp) hvb (by rw [e]; exact hb)
  omega
 have p3 : 1 <= vc := by simpa using p3
 rw [<- hlen] at q3
 have hone : ∀ (cc : Array Value) (es : List Cg) (fr : Bool), (∀ (p : Nat) (e : List T) (j : Nat) (y : T), (Et es)[p]? = some e -> e[j]? = some y -> ∃ u, cc[p * 5 + j]? = some u /\ Do E.w0.heap ((E.C β ⟨E8 0 [AV.own 0 l.length, .li i, .own 1 1], [.row 164 5 f1 false (Et l), .row 164 5 f2 false (Et [x])]⟩ E.w0).S fr) y u) -> ∀ j, j < es.length * 5 -> ∀ v, cc[j]? = some v -> v.oneCell' = true := fun cc es fr h j hj v hv => by
  have hq : j / 5 < es.length := by omega
  have he : (Et es)[j / 5]? = some es[j / 5].t := by rw [Ap, Aa hq]; rfl
  have hj5 : j % 5 < (es[j / 5].t).length := by rw [show (es[j / 5].t).length = 5 from rfl]; omega
  obtain ⟨u, h1, h2⟩ := h _ _ (j % 5) _ he (Aa hj5)
  rw [show j / 5 * 5 + j % 5 = j by omega, hv] at h1
  injection h1 with h1
  rw [h1]
  exact h2.one
 have hc0 := hone cur l f1 q5
 have hc1 := hone vcur [x] f2 p5
 have hlx : (l.take i ++ x :: l.drop i).length = l.length + 1 := by simp; omega
 have hORel : ∀ (g : Nat) (cur' : Array Value) (c' : Nat), cur'.size = c' * 5 -> l.length + 1 <= c' -> c' <= maxLen -> Aqb cur vcur cur' l.length i -> ∀ C : VC, Ks (E.C β ⟨E8 0 [AV.own 0 l.length, .li i, .own 1 1], [.row 164 5 f1 false (Et l), .row 164 5 f2 false (Et [x])]⟩ E.w0) C -> C.β 0 = some g -> C.h[g]? = some (.cells cur' 164 (0, 0)) -> Hi C 0 (.row 164 5 false false (Et (l.take i ++ x :: l.drop i))) := fun g cur' c' h1 h2 h3 hP C s hCβ hCh => by
  refine ⟨⟨by decide, fun q e he => Agd he⟩, ?_⟩
  rw [hCβ]
  refine ⟨cur', c', hCh, h1, by rw [A2, hlx]; exact h2, h3, ?_⟩
  exact Alg hi hP (fun q e s' y he hy => by
   obtain ⟨u, m1, m2⟩ := q5 q e s' y he hy
   exact ⟨u, m1, VC.T_weak (s.T m2) fun e => by cases e⟩) (fun q e s' y he hy => by
   obtain ⟨u, m1, m2⟩ := p5 q e s' y he hy
   exact ⟨u, m1, VC.T_weak (s.T m2) fun e => by cases e⟩)
 rw [hus, hv0, hv2, A2]
 have hv1 : 5 <= vcur.size := by omega
 by_cases hroom : l.length + 1 <= c
 ·have hcm : c <= 9223372036854775807 := by unfold maxLen at q4; omega
  refine (Alf b l.length c i vb vc cur vcur E.w0 hi hroom hcm q1 q2 p1 hv1 hne hc0 (fun j hj v hv => hc1 j (by simpa using hj) v hv)).mono ?_
  rintro e w' ⟨rfl, rfl⟩
  have hA := Wq q2 hi hroom
  have hP := Ai2 hi hroom q2 hv1
  have hB : (Jo (Sg cur l.length i) vcur i).size = c * 5 := by rw [Wp hv1 (by rw [hA]; omega), hA]
  have k1 := setRow_heap E.w0.drew b cur (Sg cur l.length i) 164 (0, 0) q1
  have k2 := setRow_heap _ b _ (Jo (Sg cur l.length i) vcur i) 164 (0, 0) k1
  have r1 := (r.drew (E.w0.drawn + 1)).change (id := 0) (g := b) (o := .row 164 5 false false (Et (l.take i ++ x :: l.drop i))) (by rw [ho0]; rfl) hb q1 k2 (by rw [hB, q2]) (by simp) (fun b' hb' => (setRow_other _ b b' _ hb').trans (setRow_other _ b b' _ hb')) rfl rfl rfl
   (fun ty cs e => by rw [ho0] at e; cases e) (fun ty k fr fz es e => by
    rw [ho0] at e
    injection e with e1 e2 e3 e4 e5
    subst e1 e2 e5
    exact ⟨_, _, _, rfl, by rw [A2, A2, hlx]; omega⟩) (hORel b _ c hB hroom q4 hP) (.inr trivial)
  refine ⟨_, _, rfl, r1.slots (m := 1) (sl := [(0, .own 0 (l.length + 1))]) rfl fun t => ?_⟩
  simp only [Ce]
  by_cases ht : t = 0
  ·subst ht
   exact .own _ _ _ (Aa7.of rfl (by rw [A2, hlx]) hb k2 hB)
  have : (0 == t) = false := by simpa using fun e => ht e.symm
  rw [this]
  exact .any _
 refine (Anu b l.length c i vb vc cur vcur E.w0 hi q3 (by omega) hl q1 q2 p1 hv1 hc0 (fun j hj v hv => hc1 j (by simpa using hj) v hv)).mono ?_
 rintro e w' ⟨ROW, G, k, n1, n2, n3, n4, rfl, rfl⟩
 have hP := Alh hi n2 n1 q2 q3 hv1 n4
 have hB1 := Wp (row := ROW) (i := i) hv1 (by omega)
 have hB : (Yq (Jo ROW vcur i) cur l.length i).size = G * 5 := by rw [Ali hi (by omega) (by rw [hB1]; omega), hB1, n1]
 have r1 := (r.bind (id := 0) (o := .row 164 5 false false (Et (l.take i ++ x :: l.drop i))) (.inr ⟨_, _, _, _, _, _, _, _, ho0, rfl, by rw [A2, A2, hlx]; omega⟩) (by simp) (Yq (Jo ROW vcur i) cur l.length i) 164 (hORel _ _ G hB n2 n3 hP)).drew k
 refine ⟨_, _, rfl, r1.slots (m := 1) (sl := [(0, .own 0 (l.length + 1))]) rfl fun t => ?_⟩
 simp only [Ce]
 by_cases ht : t = 0
 ·subst ht
  exact .own _ _ _ (Aa7.of rfl (by rw [A2, hlx]) (show upd β 0 E.w0.heap.size 0 = some E.w0.heap.size by simp [upd]) (Ahn E.w0 _) hB)
 have : (0 == t) = false := by simpa using fun e => ht e.symm
 rw [this]
 exact .any _
theorem Ad2 (l : List Cg) (x : Cg) (hl : l.length <= 1000) (f1 f2 : Bool) : PP 266 [.row 164 5 f1 false (Et l), .row 164 5 f2 false (Et [x])] [.own 0 l.length, .li l.length, .own 1 1] [.row 164 5 false false (Et (l ++ [x])), .row 164 5 f2 false (Et [x])] (.own 0 (l.length + 1)) := by
 obtain ⟨d, h, _⟩ := Y8 (P := Tryz.prog) (f := 266) (args := [.own 0 l.length, .li l.length, .own 1 1]) (σa := [.row 164 5 f1 false (Et l), .row 164 5 f2 false (Et [x])]) (D := Unit) (F := fun _ => .own 0 (l.length + 1)) (S := fun _ => [.row 164 5 false false (Et (l ++ [x])), .row 164 5 f2 false (Et [x])]) (Q := fun _ => True) Tryz.func266 rfl rfl rfl (by simp [Tryz.ntmps266]) (by
  refine VX.R ?_
  refine VX.H ok0 ?_
  refine VX.R <| .seq ?_
  refine VX.R ?_
  refine VX.C (fun h16 => ?_) (fun h16 => ?_)
  ·simp [go_sem] at h16
  refine VX.skip <| .R <| .seq ?_
  refine VX.R ?_
  refine VX.C (fun h22 => ?_) (fun h22 => ?_)
  rotate_left
  ·simp [go_sem] at h22
  refine VX.H ok0 ?_
  refine VX.dull 0 rfl ?_
  simp [go_sem]
  refine VX.ret ⟨(), Nx [0, 1] (by simp [go_sem]) (by decide) (fun id h => by
   match id, h with
   | 0, _ => rfl
   | 1, _ => rfl
   | id + 2, h => exact absurd h (by simp)) (by simp [go_sem]) ?_, trivial⟩
  repeat' (first | exact .nil | refine .cons (by simp [go_sem]) ?_))
 exact h
theorem Af0 (l : List Cg) (x : Cg) (i : Nat) (hi : i <= l.length) (hl : l.length <= 1000) (f1 f2 : Bool) : PP 266 [.row 164 5 f1 false (Et l), .row 164 5 f2 false (Et [x])] [.own 0 l.length, .li i, .own 1 1] [.row 164 5 false false (Et (l.take i ++ x :: l.drop i)), .row 164 5 f2 false (Et [x])] (.own 0 (l.length + 1)) := by
 by_cases h : i < l.length
 ·exact Ad1 l x i h hl f1 f2
 obtain rfl : i = l.length := by omega
 rw [List.take_length, List.drop_length]
 exact Ad2 l x hl f1 f2
theorem Wa (l : List Cg) (fid : FuncId) (caps : List AV) (p : Cg -> Bool) (hl : l.length <= 1000000) (hg : ∀ r ∈ l, r.legs.length <= 1000000) (hc : Vp caps) (hp : ∀ t, PP fid [] (t.g :: caps) [] (.lb (p t))) : PP 168 [] [.mReq l, .fn fid caps] [.row 164 5 false false (Et (l.filter p))] (.own 0 (l.filter p).length) := by
 refine B0 Tryz.func168 ?_
 refine VW.S (fun K kk => by simp [go_sem, hc.pass, hc.passC, hc.bor, hc.low]; exact kk) ?_
 refine VW.S (fun K kk => by simp [go_sem, hc.pass, hc.passC, hc.bor, hc.low]; exact kk) <| .seq ?_
 refine VW.S (fun K kk => by simp [go_sem, hc.pass, hc.passC, hc.bor, hc.low]; exact kk) <| .block ?_
 refine VW.own0 5 164 5 (by decide) (k' := 5) (by simp [go_sem]) ?_
 simp [go_sem]
 refine VW.range l.length (fun i1 => ⟨[(1, .fn fid caps), (5, .own 0 ((l.take i1).filter p).length), (8, .mReq l), (9, .li l.length), (10, .li i1)], [.row 164 5 false false (Et ((l.take i1).filter p))]⟩) ⟨[0], Bp (by decide) ?_ ?_, by simp⟩ fun i1 hi1 => ?_
 ·simp [go_sem, hc.ren]
 ·simp [go_sem, hc.ren]
 refine VW.S (fun K kk => by simp [go_sem, hc.pass, hc.passC, hc.bor, hc.low]; exact kk) <| .seq ?_
 refine VW.C ?_ ?_ <;> intro h11 <;> simp [go_sem] at h11
 ·have hx : l[i1]? = some l[i1] := Aa (by omega)
  generalize l[i1] = e at hx
  have hf : ((l.take i1).filter p).length <= i1 := Ak (Az _ _) (by simp; omega)
  have ht : List.take (i1 + 1) l = List.take i1 l ++ [e] := by rw [List.take_add_one, hx]; rfl
  refine VW.skip <| .seq <| .block <| .H hx ?_
  refine VW.S (fun K kk => by simp [go_sem, hc.pass, hc.passC, hc.bor, hc.low]; refine .lo (hp e) (by simp [go_sem, hc.low]) (by simp [AV.cln, Cp]) ?_; simp [go_sem, hc.pass, hc.passC, hc.bor, hc.low]; exact kk) ?_
  refine VW.C ?_ ?_ <;> intro h16 <;> simp [go_sem] at h16
  ·refine VW.S1 (fun K kk => by simp [go_sem, hc.pass, hc.passC, hc.bor, hc.low]; refine .l (Qy e (hg e (Ac hx))) ?_; simp [go_sem, hc.pass, hc.passC, hc.bor, hc.low]; (repeat first | exact kk | refine aK ?_)) ?_
   refine VW.S1 (fun K kk => by simp [go_sem, hc.pass, hc.passC, hc.bor, hc.low]; exact kk) ?_
   refine ⟨by omega, [0], Bp (by decide) ?_ ?_, by simp⟩
   ·simp [go_sem, Bq ((i1 : Int) + 1), hc.ren, ht, List.filter_append, h11, h16]
   simp [go_sem, hc.ren, ht, List.filter_append, h11, h16]
  refine VW.skip <| .S1 (fun K kk => by simp [go_sem, hc.pass, hc.passC, hc.bor, hc.low]; exact kk) ?_
  refine ⟨by omega, [0], Bp (by decide) ?_ ?_, by simp⟩
  ·simp [go_sem, Bq ((i1 : Int) + 1), hc.ren, ht, List.filter_append, h11, h16]
  simp [go_sem, hc.ren, ht, List.filter_append, h11, h16]
 refine VW.exit <| .S (fun K kk => by simp [go_sem, hc.pass, hc.passC, hc.bor, hc.low]; exact kk) ?_
 have he : l.take i1 = l := Bf (by omega)
 simp only [he]
 exact .ret (rW ok0 [0])
theorem Ai0 (l : List Cg) (hl : l.length <= 1000000) (hg : ∀ r ∈ l, r.legs.length <= 1000000) : PP 168 [] [.mReq l, .fn 193 []] [.row 164 5 false false (Et l)] (.own 0 l.length) := by
 have h := Wa l _ [] (fun _ => true) hl hg Pp (Hs)
 rwa [show l.filter (fun _ => true) = l by simp] at h
theorem Lx (l : List Cg) (hl : l.length <= 1000000) (hg : ∀ r ∈ l, r.legs.length <= 1000000) : PP 171 [] [.mReq l] [.row 164 5 false false (Et l)] (.own 0 l.length) := by
 refine B0 Tryz.func171 ?_
 refine VW.R ?_
 refine VW.S (fun K kk => by simp [go_sem]; refine .lo (Ai0 l hl hg) (by simp [go_sem]) (by simp [AV.cln, Cp]) ?_; simp [go_sem]; exact kk) ?_
 exact .ret (rW ok0 [0])
theorem Ac6 {l : List Cg} {x : Cg} {n : Nat} (hn : n <= l.length) (h4 : l.length < 4) (hg : ∀ r ∈ l, r.legs.length <= 1000000) (hx : x.legs.length <= 1000000) : (l.take n ++ x :: l.drop n).length <= l.length + 1 /\ (l.take n ++ x :: l.drop n).length <= 4 /\ ∀ r ∈ l.take n ++ x :: l.drop n, r.legs.length <= 1000000 := by
 refine ⟨by simp; omega, by simp; omega, fun r hr => ?_⟩
 rcases A0.1 hr with h | h
 ·exact hg r (Aq h)
 rcases List.mem_cons.1 h with rfl | h
 ·exact hx
 exact hg r (Ay h)
theorem K4 (l : List Cg) (q : Int) (id : Int) (v : Eg) (life : Int) (legs : List Dp) (now : Int) (hl : l.length <= 4) (hg : ∀ r ∈ l, r.legs.length <= 1000000) (hgl : legs.length <= 1000000) : Ct 241 [.mReq l, .li q, .li id, v.g, .li life, .mLeg legs, .li now] (fun d : List Cg × Int => .tup [.mReq d.1, .li d.2]) (fun d => d.1.length <= l.length + 1 /\ d.1.length <= 4 /\ ∀ r ∈ d.1, r.legs.length <= 1000000) := by
 refine Cb Tryz.func241 ?_
 have hlM : l.length <= 1000000 := by omega
 refine VX.R <| .seq ?_
 refine VX.region_seq (by rfl) fun K1 hK1 => ?_
 simp [go_sem]
 obtain ⟨Y1, cY1, qY1⟩ := got (Ma l q (by first | assumption | omega) (by first | assumption | omega))
 refine .l cY1 ?_
 simp [go_sem]
 refine Bz (by simp [go_sem]) (by simp [go_sem]) ?_
 simp [go_sem]
 first | refine .lo (Hz v.id) rfl (by simp [AV.cln, Cp]) ?_ | refine .skip ?_
 simp [go_sem]
 refine Bz (by simp [go_sem]) (by simp [go_sem]) ?_
 simp [go_sem]
 first | refine .lo (Qz v.cls) rfl (by simp [AV.cln, Cp]) ?_ | refine .skip ?_
 simp [go_sem]
 refine Bz (by simp [go_sem]) (by simp [go_sem]) ?_
 simp [go_sem]
 first | refine .lo (Rq now) rfl (by simp [AV.cln, Cp]) ?_ | refine .skip ?_
 simp [go_sem]
 refine hK1 _ ?_; clear hK1
 refine VX.C ?_ ?_ <;> intro h38 <;> simp [go_sem] at h38
 ·refine VX.R ?_
  exact .ret (fin ok0 ([], 1) (by first | exact ⟨Ae _, Ae _, fun r h => by cases h⟩ | exact Ac6 (by omega) (by omega) hg hgl))
 refine VX.skip <| .seq ?_
 refine VX.region_seq (by rfl) fun K1 hK1 => ?_
 simp [go_sem]
 refine .l (Hz id) ?_
 simp [go_sem]
 refine Bz (by simp [go_sem]) (by simp [go_sem]) ?_
 simp [go_sem]
 obtain ⟨Y2, cY2, qY2⟩ := got (Mp legs (by first | assumption | omega))
 first | refine .lo cY2 rfl (by simp [AV.cln, Cp]) ?_ | refine .skip ?_
 simp [go_sem]
 refine hK1 _ ?_; clear hK1
 refine VX.C ?_ ?_ <;> intro h54 <;> simp [go_sem] at h54
 ·refine VX.R ?_
  exact .ret (fin ok0 ([], 8) (by first | exact ⟨Ae _, Ae _, fun r h => by cases h⟩ | exact Ac6 (by omega) (by omega) hg hgl))
 refine VX.skip <| .seq <| .L ok0 (Mj l id (by first | assumption | omega)) ?_
 refine VX.C ?_ ?_ <;> intro h58 <;> simp [go_sem] at h58
 ·refine VX.R ?_
  exact .ret (fin ok0 ([], 11) (by first | exact ⟨Ae _, Ae _, fun r h => by cases h⟩ | exact Ac6 (by omega) (by omega) hg hgl))
 refine VX.skip <| .seq <| .R ?_
 refine VX.C ?_ ?_ <;> intro h67 <;> simp [go_sem] at h67
 ·refine VX.R ?_
  exact .ret (fin ok0 ([], 14) (by first | exact ⟨Ae _, Ae _, fun r h => by cases h⟩ | exact Ac6 (by omega) (by omega) hg hgl))
 refine VX.skip <| .R <| .seq <| .block ?_
 refine VX.whileE (fun (y1 : Int) => ⟨[(0, .mReq l), (2, .li id), (4, .li life), (5, .mLeg legs), (6, .li now), (10, .ptr 0 0), (16, .li y1)], [.box 216 [.li v.id, .li v.cls]]⟩) (fun y1 => 0 <= y1 /\ y1 <= l.length) (fun y1 => (l.length - y1).toNat) (0) (wk ok0 [0]) (⟨by omega, by omega⟩) fun y1 hy1 => ?_
 refine VX.seq ?_
 by_cases hc10 : y1 < l.length
 ·obtain ⟨e1, H1⟩ := gx l y1.toNat
  refine VX.H (cj2 hc10 H1) ?_
  refine VX.C ?_ ?_ <;> intro h80 <;> simp [go_sem] at h80
  ·refine VX.skip <| .block ?_
   have hw2 := Bq (y1 + 1 : Int)
   refine VX.H1 (cj3 hc10 H1 hw2) ?_
   refine ⟨((y1 + 1)), ?_, ?_, [0], Bp (by decide) ?_ ?_, by simp⟩
   ·omega
   ·exact ⟨by omega, by omega⟩
   all_goals simp [go_sem, hc10, H1, hw2]
  refine VX.exit ?_
  obtain ⟨ix, hix⟩ : ∃ ix : Nat, y1 = ix := ⟨y1.toNat, by omega⟩
  subst hix
  have hln : (l.length + 1 = min ix l.length + (l.length - ix + 1)) = True := eq_true (by omega)
  refine VX.E (fun K kk => by simp [go_sem, hc10, H1, hln]; refine .lo (B8.froz (Js _ (by first | (simp; omega) | (simp; assumption)) (by first | (simp [T.plain, Dp.t]; done) | (rw [Am]; intro e he; repeat (first | replace he := Aq he | replace he := Ay he); obtain ⟨x, _, rfl⟩ := A4.1 he; rfl)))) rfl (by simp [AV.cln, Cp]) ?_; simp [go_sem, hc10, H1, hln]; exact kk) ?_
  refine VX.E (fun K kk => by simp [go_sem, hc10, H1, hln]; refine .l (Lx l (by first | assumption | omega) (by first | assumption | omega)) ?_; simp [go_sem, hc10, H1, hln]; refine .o [2, 3] (Af0 l ⟨id, v.id, v.cls, IntKind.i64.wrap (now + life), legs⟩ ix (by omega) (by omega) false true) ?_; simp [go_sem, hc10, H1, hln]; exact kk) ?_
  refine VX.Z ok0 2 ?_
  exact .ret (fin (cj3 hc10 H1 hln) ((l.take ix ++ ⟨id, v.id, v.cls, IntKind.i64.wrap (now + life), legs⟩ :: l.drop ix), 0) (by first | exact ⟨Ae _, Ae _, fun r h => by cases h⟩ | exact Ac6 (by omega) (by omega) hg hgl))
 refine VX.H hc10 ?_
 refine VX.C ?_ ?_ <;> intro h80 <;> simp [go_sem] at h80
 refine VX.exit ?_
 obtain ⟨ix, hix⟩ : ∃ ix : Nat, y1 = ix := ⟨y1.toNat, by omega⟩
 subst hix
 have hln : (l.length + 1 = min ix l.length + (l.length - ix + 1)) = True := eq_true (by omega)
 refine VX.E (fun K kk => by simp [go_sem, hc10, hln]; refine .lo (B8.froz (Js _ (by first | (simp; omega) | (simp; assumption)) (by first | (simp [T.plain, Dp.t]; done) | (rw [Am]; intro e he; repeat (first | replace he := Aq he | replace he := Ay he); obtain ⟨x, _, rfl⟩ := A4.1 he; rfl)))) rfl (by simp [AV.cln, Cp]) ?_; simp [go_sem, hc10, hln]; exact kk) ?_
 refine VX.E (fun K kk => by simp [go_sem, hc10, hln]; refine .l (Lx l (by first | assumption | omega) (by first | assumption | omega)) ?_; simp [go_sem, hc10, hln]; refine .o [2, 3] (Af0 l ⟨id, v.id, v.cls, IntKind.i64.wrap (now + life), legs⟩ ix (by omega) (by omega) false true) ?_; simp [go_sem, hc10, hln]; exact kk) ?_
 refine VX.Z ok0 2 ?_
 exact .ret (fin (cj2 hc10 hln) ((l.take ix ++ ⟨id, v.id, v.cls, IntKind.i64.wrap (now + life), legs⟩ :: l.drop ix), 0) (by first | exact ⟨Ae _, Ae _, fun r h => by cases h⟩ | exact Ac6 (by omega) (by omega) hg hgl))
noncomputable def E6 (l : List Cg) (q : Int) (id : Int) (v : Eg) (life : Int) (legs : List Dp) (now : Int) (hl : l.length <= 4) (hg : ∀ r ∈ l, r.legs.length <= 1000000) (hgl : legs.length <= 1000000) : List Cg × Int := (got (K4 l q id v life legs now hl hg hgl)).choose
theorem Wb (l : List Cg) (q : Int) (id : Int) (v : Eg) (life : Int) (legs : List Dp) (now : Int) (hl : l.length <= 4) (hg : ∀ r ∈ l, r.legs.length <= 1000000) (hgl : legs.length <= 1000000) : PP 241 [] [.mReq l, .li q, .li id, v.g, .li life, .mLeg legs, .li now] [] (.tup [.imm false 5 (Et (E6 l q id v life legs now hl hg hgl).1), .lit (.int .i64 (E6 l q id v life legs now hl hg hgl).2)]) := (got (K4 l q id v life legs now hl hg hgl)).choose_spec.1
theorem Fw (l : List Cg) (q : Int) (id : Int) (v : Eg) (life : Int) (legs : List Dp) (now : Int) (hl : l.length <= 4) (hg : ∀ r ∈ l, r.legs.length <= 1000000) (hgl : legs.length <= 1000000) : (E6 l q id v life legs now hl hg hgl).1.length <= l.length + 1 /\ (E6 l q id v life legs now hl hg hgl).1.length <= 4 /\ ∀ r ∈ (E6 l q id v life legs now hl hg hgl).1, r.legs.length <= 1000000 := (got (K4 l q id v life legs now hl hg hgl)).choose_spec.2
end Go.Proofs.YtkkimgjinbaemaaGreat
