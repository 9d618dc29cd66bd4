/- The walk. -/
import Derived.Test.YtkkimgjinbaemaaGreatKbt
namespace Go.Proofs.YtkkimgjinbaemaaGreat
open Go.RowKit
set_option linter.unusedVariables false
set_option linter.unusedSimpArgs false
set_option maxRecDepth 100000
set_option maxHeartbeats 4000000
theorem Afi (s : Qm) (b : List Int) (h1 : s.buf.length <= 256) (h2 : b.length <= 1000000) : Ct 62 [s.g, .mY b] (fun d : Qm × Bool => .tup [d.1.g, .lb d.2]) (fun d => d.1.buf.length <= 256 /\ (By s.buf -> By b -> By d.1.buf)) := by
 refine Cb Tryz.func62 ?_
 have ht : List.take b.length (tY b) = tY b := by rw [Bf (by simp)]
 have hnn : ¬ (256 - (s.buf.length : Int) < 0) := by omega
 refine VX.H (cj2 hnn ht) ?_
 by_cases hc1 : 256 - (s.buf.length : Int) < b.length
 ·have hw1 := Bq (256 - s.buf.length : Int)
  refine VX.H (cj4 hnn ht hc1 hw1) ?_
  have hw2 := Bq (s.buf.length + (256 - s.buf.length) : Int)
  refine VX.H (cj5 hnn ht hc1 hw1 hw2) ?_
  refine VX.H (cj5 hnn ht hc1 hw1 hw2) ?_
  refine VX.H (cj5 hnn ht hc1 hw1 hw2) ?_
  refine VX.H (cj5 hnn ht hc1 hw1 hw2) ?_
  refine VX.Z ok0 2 ?_
  exact .ret (fin (cj5 hnn ht hc1 hw1 hw2) (⟨((List.replicate 0 0) ++ s.buf) ++ (b.take (256 - s.buf.length)), s.gar⟩, (((256 - s.buf.length) : Int) == b.length)) ⟨by simp; omega, fun hs hb x hx => by simp only [A0, List.replicate_zero, A8, false_or] at hx; rcases hx with h | h; exact hs x h; first | exact hb x (Aq h) | exact hb x h⟩)
 have hw3 := Bq (256 - s.buf.length : Int)
 refine VX.H (cj4 hnn ht hc1 hw3) ?_
 have hw4 := Bq (s.buf.length + b.length : Int)
 refine VX.H (cj5 hnn ht hc1 hw3 hw4) ?_
 refine VX.H (cj5 hnn ht hc1 hw3 hw4) ?_
 refine VX.H (cj5 hnn ht hc1 hw3 hw4) ?_
 refine VX.H (cj5 hnn ht hc1 hw3 hw4) ?_
 refine VX.Z ok0 2 ?_
 exact .ret (fin (cj5 hnn ht hc1 hw3 hw4) (⟨((List.replicate 0 0) ++ s.buf) ++ (b.take b.length), s.gar⟩, ((b.length : Int) == b.length)) ⟨by simp; omega, fun hs hb x hx => by simp only [A0, List.replicate_zero, A8, false_or] at hx; rcases hx with h | h; exact hs x h; first | exact hb x (Aq h) | exact hb x h⟩)
theorem Rm (s : Cn) : Ct 40 [s.g] (fun d : Cn => d.g) (fun d => d.st.buf.length <= 256 /\ By d.st.buf) := by
 refine Cb Tryz.func40 ?_
 iterate 2 refine VX.R ?_
 exact .ret (fin ok0 ⟨false, false, ⟨[], false⟩⟩ ⟨Ae _, fun x hx => by cases hx⟩)
noncomputable def Jx (s : Cn) : Cn := (got (Rm s)).choose
theorem Af3 (s : Cn) : PP 40 [] [s.g] [] (.agg ((Jx s).a false)) := (got (Rm s)).choose_spec.1
theorem Agv (s : Cn) : (Jx s).st.buf.length <= 256 /\ By (Jx s).st.buf := (got (Rm s)).choose_spec.2
theorem Rl (s : Cn) (h1 : s.st.buf.length <= 256) : Ct 39 [s.g] (fun d : Cn => d.g) (fun d => d.st.buf.length <= 256 /\ (By s.st.buf -> By d.st.buf) /\ d.op = true) := by
 refine Cb Tryz.func39 ?_
 have h1M : s.st.buf.length <= 1000000 := by omega
 refine VX.R <| .seq ?_
 refine VX.R ?_
 refine VX.C ?_ ?_ <;> intro h4 <;> simp [go_sem] at h4
 ·refine VX.L ok0 (H0 s h1M) ?_
  exact .ret (fin ok0 s (by first | exact ⟨h1, fun h => h, h4⟩ | exact ⟨Ae _, (fun _ x hx => by cases hx), rfl⟩))
 refine VX.skip <| .R ?_
 exact .ret (fin ok0 ⟨true, false, ⟨[], false⟩⟩ (by first | exact ⟨h1, fun h => h, h4⟩ | exact ⟨Ae _, (fun _ x hx => by cases hx), rfl⟩))
noncomputable def Ev (s : Cn) (h1 : s.st.buf.length <= 256) : Cn := (got (Rl s h1)).choose
theorem Af2 (s : Cn) (h1 : s.st.buf.length <= 256) : PP 39 [] [s.g] [] (.agg ((Ev s h1).a false)) := (got (Rl s h1)).choose_spec.1
theorem Xj (s : Cn) (h1 : s.st.buf.length <= 256) : (Ev s h1).st.buf.length <= 256 /\ (By s.st.buf -> By (Ev s h1).st.buf) /\ (Ev s h1).op = true := (got (Rl s h1)).choose_spec.2
theorem Rk (s : Cn) (b : List Int) (h1 : s.st.buf.length <= 256) (h2 : b.length <= 1000000) : Ct 41 [s.g, .mY b] (fun d : Cn => d.g) (fun d => d.st.buf.length <= 256 /\ (By s.st.buf -> By b -> By d.st.buf)) := by
 refine Cb Tryz.func41 ?_
 obtain ⟨Y1, cY1, qY1⟩ := got (Afi s.st b h1 h2)
 have hq := qY1
 have hv := cY1
 generalize Y1 = G at hq hv
 refine VX.R <| .seq ?_
 refine VX.R ?_
 refine VX.C ?_ ?_ <;> intro h9 <;> simp [go_sem] at h9
 ·refine VX.L ok0 (H0 s (by omega)) ?_
  exact .ret (fin ok0 s (by first | exact ⟨h1, fun h _ => h⟩ | exact hq))
 refine VX.skip <| .L ok0 (hv) ?_
 refine VX.R <| .seq ?_
 refine VX.R ?_
 refine VX.C ?_ ?_ <;> intro h22 <;> simp [go_sem] at h22
 ·refine VX.R1 ?_
  refine VX.R ?_
  exact .ret (fin ok0 ⟨s.op, true, G.1⟩ (by first | exact ⟨h1, fun h _ => h⟩ | exact hq))
 refine VX.skip <| .R ?_
 exact .ret (fin ok0 ⟨s.op, s.dr, G.1⟩ (by first | exact ⟨h1, fun h _ => h⟩ | exact hq))
noncomputable def Jw (s : Cn) (b : List Int) (h1 : s.st.buf.length <= 256) (h2 : b.length <= 1000000) : Cn := (got (Rk s b h1 h2)).choose
theorem Af1 (s : Cn) (b : List Int) (h1 : s.st.buf.length <= 256) (h2 : b.length <= 1000000) : PP 41 [] [s.g, .mY b] [] (.agg ((Jw s b h1 h2).a false)) := (got (Rk s b h1 h2)).choose_spec.1
theorem Agu (s : Cn) (b : List Int) (h1 : s.st.buf.length <= 256) (h2 : b.length <= 1000000) : (Jw s b h1 h2).st.buf.length <= 256 /\ (By s.st.buf -> By b -> By (Jw s b h1 h2).st.buf) := (got (Rk s b h1 h2)).choose_spec.2
def Ahs (s : Cn) : Prop := s.st.buf.length <= 256 /\ By s.st.buf
structure Ns (b : Hd) : Prop where
  city : Hj b.city
  n : b.sess.length <= 8
  ses : ∀ s ∈ b.sess, Ahs s
theorem Ns.b {b : Hd} (h : Ns b) : As6 b := ⟨h.city.b, Ak h.n (by decide), fun t ht => Ak (h.ses t ht).1 (by decide)⟩
theorem Afn (c : Dy) (a : Int) (hl : c.ags.length <= 4) (hA : ∀ x ∈ c.ags, 1 <= x.se /\ x.se <= 2) (ha : a = c.ags.length) : Ct 30 [c.g, .li a] (fun d : Int => .li d) (fun d => 0 <= d /\ d <= 8 /\ d = (c.ags.map TAg.se).sum) := by
 refine Cb Tryz.func30 ?_
 refine VX.R ?_
 refine VX.R <| .seq ?_
 refine VX.R <| .block ?_
 refine VX.rangeE c.ags.length (fun i1 (y1 : Int) => ⟨[(1, .li a), (5, .li y1), (9, .mAg c.ags), (10, .li c.ags.length), (11, .li i1)], []⟩) (fun i1 y1 => (i1 : Int) <= y1 /\ y1 <= 2 * i1 /\ y1 = ((c.ags.take i1).map TAg.se).sum) (0) (wk ok0 []) (⟨by simp, by simp, rfl⟩) fun i1 y1 hi1 hy1 => ?_
 refine VX.R <| .seq ?_
 refine VX.C ?_ ?_ <;> intro h12 <;> simp [go_sem] at h12
 ·refine VX.skip <| .seq <| .block ?_
  obtain ⟨e1, H1⟩ := gx c.ags i1
  refine VX.H H1 <| .seq ?_
  have hA1 := hA e1 (Ac H1)
  refine VX.H H1 ?_
  refine VX.C ?_ ?_ <;> intro h18 <;> simp [go_sem] at h18
  ·exfalso; omega
  refine VX.skip ?_
  have hw2 := Bq (y1 + e1.se : Int)
  refine VX.H1 (cj2 H1 hw2) ?_
  refine VX.H1 (cj2 H1 hw2) ?_
  exact ⟨by omega, ((y1 + e1.se)), ⟨by omega, by omega, by rw [List.take_add_one, H1]; simp only [List.map_append, List.sum_append, Option.toList_some, List.map_cons, List.map_nil, List.sum_cons, List.sum_nil]; omega⟩, wk (cj3 (Bq ((i1 : Int) + 1)) H1 hw2) []⟩
 refine VX.exit <| .R ?_
 exact .ret (fin ok0 y1 ⟨by omega, by omega, by have h := hy1.2.2; rwa [Bf (by omega)] at h⟩)
theorem P3 (c : Dy) (hb : Yw c) (hp : L4 c = true) (hJ : ∀ j ∈ c.juns, Ln j /\ j.phs.length <= 8) (hA : ∀ a ∈ c.ags, a.sec.length <= 1000000 /\ a.lims.length <= 1000000 /\ a.rq <= 4) (hl1 : c.juns.length <= 4) (hl2 : c.ags.length <= 4) (hS : ∀ x ∈ c.ags, 1 <= x.se /\ x.se <= 2) : Ct 12 [c.g] (fun d : Hd => d.g) (fun d => Ns d /\ d.city.cfg = c /\ d.city.now = 0 /\ (d.sess.length : Int) = (c.ags.map TAg.se).sum /\ ∀ s ∈ d.sess, s = ⟨false, false, ⟨[], false⟩⟩) := by
 refine Cb Tryz.func12 ?_
 obtain ⟨Y1, cY1, qY1⟩ := got (Afl c hb hp hJ hA hl1 hl2)
 have hNv := cY1
 have hNq := qY1
 generalize Y1 = N at hNv hNq
 have hNr := hNq.1.ref
 obtain ⟨Y2, cY2, qY2⟩ := got (Afn c c.ags.length hl2 hS rfl)
 have hBv := cY2
 have hBq := qY2
 generalize Y2 = B at hBv hBq
 refine VX.R ?_
 refine VX.L ok0 (hNv) <| .seq ?_
 refine VX.R ?_
 refine VX.C ?_ ?_ <;> intro h10 <;> simp [go_sem, hNr] at h10
 refine VX.L1 ok0 (hBv) ?_
 refine VX.R ?_
 refine VX.Z ok0 3 ?_
 exact .ret (fin ok0 ⟨N, List.replicate B.toNat ⟨false, false, ⟨[], false⟩⟩⟩ ⟨⟨hNq.1, by simp; omega, fun s hs => by have := List.eq_of_mem_replicate hs; subst this; exact ⟨Ae _, fun x hx => by cases hx⟩⟩, hNq.2.1, hNq.2.2, by simp; omega, fun s hs => List.eq_of_mem_replicate hs⟩)
noncomputable def Da (c : Dy) (hb : Yw c) (hp : L4 c = true) (hJ : ∀ j ∈ c.juns, Ln j /\ j.phs.length <= 8) (hA : ∀ a ∈ c.ags, a.sec.length <= 1000000 /\ a.lims.length <= 1000000 /\ a.rq <= 4) (hl1 : c.juns.length <= 4) (hl2 : c.ags.length <= 4) (hS : ∀ x ∈ c.ags, 1 <= x.se /\ x.se <= 2) : Hd := (got (P3 c hb hp hJ hA hl1 hl2 hS)).choose
theorem Ad8 (c : Dy) (hb : Yw c) (hp : L4 c = true) (hJ : ∀ j ∈ c.juns, Ln j /\ j.phs.length <= 8) (hA : ∀ a ∈ c.ags, a.sec.length <= 1000000 /\ a.lims.length <= 1000000 /\ a.rq <= 4) (hl1 : c.juns.length <= 4) (hl2 : c.ags.length <= 4) (hS : ∀ x ∈ c.ags, 1 <= x.se /\ x.se <= 2) : PP 12 [] [c.g] [] (.agg ((Da c hb hp hJ hA hl1 hl2 hS).a false)) := (got (P3 c hb hp hJ hA hl1 hl2 hS)).choose_spec.1
theorem Mw (c : Dy) (hb : Yw c) (hp : L4 c = true) (hJ : ∀ j ∈ c.juns, Ln j /\ j.phs.length <= 8) (hA : ∀ a ∈ c.ags, a.sec.length <= 1000000 /\ a.lims.length <= 1000000 /\ a.rq <= 4) (hl1 : c.juns.length <= 4) (hl2 : c.ags.length <= 4) (hS : ∀ x ∈ c.ags, 1 <= x.se /\ x.se <= 2) : Ns (Da c hb hp hJ hA hl1 hl2 hS) /\ (Da c hb hp hJ hA hl1 hl2 hS).city.cfg = c /\ (Da c hb hp hJ hA hl1 hl2 hS).city.now = 0 /\ ((Da c hb hp hJ hA hl1 hl2 hS).sess.length : Int) = (c.ags.map TAg.se).sum /\ ∀ s ∈ (Da c hb hp hJ hA hl1 hl2 hS).sess, s = ⟨false, false, ⟨[], false⟩⟩ := (got (P3 c hb hp hJ hA hl1 hl2 hS)).choose_spec.2
theorem Apv {l : List Hc} {b : List Cn} {i : Nat} {K : Hc} {sk : Cn} (h : ∀ (k : Nat) (s : Cn) (p : Hc), k < i -> b[k]? = some s -> l[k]? = some p -> p.op = s.op) (hsk : b[i]? = some sk) (hK : K.op = sk.op) (hi : i < l.length) : ∀ (k : Nat) (s : Cn) (p : Hc), k < i + 1 -> b[k]? = some s -> (l.set i K)[k]? = some p -> p.op = s.op := fun k s p hk hs hp => by
 by_cases e : k = i
 ·subst e
  rw [Bg hi] at hp
  rw [hsk] at hs
  injection hp with hp
  injection hs with hs
  rw [<- hp, <- hs]
  exact hK
 rw [A9 (fun e' => e e'.symm)] at hp
 exact h k s p (by omega) hs hp
theorem Apm {l : List (List Int)} {s : List (List B3)} {i : Nat} {F : List Int} {e : List B3} (h : ∀ (k : Nat) (q : List B3) (o : List Int), k < i -> s[k]? = some q -> l[k]? = some o -> o = (q.map Vi).flatten) (he : s[i]? = some e) (hF : F = (e.map Vi).flatten) (hi : i < l.length) : ∀ (k : Nat) (q : List B3) (o : List Int), k < i + 1 -> s[k]? = some q -> (l.set i F)[k]? = some o -> o = (q.map Vi).flatten := fun k q o hk hs hp => by
 by_cases e' : k = i
 ·subst e'
  rw [Bg hi] at hp
  rw [he] at hs
  injection hp with hp
  injection hs with hs
  rw [<- hp, <- hs]
  exact hF
 rw [A9 (fun e2 => e' e2.symm)] at hp
 exact h k q o (by omega) hs hp
theorem Aqw {n : Int} {q : List B3} (h : StQ n q) (hv : (He n).2 = 0) : 10 < ((q.map Vi).flatten).length := by
 obtain ⟨m, hm, hP⟩ := h hv
 have h1 := Aq3 (f := Vi) hm
 have h2 := Apz hP
 have h3 := Akm hv
 omega
def Arf (n : Int) (b : List Cn) (s : List (List Int)) : Prop := ∀ (k : Nat) (x : Cn) (o : List Int), b[k]? = some x -> x.op = true -> s[k]? = some o -> (He n).2 = 0 -> 10 < o.length
theorem Apn {n : Int} {b : List Cn} {l : List Hc} {s : List (List B3)} {t : List (List Int)} (h1 : ∀ (k : Nat) (x : Cn) (p : Hc), k < b.length -> b[k]? = some x -> l[k]? = some p -> p.op = x.op) (hl : l.length = b.length) (h2 : Aa6 n l s) (h3 : ∀ (k : Nat) (q : List B3) (o : List Int), k < s.length -> s[k]? = some q -> t[k]? = some o -> o = (q.map Vi).flatten) (ht : t.length = s.length) : Arf n b t := fun k x o hx hop ho hv => by
 have hk := (Ab.1 hx).1
 have hk2 := (Ab.1 ho).1
 have hp : l[k]? = some l[k] := Aa (by omega)
 have hq : s[k]? = some s[k] := Aa (by omega)
 rw [h3 k _ o (by omega) hq ho]
 exact Aqw (h2 k _ _ hp ((h1 k x _ hk hx hp).trans hop) hq) hv
theorem Xx (b : Hd) (hb : Ns b) : Cx 44 [.row 100 4 false false (Tm b.sess)] [.agg [.mJun b.city.cfg.juns, .mAg b.city.cfg.ags, .li b.city.cfg.per, .li b.city.cfg.cap, .li b.city.cfg.hold, .li b.city.cfg.lock, .lb b.city.ref, .li b.city.now, .mDesk b.city.desks, .mSig b.city.sigs, .mSvc b.city.svcs, .mI b.city.stuck, .mView b.city.views, .own 0 b.sess.length]] (fun d : Hd × J3 => [.row 100 4 false true (Tm d.1.sess)]) (fun d => .tup [d.1.g, d.2.g]) (fun d => Ns d.1 /\ d.1.city.cfg = b.city.cfg /\ d.1.sess.length = b.sess.length /\ (d.2.ses.length : Int) = Fk b.city.cfg.ags b.city.cfg.ags.length /\ d.1.city.now = IntKind.i64.wrap ((if 1073741823 < b.city.now then 1073741823 else b.city.now) + 1) /\ Arf d.1.city.now b.sess d.2.ses) := by
 refine Pr Tryz.func44 ?_
 have hbn := hb.n
 refine VX.R ?_
 refine VX.H ok0 <| .seq ?_
 refine VX.R <| .block ?_
 refine VX.rangeE b.sess.length (fun i1 (y1 : (List Cn) × (List Hc)) => ⟨[(1, .ptr 1 0), (2, .ptr 2 0), (3, .ptr 3 0), (4, .own 4 y1.2.length), (17, .li b.sess.length), (18, .li i1)], [.row 100 4 false false (Tm y1.1), .box 40 [.mJun b.city.cfg.juns, .mAg b.city.cfg.ags, .li b.city.cfg.per, .li b.city.cfg.cap, .li b.city.cfg.hold, .li b.city.cfg.lock, .lb b.city.ref, .li b.city.now, .mDesk b.city.desks, .mSig b.city.sigs, .mSvc b.city.svcs, .mI b.city.stuck, .mView b.city.views, .own 0 y1.1.length], .box 40 [.nil 3, .nil 8, .li 0, .li 0, .li 0, .li 0, .lb false, .li 0, .nil 17, .nil 5, .nil 3, .nil 1, .nil 4, .nil 4], .box 49 [.nil 1, .nil 1], .row 149 2 false false (Ao6 y1.2)]⟩) (fun i1 y1 => y1.1.length = b.sess.length /\ (∀ s ∈ y1.1, Ahs s) /\ y1.2.length = b.sess.length /\ (∀ p ∈ y1.2, Aqc p) /\ (∀ k, i1 <= k -> y1.1[k]? = b.sess[k]?) /\ ∀ (k : Nat) (x : Cn) (p : Hc), k < i1 -> b.sess[k]? = some x -> y1.2[k]? = some p -> p.op = x.op) (b.sess, List.replicate b.sess.length ⟨false, []⟩) (wk ok0 [0, 1, 2, 3, 4]) (⟨rfl, hb.ses, by simp, fun p hp => by have := List.eq_of_mem_replicate hp; subst this; exact ⟨Ae _, fun t ht => by cases ht⟩, fun _ _ => rfl, fun k x p hk => absurd hk (Nat.not_lt_zero _)⟩) fun i1 y1 hi1 hy1 => ?_
 refine VX.R <| .seq ?_
 refine VX.C ?_ ?_ <;> intro h19 <;> simp [go_sem] at h19
 ·refine VX.skip <| .seq <| .block <| .R ?_
  have hl1 := hy1.1
  have hl2 := hy1.2.2.1
  obtain ⟨sk, hsk⟩ : ∃ e, y1.1[i1]? = some e := ⟨_, Aa (by omega)⟩
  have hsq := hy1.2.1 sk (Ac hsk)
  obtain ⟨Y1, cY1, qY1⟩ := got (Ado sk hsq.1 hsq.2)
  have hKv := cY1
  have hKq := qY1
  generalize Y1 = K at hKv hKq
  obtain ⟨e1, H1⟩ := gx y1.2 i1
  refine VX.M1 (cj2 H1 hsk) (hKv) ?_
  refine VX.H1 H1 ?_
  exact ⟨by omega, ((y1.1).set i1 K.1, (y1.2).set i1 K.2), ⟨by simpa using hl1, Sk hy1.2.1 ⟨hKq.2.1, hKq.1⟩, by simpa using hl2, Sk hy1.2.2.2.1 ⟨hKq.2.2.1.1, fun t ht => Ak (hKq.2.2.2 t ht) (by decide)⟩, fun k hk => by rw [A9 (by omega)]; exact hy1.2.2.2.2.1 k (by omega), Apv hy1.2.2.2.2.2 ((hy1.2.2.2.2.1 i1 (Aj _)).symm.trans hsk) hKq.2.2.1.2 (by omega)⟩, wk (cj2 (Bq ((i1 : Int) + 1)) H1) [0, 1, 2, 3, 4]⟩
 refine VX.exit ?_
 have hi2 : y1.2.length <= 1000 := by have := hy1.2.2.1; omega
 obtain ⟨Y2, cY2, qY2⟩ := got (Adl b.city y1.2 hb.city hi2 hy1.2.2.2.1)
 have hTv := cY2
 have hTq := qY2
 generalize Y2 = D at hTv hTq
 refine VX.Z ok0 4 ?_
 refine VX.L ok0 (hTv) ?_
 refine VX.R ?_
 have hnb := Ld b.city.cfg.ags b.city.cfg.ags.length
 have hna := hb.city.na
 have hsl : D.2.ses.length <= 8 := by have := hTq.2.2.1; omega
 have hfl : D.2.feed.length <= 1000 := by have := hTq.2.2.2.2.1; omega
 have hfm : ∀ m ∈ D.2.feed, m.tok.length <= 10000 /\ m.args.length <= 10000 /\ m.data.length <= 10000 := fun m hm => (hTq.2.2.2.2.2.1 m hm).v
 obtain ⟨Y3, cY3, qY3⟩ := got (Qt D.2.feed hfl hfm)
 refine VX.M ok0 cY3 <| .seq ?_
 refine VX.R <| .block ?_
 refine VX.rangeE D.2.ses.length (fun i2 (y2 : (List Cn) × (List (List Int))) => ⟨[(1, .ptr 1 0), (2, .ptr 2 0), (3, .ptr 3 0), (8, .ptr 5 0), (56, .imm false 1 (N8 D.2.ses)), (57, .li D.2.ses.length), (58, .li i2)], [.row 100 4 false false (Tm y2.1), .box 40 [.mJun D.1.cfg.juns, .mAg D.1.cfg.ags, .li D.1.cfg.per, .li D.1.cfg.cap, .li D.1.cfg.hold, .li D.1.cfg.lock, .lb D.1.ref, .li D.1.now, .mDesk D.1.desks, .mSig D.1.sigs, .mSvc D.1.svcs, .mI D.1.stuck, .mView D.1.views, .own 0 y2.1.length], .box 40 [.nil 3, .nil 8, .li 0, .li 0, .li 0, .li 0, .lb false, .li 0, .nil 17, .nil 5, .nil 3, .nil 1, .nil 4, .nil 4], .box 49 [.nil 1, .nil 1], .row 44 1 false false (tYs y2.2), .box 49 [.own 4 y2.2.length, .mY Y3]]⟩) (fun i2 y2 => y2.1 = y1.1 /\ y2.2.length = D.2.ses.length /\ ∀ (k : Nat) (q : List B3) (o : List Int), k < i2 -> D.2.ses[k]? = some q -> y2.2[k]? = some o -> o = (q.map Vi).flatten) (y1.1, List.replicate D.2.ses.length []) (wk ok0 [0, 1, 2, 3, 7, 8]) (⟨rfl, by simp, fun k q o hk => absurd hk (Nat.not_lt_zero _)⟩) fun i2 y2 hi2 hy2 => ?_
 refine VX.R <| .seq ?_
 refine VX.C ?_ ?_ <;> intro h59 <;> simp [go_sem] at h59
 ·refine VX.skip <| .seq <| .block ?_
  obtain ⟨e2, H2⟩ := gx D.2.ses i2
  refine VX.H H2 ?_
  have hl4 := hy2.2.1
  have hfe := hTq.2.2.2.1 _ (Ac H2)
  have hfe1 : e2.length <= 1000 := by omega
  have hfe2 : ∀ m ∈ e2, m.tok.length <= 10000 /\ m.args.length <= 10000 /\ m.data.length <= 10000 := fun m hm => (hfe.2 m hm).v
  obtain ⟨e3, H3⟩ := gx y2.2 i2
  obtain ⟨Y4, cY4, qY4⟩ := got (Qt e2 hfe1 hfe2)
  refine VX.M1 (cj2 H2 H3) cY4 ?_
  refine VX.H1 (cj2 H2 H3) ?_
  exact ⟨by omega, (y2.1, (y2.2).set i2 Y4), ⟨hy2.1, by simpa using hl4, Apm hy2.2.2 H2 qY4 (by omega)⟩, wk (cj3 (Bq ((i2 : Int) + 1)) H2 H3) [0, 1, 2, 3, 4, 5]⟩
 refine VX.exit <| .D ?_
 refine VX.Z ok0 0 ?_
 refine VX.Z ok0 4 ?_
 exact .ret ⟨(⟨D.1, y2.1⟩, ⟨y2.2, Y3⟩), rW ok0 [0], ⟨⟨hTq.1, by dsimp only; rw [hy2.1]; have := hy1.1; omega, by dsimp only; rw [hy2.1]; exact hy1.2.1⟩, hTq.2.1, by dsimp only; rw [hy2.1]; exact hy1.1, by rw [<- hTq.2.2.1]; dsimp only; rw [hy2.2.1], hTq.2.2.2.2.2.2.1, Apn (fun k x p hk => hy1.2.2.2.2.2 k x p (by omega)) hy1.2.2.1 hTq.2.2.2.2.2.2.2 (fun k q o hk => hy2.2.2 k q o (by omega)) hy2.2.1⟩⟩
end Go.Proofs.YtkkimgjinbaemaaGreat
