/- The walk. -/
import Derived.Test.YtkkimgjinbaemaaGreatKas
namespace Go.Proofs.YtkkimgjinbaemaaGreat
open Go.RowKit
set_option linter.unusedVariables false
set_option linter.unusedSimpArgs false
set_option maxRecDepth 100000
set_option maxHeartbeats 4000000
theorem Jp.at {c : Fe} (h : Jp c) (n : Int) : Jp ⟨c.cfg, c.ref, n, c.desks, c.sigs, c.svcs, c.stuck, c.views⟩ := ⟨h.ref, h.jun, h.nj, h.na, h.desks, h.desk, h.sigs, h.sig, h.svcs, h.svc, h.stuck, h.views, h.view, h.vw, h.dl⟩
def Awi (S : Fe) (l : List Gi) (i j : Nat) (r : List (List Dz)) (en : List Gc) (q : List Dz) : Prop := (∃ p, l[(En S.cfg.ags i).toNat + j]? = some p /\ p.op = true /\ Awg S ⟨i, j, En S.cfg.ags i + j⟩ r en q) \/ ((∀ p, l[(En S.cfg.ags i).toNat + j]? = some p -> p.op = false) /\ q = [])
def Ah3 (S : Fe) (l : List Gi) (rp : List (List (List Dz))) (en : List Gc) (i j : Nat) (y : List (List Dz)) : Prop := ∀ (k n : Nat) (a : TAg) (r : List (List Dz)), (k < i \/ k = i /\ n < j) -> S.cfg.ags[k]? = some a -> (n : Int) < Ec a -> rp[k]? = some r -> ∃ q, y[(En S.cfg.ags k).toNat + n]? = some q /\ Awi S l k n r en q
theorem Ah3.app {S : Fe} {l : List Gi} {rp : List (List (List Dz))} {en : List Gc} {i j : Nat} {y : List (List Dz)} {q : List Dz} (h : Ah3 S l rp en i j y) (hy : (y.length : Int) = En S.cfg.ags i + (j : Int)) (hq : ∀ r, rp[i]? = some r -> Awi S l i j r en q) : Ah3 S l rp en i (j + 1) (y ++ [q]) := fun k n a r hk ha hn hr => by
 by_cases e : k = i /\ n = j
 ·obtain ⟨rfl, rfl⟩ := e
  have h0 := (Kc S.cfg.ags k).1
  exact ⟨q, by rw [show (En S.cfg.ags k).toNat + n = y.length by omega]; simp, hq r hr⟩
 obtain ⟨q', h1, h2⟩ := h k n a r (by omega) ha hn hr
 exact ⟨q', by rw [Au (Ab.1 h1).1]; exact h1, h2⟩
theorem Ah3.up {S : Fe} {l : List Gi} {rp : List (List (List Dz))} {en : List Gc} {i j : Nat} {y : List (List Dz)} {g : TAg} (h : Ah3 S l rp en i j y) (hg : S.cfg.ags[i]? = some g) (hj : j = (Ec g).toNat) : Ah3 S l rp en (i + 1) 0 y := fun k n a r hk ha hn hr => h k n a r (by
 by_cases e : k = i
 ·subst e
  rw [hg] at ha
  injection ha with ha
  subst ha
  omega
 omega) ha hn hr
def Awf (c : Fe) (l : List Gi) (d : Fe × U0) : Prop := ∃ rp en, Akx ⟨c.cfg, c.ref, d.1.now, c.desks, c.sigs, c.svcs, c.stuck, c.views⟩ l d.1.desks rp en c.desks.length /\ rp.length = c.desks.length /\ Ah3 d.1 l rp en d.1.cfg.ags.length 0 d.2.ses
structure Auo (c : Fe) (ds : List Du) (y : List Du × List Hk × List Fj × List Int) : Prop where
  f0 : y.1 = ds
  sl : y.2.1.length = c.cfg.juns.length
  sig : ∀ g ∈ y.2.1, g.ctl.lights.length <= 8 /\ g.ctl.nxt.length <= 2
  f2 : y.2.2.1 = c.svcs
  f3 : y.2.2.2 = c.stuck
theorem Auo.city {c : Fe} {ds : List Du} {y : List Du × List Hk × List Fj × List Int} (h : Auo c ds y) (hc : Jp c) (h1 : ds.length = c.desks.length) (h2 : ∀ x ∈ ds, F4 x /\ 1 <= x.aud.length /\ x.aud.length <= 2) (h3 : ∀ (k : Nat) (d : Du) (a : TAg), ds[k]? = some d -> c.cfg.ags[k]? = some a -> (d.aud.length : Int) = Ec a) (n : Int) : Jp ⟨c.cfg, c.ref, n, y.1, y.2.1, y.2.2.1, y.2.2.2, c.views⟩ :=
 ⟨hc.ref, hc.jun, hc.nj, hc.na, by show y.1.length = _; rw [h.f0, h1]; exact hc.desks, by show ∀ d ∈ y.1, _; rw [h.f0]; exact h2, h.sl, h.sig, by show y.2.2.1.length = _; rw [h.f2]; exact hc.svcs, by show ∀ g ∈ y.2.2.1, _; rw [h.f2]; exact hc.svc, by show y.2.2.2.length = _; rw [h.f3]; exact hc.stuck, hc.views, hc.view, hc.vw, by show ∀ (k : Nat) (d : Du) (a : TAg), y.1[k]? = some d -> _; rw [h.f0]; exact h3⟩
theorem Agc (c : Fe) (l : List Gi) (hc : Jp c) (hl : l.length <= 1000) (hi : ∀ p ∈ l, Atn p) : Ct 65 [c.g, .mInp l] (fun d : Fe × U0 => .tup [d.1.g, d.2.g]) (fun d => Jp d.1 /\ d.1.cfg = c.cfg /\ (d.2.ses.length : Int) = En c.cfg.ags c.cfg.ags.length /\ (∀ q ∈ d.2.ses, q.length <= 910 /\ ∀ m ∈ q, Hj m) /\ d.2.feed.length <= 1 /\ (∀ m ∈ d.2.feed, Hj m) /\ d.1.now = IntKind.i64.wrap ((if 1073741823 < c.now then 1073741823 else c.now) + 1) /\ Awf c l d) := by
 refine Ek Tryz.func65 ?_
 have hcr := hc.ref
 have hcd := hc.desks
 have hca := hc.na
 refine Bq ?_
 refine B8 ok0 (No c hc.b) ?_
 refine Bq <| .seq ?_
 refine Bq ?_
 refine C5 ?_ ?_ <;> intro h23 <;> simp [go_sem, hcr] at h23
 refine Bp ?_
 obtain ⟨Y1, cY1, qY1⟩ := Yl ⟨c.cfg, c.ref, IntKind.i64.wrap ((if 1073741823 < c.now then 1073741823 else c.now) + 1), c.desks, c.sigs, c.svcs, c.stuck, c.views⟩ l (hc.at _) hl hi
 have hAv := cY1
 have hAq := qY1
 generalize Y1 = A at hAv hAq
 have hA1 : A.2.2.2.length = c.desks.length := hAq.1
 refine Cu 7 rfl ?_
 simp [go_sem, -Prod.exists]
 refine B3 (fun K kk => by simp [go_sem]; refine .o [4, 5, 6, 7] (hAv) ?_; simp [go_sem]; exact kk) <| .seq ?_
 refine Bq <| .block ?_
 refine Bs A.2.2.1.length (fun i1 (y1 : (List Du) × (List Hk) × (List Fj) × (List Int)) => ⟨[(2, .ptr 0 0), (3, .ptr 1 0), (4, .ptr 2 0), (5, .ptr 3 0), (6, .ptr 8 0), (7, .ptr 9 0), (34, .mI A.2.2.1), (35, .li A.2.2.1.length), (36, .li i1)], [.box 37 [.mJun c.cfg.juns, .mAg c.cfg.ags, .li c.cfg.per, .li c.cfg.cap, .li c.cfg.hold, .li c.cfg.lock, .lb c.ref, .li (IntKind.i64.wrap ((if 1073741823 < c.now then 1073741823 else c.now) + 1)), .own 4 y1.1.length, .own 5 y1.2.1.length, .own 6 y1.2.2.1.length, .own 7 y1.2.2.2.length, .mView c.views], .box 147 [.mInp l], .box 37 [.nil 3, .nil 8, .li 0, .li 0, .li 0, .li 0, .lb false, .li 0, .nil 17, .nil 5, .nil 3, .nil 1, .nil 4], .box 154 [.nil 1, .nil 4], .row 70 17 false false (Io y1.1), .row 135 5 false false (Nv y1.2.1), .row 138 3 false false (On y1.2.2.1), .row 3 1 false false (tI y1.2.2.2), .box 197 [.imm false 1 (Ud A.1)], .box 198 [.mEnt A.2.1]]⟩) (fun i1 y1 => Auo c A.2.2.2 y1) (A.2.2.2, c.sigs, c.svcs, c.stuck) (wk hA1 [0, 1, 2, 3, 4, 5, 6, 7, 8, 9]) (⟨rfl, hc.sigs, hc.sig, rfl, rfl⟩) fun i1 y1 hi1 hy1 => ?_
 refine Bq <| .seq ?_
 refine Br ?_ ?_ <;> intro h37
 ·refine Bp <| .seq <| .block ?_
  obtain ⟨e1, H1⟩ := gx A.2.2.1 i1
  refine Bu H1 ?_
  have hsl := hy1.sl
  refine Bu (cj2 H1 hsl) ?_
  refine Br ?_ ?_ <;> intro h53
  ·have h53a : 0 <= e1 /\ e1 < (c.cfg.juns.length : Int) := by simpa using h53
   obtain ⟨jk, hjk⟩ : ∃ e, c.cfg.juns[e1.toNat]? = some e := ⟨_, Aa (by omega)⟩
   obtain ⟨sk, hsk⟩ : ∃ e, y1.2.1[e1.toNat]? = some e := ⟨_, Aa (by omega)⟩
   have hjb := hc.jun jk (Ac hjk)
   have hsb := hy1.sig sk (Ac hsk)
   obtain ⟨Y2, cY2, qY2⟩ := got (Ym jk sk hjb.1 hjb.2 hsb.1 hsb.2)
   have hGv := cY2
   have hGq := qY2
   generalize Y2 = G at hGv hGq
   refine Co (cj3 H1 hjk hsk) (hGv) ?_
   refine B0 H1 ?_
   refine ⟨by omega, (y1.1, (y1.2.1).set e1.toNat G.1, y1.2.2.1, y1.2.2.2), ?_, wk (cj3 (Dt ((i1 : Int) + 1)) H1 hsl) [0, 1, 2, 3, 4, 5, 6, 7, 8, 9]⟩
   first | exact hy1 | exact ⟨hy1.f0, by simpa using hsl, Uz hy1.sig hGq, hy1.f2, hy1.f3⟩
  refine Bp <| .H1 H1 ?_
  refine ⟨by omega, (y1.1, y1.2.1, y1.2.2.1, y1.2.2.2), ?_, wk (cj3 (Dt ((i1 : Int) + 1)) H1 hsl) [0, 1, 2, 3, 4, 5, 6, 7, 8, 9]⟩
  first | exact hy1 | exact ⟨hy1.f0, by simpa using hsl, Uz hy1.sig hGq, hy1.f2, hy1.f3⟩
 refine Bt ?_
 have hAl := fun (k : Nat) (a : TAg) (ha : c.cfg.ags[k]? = some a) => hAq.2.2.2.2.2.2.len hc.dl hc.desks ha
 have hS0 := hy1.city hc hAq.1 hAq.2.1 (fun k d a hd ha => (hAl k a ha).1 d hd) (IntKind.i64.wrap ((if 1073741823 < c.now then 1073741823 else c.now) + 1))
 obtain ⟨Y3, cY3, qY3⟩ := Aac ⟨c.cfg, c.ref, IntKind.i64.wrap ((if 1073741823 < c.now then 1073741823 else c.now) + 1), y1.1, y1.2.1, y1.2.2.1, y1.2.2.2, c.views⟩ hS0
 have hSv := cY3
 have hSq := qY3
 generalize Y3 = S at hSv hSq
 have hS := hSq.1
 have hSc : S.cfg = c.cfg := hSq.2.1
 have hSd := hS.desks
 have hSa := hS.na
 have hna : S.cfg.ags.length <= 1000000 := by omega
 refine B2 ok0 4 ?_
 refine B3 (fun K kk => by simp [go_sem]; refine .o [0, 5, 6, 7] (hSv) ?_; simp [go_sem]; exact kk) ?_
 refine B2 ok0 5 ?_
 refine B2 ok0 6 ?_
 refine B2 ok0 7 ?_
 refine B2 ok0 10 ?_
 refine Bq <| .seq ?_
 refine Bq <| .block ?_
 refine Ck 11 0 80 1 (by decide) rfl rfl ?_
 simp [go_sem, -Prod.exists]
 refine Bs S.cfg.ags.length (fun i2 (y2 : (List (List Dz))) => ⟨[(2, .ptr 0 0), (3, .ptr 1 0), (4, .ptr 2 0), (5, .ptr 3 0), (6, .ptr 4 0), (7, .ptr 5 0), (11, .ptr 6 0), (78, .li S.cfg.ags.length), (79, .li i2)], [.box 37 [.mJun S.cfg.juns, .mAg S.cfg.ags, .li S.cfg.per, .li S.cfg.cap, .li S.cfg.hold, .li S.cfg.lock, .lb S.ref, .li S.now, .mDesk S.desks, .mSig S.sigs, .mSvc S.svcs, .mI S.stuck, .mView S.views], .box 147 [.mInp l], .box 37 [.nil 3, .nil 8, .li 0, .li 0, .li 0, .li 0, .lb false, .li 0, .nil 17, .nil 5, .nil 3, .nil 1, .nil 4], .box 154 [.nil 1, .nil 4], .box 197 [.imm false 1 (Ud A.1)], .box 198 [.mEnt A.2.1], .box 154 [.own 7 y2.length, .nil 4], .row 80 1 false false (Qg y2)]⟩) (fun i2 y2 => (y2.length : Int) = En S.cfg.ags i2 /\ (∀ q ∈ y2, q.length <= 910 /\ ∀ m ∈ q, Hj m) /\ Ah3 S l A.1 A.2.1 i2 0 y2) ([]) (wk ok0 [0, 1, 2, 3, 8, 9, 11, 12]) (⟨rfl, (fun q hq => by cases hq), fun k n a r hk => absurd hk (by omega)⟩) fun i2 y2 hi2 hy2 => ?_
 refine Bq <| .seq ?_
 refine Br ?_ ?_ <;> intro h80
 ·refine Bp <| .seq <| .block <| .R ?_
  obtain ⟨ag, hag⟩ : ∃ e, S.cfg.ags[i2]? = some e := ⟨_, Aa (by omega)⟩
  have hid : (i2 : Int) < (S.desks.length : Int) := by omega
  have hab := Uk hag
  have hal := Va S.cfg.ags i2 ag
  have hcn := Ir ag
  have hsb := Kc S.cfg.ags i2
  refine B8 ok0 (Rr S.cfg i2) <| .block ?_
  refine C3 (s' := ⟨[(2, .ptr 0 0), (3, .ptr 1 0), (4, .ptr 2 0), (5, .ptr 3 0), (6, .ptr 4 0), (7, .ptr 5 0), (11, .ptr 6 0), (12, .ptr 8 0), (78, .li S.cfg.ags.length), (79, .li i2), (85, .fn 129 [.iptr false (cfT S.cfg) 0, .iptr false [.li (i2 : Int)] 0])], (fun (y3 : (List (List Dz))) => [.box 37 [.mJun S.cfg.juns, .mAg S.cfg.ags, .li S.cfg.per, .li S.cfg.cap, .li S.cfg.hold, .li S.cfg.lock, .lb S.ref, .li S.now, .mDesk S.desks, .mSig S.sigs, .mSvc S.svcs, .mI S.stuck, .mView S.views], .box 147 [.mInp l], .box 37 [.nil 3, .nil 8, .li 0, .li 0, .li 0, .li 0, .lb false, .li 0, .nil 17, .nil 5, .nil 3, .nil 1, .nil 4], .box 154 [.nil 1, .nil 4], .box 197 [.imm false 1 (Ud A.1)], .box 198 [.mEnt A.2.1], .box 154 [.own 7 y3.length, .nil 4], .row 80 1 false false (Qg y3), .box 3 [.li i2]]) (y2)⟩) ⟨[0, 1, 2, 3, 4, 5, 6, 7, 8], Ds (by decide) ?_ ?_, by simp⟩ ?_
  ·simp [go_sem]
  ·simp [go_sem]
  refine Dp (Vx S.cfg i2 ag hag hna) (fun (y3 : (List (List Dz))) => [.box 37 [.mJun S.cfg.juns, .mAg S.cfg.ags, .li S.cfg.per, .li S.cfg.cap, .li S.cfg.hold, .li S.cfg.lock, .lb S.ref, .li S.now, .mDesk S.desks, .mSig S.sigs, .mSvc S.svcs, .mI S.stuck, .mView S.views], .box 147 [.mInp l], .box 37 [.nil 3, .nil 8, .li 0, .li 0, .li 0, .li 0, .lb false, .li 0, .nil 17, .nil 5, .nil 3, .nil 1, .nil 4], .box 154 [.nil 1, .nil 4], .box 197 [.imm false 1 (Ud A.1)], .box 198 [.mEnt A.2.1], .box 154 [.own 7 y3.length, .nil 4], .row 80 1 false false (Qg y3), .box 3 [.li i2]]) 9 (fun _ => rfl) (by rfl) (fun _ => Qn rfl) (by decide) ?_ (fun j3 y3 => (y3.length : Int) = En S.cfg.ags i2 + (j3 : Int) /\ (∀ q ∈ y3, q.length <= 910 /\ ∀ m ∈ q, Hj m) /\ Ah3 S l A.1 A.2.1 i2 j3 y3) (y2) (⟨by simpa using hy2.1, hy2.2.1, hy2.2.2⟩) (fun j3 vs y3 hj3 hy3 => ?_) (fun y3 hy3 => ?_)
  ·intro vs hvs
   obtain ⟨a, _, rfl⟩ := A4.1 hvs
   simp [go_sem]
  ·
   obtain ⟨a3, ha3, rfl⟩ := D0 hj3
   have hse := Afl (Ac ha3)
   have hj3l := (Ab.1 ha3).1
   have hatx := Aja ha3
   have hat := hatx.1
   have hix : a3.2.2.toNat = (En S.cfg.ags i2).toNat + j3 := by have := hsb.1; omega
   have hy31 := hy3.1
   have hal3 : a3.2.2.toNat = y3.length := by omega
   refine Ci ?_
   refine ⟨rfl, ?_⟩
   refine Dd <| .R <| .seq ?_
   by_cases hc20 : a3.2.2 < l.length
   ·obtain ⟨e2, H2⟩ := gx l a3.2.2.toNat
    refine Bu (cj3 hc20 H2 hid) ?_
    refine Br ?_ ?_ <;> intro h106
    ·have hrl : A.1.length = c.desks.length := hAq.2.2.1
     have hcf : S.cfg.ags.length = c.cfg.ags.length := by rw [hSc]
     obtain ⟨rk, hrk0⟩ : ∃ e, A.1[i2]? = some e := ⟨_, Aa (by omega)⟩
     have hrq := hAq.2.2.2.1 rk (Ac hrk0)
     have hen := hAq.2.2.2.2.1
     have hrk : ∀ q ∈ rk, q.length <= 900 /\ ∀ m ∈ q, Hj m := fun q hq => ⟨by have := (hrq.2 q hq).1; omega, (hrq.2 q hq).2⟩
     have hr1 := hrq.1
     rw [hSc] at hag
     have hrl2 := (hAl i2 ag hag).2 rk hrk0
     have hn2 : ∀ d, S.desks[(J7.ag ⟨a3.1, a3.2.1, a3.2.2⟩).toNat]? = some d -> a3.2.1 < d.aud.length := fun d hd => by rw [hSq.2.2.2] at hd; rw [hy1.f0] at hd; rw [show (J7.ag ⟨a3.1, a3.2.1, a3.2.2⟩).toNat = i2 by have := hatx.2.2.1; dsimp only; omega] at hd; have h5 := (hAl i2 ag hag).1 d hd; omega
     obtain ⟨Y4, cY4, qY4⟩ := got (Agb S ⟨a3.1, a3.2.1, a3.2.2⟩ rk A.2.1 hS (by have := hse.1; dsimp only; omega) (by have := hse.1; dsimp only; omega) hse.2.1 hrk (by omega) (by omega) (by dsimp only; omega) hn2)
     have hTv := cY4
     have hTq := qY4
     generalize Y4 = T at hTv hTq
     have hTe := hTq.2.2
     rw [hat, hatx.2.1, hatx.2.2.1] at hTe
     refine Co (cj3 hc20 H2 hrk0) (hTv) ?_
     refine B0 (cj2 hc20 H2) ?_
     refine ⟨(y3 ++ ([T])), ?_, ⟨[0, 1, 2, 3, 4, 5, 6, 7, 8], Ds (by decide) ?_ ?_, Fu rfl⟩⟩
     ·first | exact ⟨by simp; have := hy3.1; omega, Ig hy3.2.1 ⟨hTq.1, hTq.2.1⟩, hy3.2.2.app hy31 fun r hr => by rw [hrk0] at hr; injection hr with hr; subst hr; exact .inl ⟨_, by rw [<- hix]; exact H2, h106, hTe⟩⟩ | exact ⟨by simp; have := hy3.1; omega, Ig hy3.2.1 ⟨Ae _, fun m hm => by cases hm⟩, hy3.2.2.app hy31 fun r hr => .inr ⟨fun p hp => by rw [<- hix, H2] at hp; injection hp with hp; rw [<- hp]; simpa using h106, rfl⟩⟩ | exact ⟨by simp; have := hy3.1; omega, Ig hy3.2.1 ⟨Ae _, fun m hm => by cases hm⟩, hy3.2.2.app hy31 fun r hr => .inr ⟨fun p hp => absurd (Ab.1 hp).1 (by omega), rfl⟩⟩
     ·simp [go_sem]
     simp [go_sem, hc20, H2]
    refine Bp <| .H1 (cj2 hc20 H2) ?_
    refine ⟨(y3 ++ ([[]])), ?_, ⟨[0, 1, 2, 3, 4, 5, 6, 7, 8], Ds (by decide) ?_ ?_, Fu rfl⟩⟩
    ·first | exact ⟨by simp; have := hy3.1; omega, Ig hy3.2.1 ⟨hTq.1, hTq.2.1⟩, hy3.2.2.app hy31 fun r hr => by rw [hrk0] at hr; injection hr with hr; subst hr; exact .inl ⟨_, by rw [<- hix]; exact H2, h106, hTe⟩⟩ | exact ⟨by simp; have := hy3.1; omega, Ig hy3.2.1 ⟨Ae _, fun m hm => by cases hm⟩, hy3.2.2.app hy31 fun r hr => .inr ⟨fun p hp => by rw [<- hix, H2] at hp; injection hp with hp; rw [<- hp]; simpa using h106, rfl⟩⟩ | exact ⟨by simp; have := hy3.1; omega, Ig hy3.2.1 ⟨Ae _, fun m hm => by cases hm⟩, hy3.2.2.app hy31 fun r hr => .inr ⟨fun p hp => absurd (Ab.1 hp).1 (by omega), rfl⟩⟩
    ·simp [go_sem]
    simp [go_sem, hc20, H2]
   refine Bu (cj2 hc20 hid) ?_
   refine C5 ?_ ?_ <;> intro h106 <;> simp [go_sem] at h106
   refine Bp <| .H1 hc20 ?_
   refine ⟨(y3 ++ ([[]])), ?_, ⟨[0, 1, 2, 3, 4, 5, 6, 7, 8], Ds (by decide) ?_ ?_, Fu rfl⟩⟩
   ·first | exact ⟨by simp; have := hy3.1; omega, Ig hy3.2.1 ⟨hTq.1, hTq.2.1⟩, hy3.2.2.app hy31 fun r hr => by rw [hrk0] at hr; injection hr with hr; subst hr; exact .inl ⟨_, by rw [<- hix]; exact H2, h106, hTe⟩⟩ | exact ⟨by simp; have := hy3.1; omega, Ig hy3.2.1 ⟨Ae _, fun m hm => by cases hm⟩, hy3.2.2.app hy31 fun r hr => .inr ⟨fun p hp => by rw [<- hix, H2] at hp; injection hp with hp; rw [<- hp]; simpa using h106, rfl⟩⟩ | exact ⟨by simp; have := hy3.1; omega, Ig hy3.2.1 ⟨Ae _, fun m hm => by cases hm⟩, hy3.2.2.app hy31 fun r hr => .inr ⟨fun p hp => absurd (Ab.1 hp).1 (by omega), rfl⟩⟩
   ·simp [go_sem]
   simp [go_sem, hc20]
  -- done
  refine Ci ?_
  exact ⟨by omega, (y3), ⟨by have h3 := hy3.1; simp only [A2] at h3; rw [hab]; omega, hy3.2.1, hy3.2.2.up hag (by simp only [A2]; omega)⟩, wk (Dt ((i2 : Int) + 1)) [0, 1, 2, 3, 4, 5, 6, 7]⟩
 refine Bt ?_
 have hv4 : S.views.length <= 4 := by have := hS.views; have := hS.nj; omega
 obtain ⟨Y5, cY5, qY5⟩ := got (Ad3 S.now S.views hv4 hS.view)
 have hFv := cY5
 have hFq := qY5
 have hFb := Pv S.views hv4 hS.view
 have hFs : Hj Y5 := Abo (by rw [hFq.2.2.1]; simp) (by rw [hFq.2.1]; simp) (by rw [hFq.2.2.2]; omega)
 generalize Y5 = F at hFv hFq hFs
 obtain ⟨R, hR, _⟩ := Qy [F] (by simp) (fun m hm => by rw [An.1 hm]; exact hFs)
 generalize hV : List.filter (fun t => !R2 t) [F] = V at hR
 refine B3 (fun K kk => by simp [go_sem]; refine .l (hFv) ?_; simp [go_sem]; refine .o [8] (hR) ?_; simp [go_sem]; exact kk) ?_
 refine VX.D ?_
 refine B2 ok0 7 ?_
 exact .ret (fin ok0 (S, ⟨y2, V⟩) ⟨hS, hSc, by have h2 := hy2.1; have he : i2 = S.cfg.ags.length := (by omega); rw [he] at h2; rw [<- hSc]; exact h2, hy2.2.1, by rw [<- hV]; exact Ak (Az _ _) (by simp), fun m hm => by rw [<- hV] at hm; rw [An.1 (Bn.1 hm).1]; exact hFs, hSq.2.2.1, A.1, A.2.1, by dsimp only; rw [hSq.2.2.1, hSq.2.2.2]; have h := hAq.2.2.2.2.2.2; rw [hy1.f0]; exact h, hAq.2.2.1, by have h := hy2.2.2; rwa [show i2 = S.cfg.ags.length by omega] at h⟩)
theorem By.drop {l : List Int} (h : By l) (n : Nat) : By (l.drop n) := fun x hx => h x (Ay hx)
theorem By.take {l : List Int} (h : By l) (n : Nat) : By (l.take n) := fun x hx => h x (Aq hx)
theorem Sr {b : List Int} (hb : By b) (h : (Ey b).2.2 = true) : 1 <= (Ey b).2.1 /\ (Ey b).2.1 <= b.length := by
 unfold Ey at h ⊢
 split
 ·simp at h
 ·split <;> simp_all
 rename_i b0 b1 r
 split
 ·simp; omega
 rename_i h1
 simp only [h1, if_false] at h
 split
 ·rename_i b2 b3 b4 b5 r
  simp only at h ⊢
  have h4 := hb b4 (by simp)
  have h5 := hb b5 (by simp)
  by_cases hn : 200 < b4 * 256 + b5
  ·simp [hn]; omega
  rw [if_neg hn] at h ⊢
  by_cases hl : (r.length : Int) < b4 * 256 + b5 + 4
  ·rw [if_pos hl] at h; simp at h
  rw [if_neg hl] at h ⊢
  repeat' split
  all_goals simp
  all_goals omega
 simp at h
def Ur (b : List Int) : List Int := b.drop (Ey b).2.1.toNat
def Hg (b : List Int) : Nat -> List Int
 | 0 => b
 | k + 1 => Ur (Hg b k)
def Als : Nat -> List Int -> List (Fq × Int)
 | 0, _ => []
 | n + 1, b => if (Ey b).2.2 then ((Ey b).1, (Ey b).2.1) :: Als n (Ur b) else []
def Pw (b : List Int) : List (Fq × Int) := Als b.length b
def V6 (b : List Int) : Nat -> Int
 | 0 => 0
 | k + 1 => V6 b k + (Ey (Hg b k)).2.1
theorem Uq (b : List Int) : ∀ k, Hg (Ur b) k = Hg b (k + 1)
 | 0 => rfl
 | k + 1 => by rw [Hg, Uq b k]; rfl
theorem Vc {b : List Int} (h : By b) : ∀ k, By (Hg b k)
 | 0 => h
 | k + 1 => (Vc h k).drop _
theorem Xx : ∀ (n : Nat) (b : List Int) (k : Nat) (x : Fq × Int), (Als n b)[k]? = some x -> (Ey (Hg b k)).2.2 = true /\ x = ((Ey (Hg b k)).1, (Ey (Hg b k)).2.1)
 | 0, b, k, x, h => by simp [Als] at h
 | n + 1, b, k, x, h => by
  unfold Als at h
  split at h
  ·rename_i hp
   cases k with
   | zero => simp at h; exact ⟨hp, h.symm⟩
   | succ k =>
    simp at h
    have := Xx n (Ur b) k x h
    rwa [Uq] at this
  simp at h
theorem Ww {b : List Int} (hb : By b) : ∀ (k : Nat), (∀ j, j < k -> (Ey (Hg b j)).2.2 = true) -> V6 b k + (Hg b k).length = b.length /\ (k : Int) <= V6 b k
 | 0, _ => by simp [V6, Hg]
 | k + 1, h => by
  obtain ⟨h1, h2⟩ := Ww hb k fun j hj => h j (by omega)
  have h3 := Sr (Vc hb k) (h k (by omega))
  simp only [V6, Hg, Ur, Bc]
  omega
theorem Ajq : ∀ (n : Nat) (b : List Int), By b -> b.length <= n -> (Ey (Hg b (Als n b).length)).2.2 = false
 | 0, b, _, h => by
  have : b = [] := List.eq_nil_of_length_eq_zero (by omega)
  subst this; rfl
 | n + 1, b, hb, h => by
  unfold Als
  split
  ·rename_i hp
   have h3 := Sr hb hp
   have := Ajq n (Ur b) (hb.drop _) (by simp only [Ur, Bc]; omega)
   rw [Uq] at this
   simpa using this
  rename_i hp
  simpa [Hg] using hp
theorem Ac4 {b : List Int} {k : Nat} (h : k < (Pw b).length) : (Ey (Hg b k)).2.2 = true := (Xx _ _ _ _ (Aa h)).1
theorem An9 {b : List Int} (hb : By b) : (Ey (Hg b (Pw b).length)).2.2 = false := Ajq _ _ hb (Aj _)
theorem Ac3 {b : List Int} (hb : By b) {k : Nat} (h : k <= (Pw b).length) : 0 <= V6 b k /\ V6 b k <= b.length /\ (k : Int) <= b.length := by
 have := Ww hb k fun j hj => Ac4 (by omega)
 omega
theorem Afr {b : List Int} (hb : By b) {k : Nat} (h : k <= (Pw b).length) : (Hg b k).length <= b.length := by
 have := Ww hb k fun j hj => Ac4 (by omega)
 omega
theorem Air (b : List Int) (hl : b.length <= 1000000) (hb : By b) : Wa Tryz.prog 139 [.iptr false [.sl 1 (tY b)] 0] ((Pw b).map fun a => [a.1.g, .li a.2]) := by
 refine Abp Tryz.func139 rfl rfl rfl (by simp [Tryz.ntmps139]) rfl fun yl => ?_
 refine B9 (by rfl) fun K1 hK1 => ?_
 simp [go_sem]
 refine hK1 _ ?_; clear hK1
 refine Cv ?_
 refine Dm (Pw b).length (fun k => ⟨[(0, .lit (.func (.yield yl) #[] #[])), (3, .mY (Hg b k))], []⟩) (fun k => k)
  (fun k => True) ⟨[], Ds (by decide) ?_ ?_, by simp⟩ ⟨rfl, rfl, trivial⟩ fun k hk _ => ?_
 ·simp [go_sem, Hg]
 ·simp [go_sem]
 have hr := Afr hb hk
 refine Cv ?_
 refine B9 (by rfl) fun K1 hK1 => ?_
 simp [go_sem]
 refine .l (Aen (Hg b k) (by omega) (Vc hb k)) ?_
 simp [go_sem]
 refine hK1 _ ?_; clear hK1
 refine Cw ?_
 refine Cw (Dq ?_)
 refine VIL.first 6 (by rfl) fun K1 hK1 => ?_
 by_cases hlt : k < (Pw b).length
 ·have hok := Ac4 hlt
  have hit : (Pw b)[k]? = some ((Ey (Hg b k)).1, (Ey (Hg b k)).2.1) := by
   have h1 := Aa hlt
   rw [h1, (Xx _ _ _ _ h1).2]
  have hsz := Sr (Vc hb k) hok
  simp [go_sem, hok]
  refine hK1 _ ?_; clear hK1
  refine VIL.yield (vs := [.agg ((Ey (Hg b k)).1.a false), .lit (.int .i64 (Ey (Hg b k)).2.1)]) (by simp [go_sem]) (by simp [go_sem]) (by decide) (by simp [go_sem]) (by simp [go_sem]) (by simp [go_sem]) (by simp [hit]) (by simp [go_sem]) rfl fun c => ?_
  refine VIL.rest (by rfl) fun K1 hK1 => ?_
  cases c with
  | true =>
   simp [go_sem]
   refine hK1 _ ?_; clear hK1
   refine C4 (by simp [go_sem]) (by simp [go_sem]) (fun h17 => ?_) (fun h17 => ?_) <;> simp [go_sem] at h17
   exact VI.ret ⟨.inr rfl, fun h => by cases h⟩
  | false =>
   simp [go_sem]
   refine hK1 _ ?_; clear hK1
   refine C4 (by simp [go_sem]) (by simp [go_sem]) (fun h17 => ?_) (fun h17 => ?_) <;> simp [go_sem] at h17
   refine Db ?_
   refine Cr (by rfl) fun K1 hK1 => ?_
   simp [go_sem]
   repeat' with_reducible refine Ax ?_ ?_
   all_goals try (intros; (repeat' refine Ax ?_ ?_) <;> omega)
   refine hK1 _ ?_; clear hK1
   refine ⟨hlt, rfl, rfl, trivial, [], Ds (by decide) ?_ ?_, by simp⟩
   ·simp [go_sem, Hg, Ur]
   simp [go_sem]
 have he : k = (Pw b).length := by omega
 have hno := An9 hb
 rw [<- he] at hno
 simp [go_sem, hno]
 refine hK1 _ ?_; clear hK1
 refine VIL.noyield (d := 20) rfl (by simp [go_sem]) (by simp [go_sem]) (by decide) ?_
 refine VIL.rest (by rfl) fun K1 hK1 => ?_
 simp [go_sem]
 refine hK1 _ ?_; clear hK1
 refine C4 (by simp [go_sem]) (by simp [go_sem]) (fun h17 => ?_) (fun h17 => ?_) <;> simp [go_sem] at h17
 exact VI.ret ⟨.inr rfl, fun _ => by simp [he]⟩
theorem Aak (b : List Int) : PP 104 [] [.mY b] [] (.fn 139 [.iptr false [.sl 1 (tY b)] 0]) := by
 refine Ei.boxes (σr := [.box 44 [.mY b]]) (res := .fn 139 [.ptr 0 0]) ?_ (by simp [go_sem, St.o])
 refine Eb Tryz.func104 ?_
 iterate 2 refine Bw ?_
 exact .ret (rW ok0 [0])
theorem Aj7 (b : List Int) : (Ey b).1.pay.length <= b.length := by
 unfold Ey
 split
 ·simp
 ·split <;> simp
 split
 ·simp
 split
 ·simp only
  repeat' split
  all_goals simp
  all_goals omega
 simp
theorem N0 {l : List Fq} {a : Fq} (h : ∀ x ∈ l, x.pay.length <= 256) (ha : a.pay.length <= 256) : ∀ x ∈ l ++ [a], x.pay.length <= 256 := fun x hx => by
 rcases A0.1 hx with h1 | h1
 ·exact h x h1
 rw [An.1 h1]; exact ha
def Qe (n : Int) : List (Fq × Int) -> Int -> Bool -> List Fq -> Int × Bool × List Fq
 | [], u, g, l => (u, g, l)
 | p :: ps, u, g, l => if p.1.code = 2 /\ g = true then Qe n ps (u + p.2) g l else if n <= ((l ++ [p.1]).length : Int) then (u + p.2, (p.1.code == 2 || p.1.code == 7 || p.1.code == 4), l ++ [p.1]) else Qe n ps (u + p.2) (p.1.code == 2 || p.1.code == 7 || p.1.code == 4) (l ++ [p.1])
theorem Abj {L : List (Fq × Int)} {j : Nat} {a : Fq × Int} {n u : Int} {g : Bool} {l : List Fq} (ha : L[j]? = some a) (h1 : a.1.code = 2) (h2 : g = true) : Qe n (L.drop j) u g l = Qe n (L.drop (j + 1)) (u + a.2) g l := by
 obtain ⟨hj, rfl⟩ := Ab.1 ha
 rw [List.drop_eq_getElem_cons hj, Qe, if_pos ⟨h1, h2⟩]
theorem Abk {L : List (Fq × Int)} {j : Nat} {a : Fq × Int} {n u : Int} {g g' : Bool} {l : List Fq} (ha : L[j]? = some a) (h1 : ¬ (a.1.code = 2 /\ g = true)) (h2 : g' = (a.1.code == 2 || a.1.code == 7 || a.1.code == 4)) (hn : ¬ n <= ((l ++ [a.1]).length : Int)) : Qe n (L.drop j) u g l = Qe n (L.drop (j + 1)) (u + a.2) g' (l ++ [a.1]) := by
 obtain ⟨hj, rfl⟩ := Ab.1 ha
 rw [List.drop_eq_getElem_cons hj, Qe, if_neg h1, if_neg hn, h2]
theorem Abi {L : List (Fq × Int)} {j : Nat} {a : Fq × Int} {n u : Int} {g g' : Bool} {l : List Fq} (ha : L[j]? = some a) (h1 : ¬ (a.1.code = 2 /\ g = true)) (h2 : g' = (a.1.code == 2 || a.1.code == 7 || a.1.code == 4)) (hn : n <= ((l ++ [a.1]).length : Int)) : Qe n (L.drop j) u g l = (u + a.2, g', l ++ [a.1]) := by
 obtain ⟨hj, rfl⟩ := Ab.1 ha
 rw [List.drop_eq_getElem_cons hj, Qe, if_neg h1, if_pos hn, h2]
def TkR (n : Int) (s : P8) (d : P8 × List Fq) : Prop := ∃ u, Qe n (Pw s.buf) 0 s.gar [] = (u, d.1.gar, d.2) /\ d.1.buf = s.buf.drop u.toNat
def Aup (s : E6) (d : E6 × Gi) : Prop := (s.op = false -> d = (s, ⟨false, []⟩)) /\ (s.op = true -> ∃ e, TkR 4 s.st e /\ d = (⟨true, false, e.1⟩, ⟨true, (if s.dr then [⟨15, 0, []⟩] else []) ++ e.2⟩))
theorem Oi (n k : Int) : PP 122 [] [.li k, .iptr false [.li n] 0] [] (.lb (decide (n <= k))) := by
 refine Eb Tryz.func122 ?_
 iterate 2 refine Bw ?_
 exact .ret (rL ok0)
theorem Qt (s : P8) (n : Int) (hl : s.buf.length <= 256) (hb : By s.buf) : Ct 72 [s.g, .fn 122 [.iptr false [.li n] 0]] (fun d : P8 × List Fq => .tup [d.1.g, .mItem d.2]) (fun d => By d.1.buf /\ d.1.buf.length <= 256 /\ d.2.length <= 256 /\ (∀ x ∈ d.2, x.pay.length <= 256) /\ TkR n s d) := by
 refine Ek Tryz.func72 ?_
 refine Bq ?_
 refine VX.scope ?_
 refine Bq ?_
 refine VX.D <| .seq ?_
 refine VX.label ?_
 refine Ca <| .L ok0 (Aak s.buf) <| .block ?_
 refine Ck 3 0 116 3 (by decide) rfl rfl ?_
 simp [go_sem, -Prod.exists]
 refine C3 (s' := ⟨[(2, .ptr 0 0), (3, .ptr 1 0), (4, .ptr 2 0), (6, .ptr 3 0), (7, .ptr 4 0), (8, .ptr 5 0), (15, .fn 139 [.iptr false [.sl 1 (tY s.buf)] 0])], (fun (y1 : Int × Bool × (List Fq)) => [.box 98 [.mY s.buf, .lb s.gar], .box 169 [.fn 122 [.iptr false [.li n] 0]], .box 98 [.nil 1, .lb false], .box 113 [.own 6 y1.2.2.length], .box 3 [.li y1.1], .box 4 [.lb y1.2.1], .row 116 3 false false (Zy y1.2.2)]) (0, s.gar, [])⟩) ⟨[0, 1, 2, 3, 4, 5, 6], Ds (by decide) ?_ ?_, by simp⟩ ?_
 ·simp [go_sem]
 ·simp [go_sem]
 refine Dp (Air s.buf (by omega) hb) (fun (y1 : Int × Bool × (List Fq)) => [.box 98 [.mY s.buf, .lb s.gar], .box 169 [.fn 122 [.iptr false [.li n] 0]], .box 98 [.nil 1, .lb false], .box 113 [.own 6 y1.2.2.length], .box 3 [.li y1.1], .box 4 [.lb y1.2.1], .row 116 3 false false (Zy y1.2.2)]) 7 (fun _ => rfl) (by rfl) (fun _ => Qn rfl) (by decide) ?_ (fun j1 y1 => y1.1 = V6 s.buf j1 /\ y1.2.2.length <= j1 /\ (∀ x ∈ y1.2.2, x.pay.length <= 256) /\ Qe n ((Pw s.buf).drop j1) y1.1 y1.2.1 y1.2.2 = Qe n (Pw s.buf) 0 s.gar []) (0, s.gar, []) (⟨rfl, by simp, (fun x h => by cases h), rfl⟩) (fun j1 vs y1 hj1 hy1 => ?_) (fun y1 hy1 => ?_)
 ·intro vs hvs
  obtain ⟨a, _, rfl⟩ := A4.1 hvs
  simp [go_sem]
 ·
  obtain ⟨a1, ha1, rfl⟩ := D0 hj1
  have hjl : j1 < (Pw s.buf).length := (Ab.1 ha1).1
  have hg := Xx _ _ _ _ ha1
  have ho := Ac3 hb (k := j1 + 1) (by omega)
  have ho0 := Ac3 hb (k := j1) (by omega)
  have hrl := Afr hb (k := j1) (by omega)
  have hsz : V6 s.buf (j1 + 1) = y1.1 + a1.2 := by rw [V6, hy1.1, hg.2]
  have hpy : a1.1.pay.length <= 256 := by rw [hg.2]; exact Ak (Aj7 _) (by omega)
  refine Bq ?_
  refine Ci ?_
  refine ⟨rfl, ?_⟩
  refine Dd ?_
  have hw1 := Dt (y1.1 + a1.2 : Int)
  refine Bu hw1 <| .seq ?_
  refine Bu hw1 <| .block ?_
  refine Bu hw1 ?_
  refine Br ?_ ?_ <;> intro h23
  ·refine Ca <| .H hw1 ?_
   refine Br ?_ ?_ <;> intro h25
   ·refine Bt ?_
    refine ⟨((y1.1 + a1.2), y1.2.1, y1.2.2), ?_, ⟨[0, 1, 2, 3, 4, 5, 6], Ds (by decide) ?_ ?_, Fu rfl⟩⟩
    ·first | exact ⟨hsz.symm, by dsimp only; omega, hy1.2.2.1, (Abj ha1 h23 h25).symm.trans hy1.2.2.2⟩ | exact ⟨hsz.symm, by simp; omega, N0 hy1.2.2.1 hpy, (Abk ha1 (by first | (simp [h23, h25]; done) | (simp [h23]; done)) (by first | (simp [h23]; done) | (rcases h26 with h | h <;> (simp [h]; done)) | (simp [h23, h26]; done)) (by simp; omega)).symm.trans hy1.2.2.2⟩
    ·simp [go_sem]
    simp [go_sem, hw1]
   refine Bp <| .H1 hw1 ?_
   refine Bu hw1 ?_
   refine B3 (fun K kk => by simp [go_sem, hw1]; refine .lo (Oi n _) rfl (by simp [AV.cln, Ez]) ?_; simp [go_sem, hw1]; exact kk) ?_
   refine Br ?_ ?_ <;> intro h36
   ·refine Bt ⟨[.box 98 [.mY s.buf, .lb s.gar], .box 169 [.fn 122 [.iptr false [.li n] 0]], .box 98 [.nil 1, .lb false], .box 113 [.own 6 ((y1.2.2 ++ ([a1.1])).length)], .box 3 [.li (y1.1 + a1.2)], .box 4 [.lb true], .row 116 3 false false (Zy (y1.2.2 ++ ([a1.1])))], ⟨[0, 1, 2, 3, 4, 5, 6], Ds (by decide) ?_ ?_, Fu rfl⟩, ?_⟩
    ·simp [go_sem]
    ·simp [go_sem, hw1]
    refine Cz (fun K kk => by simp [go_sem, hw1]; (repeat refine aK ?_); refine .lo (Ei.froz (Ee _ (by first | (simp; done) | (simp; omega) | (simp; assumption)) (by first | (simp [T.plain]; done) | (rw [Am]; intro e he; repeat (first | replace he := Aq he | replace he := Ay he); obtain ⟨x, _, rfl⟩ := A4.1 he; rfl)))) rfl (by simp [AV.cln, Ez]) ?_; simp [go_sem, hw1]; exact kk) ?_
    refine B2 ok0 6 ?_
    exact .ret (fin hw1 (⟨s.buf.drop ((y1.1 + a1.2).toNat), true⟩, y1.2.2 ++ ([a1.1])) (by first | exact ⟨hb.drop _, by simp; omega, by simp; omega, N0 hy1.2.2.1 hpy, _, hy1.2.2.2.symm.trans (Abi ha1 (by first | (simp [h23, h25]; done) | (simp [h23]; done)) (by first | (simp [h23]; done) | (rcases h26 with h | h <;> (simp [h]; done)) | (simp [h23, h26]; done)) (by simp; omega)), rfl⟩ | exact ⟨hb.drop _, by simp; omega, by dsimp only; omega, hy1.2.2.1, _, hy1.2.2.2.symm.trans (by rw [List.drop_eq_nil_of_le (by simp)]; rfl), rfl⟩))
   refine Bp ?_
   refine ⟨((y1.1 + a1.2), true, y1.2.2 ++ ([a1.1])), ?_, ⟨[0, 1, 2, 3, 4, 5, 6], Ds (by decide) ?_ ?_, Fu rfl⟩⟩
   ·first | exact ⟨hsz.symm, by dsimp only; omega, hy1.2.2.1, (Abj ha1 h23 h25).symm.trans hy1.2.2.2⟩ | exact ⟨hsz.symm, by simp; omega, N0 hy1.2.2.1 hpy, (Abk ha1 (by first | (simp [h23, h25]; done) | (simp [h23]; done)) (by first | (simp [h23]; done) | (rcases h26 with h | h <;> (simp [h]; done)) | (simp [h23, h26]; done)) (by simp; omega)).symm.trans hy1.2.2.2⟩
   ·simp [go_sem]
   simp [go_sem, hw1]
  refine Cf (by rfl) fun K1 hK1 => ?_
  simp [go_sem]
  refine hK1 _ ⟨_, _, _, _, _, _, _, _, rfl, .one (by decide) rfl rfl, by decide, rfl, by simp [go_sem]; rfl, by simp [go_sem]; rfl, by simp [go_sem], ?_⟩; clear hK1
  refine Br ?_ ?_ <;> intro h26
  ·refine B0 hw1 ?_
   refine Bu hw1 ?_
   refine B3 (fun K kk => by simp [go_sem, hw1]; refine .lo (Oi n _) rfl (by simp [AV.cln, Ez]) ?_; simp [go_sem, hw1]; exact kk) ?_
   refine Br ?_ ?_ <;> intro h36
   ·refine Bt ⟨[.box 98 [.mY s.buf, .lb s.gar], .box 169 [.fn 122 [.iptr false [.li n] 0]], .box 98 [.nil 1, .lb false], .box 113 [.own 6 ((y1.2.2 ++ ([a1.1])).length)], .box 3 [.li (y1.1 + a1.2)], .box 4 [.lb true], .row 116 3 false false (Zy (y1.2.2 ++ ([a1.1])))], ⟨[0, 1, 2, 3, 4, 5, 6], Ds (by decide) ?_ ?_, Fu rfl⟩, ?_⟩
    ·simp [go_sem]
    ·simp [go_sem, hw1]
    refine Cz (fun K kk => by simp [go_sem, hw1]; (repeat refine aK ?_); refine .lo (Ei.froz (Ee _ (by first | (simp; done) | (simp; omega) | (simp; assumption)) (by first | (simp [T.plain]; done) | (rw [Am]; intro e he; repeat (first | replace he := Aq he | replace he := Ay he); obtain ⟨x, _, rfl⟩ := A4.1 he; rfl)))) rfl (by simp [AV.cln, Ez]) ?_; simp [go_sem, hw1]; exact kk) ?_
    refine B2 ok0 6 ?_
    exact .ret (fin hw1 (⟨s.buf.drop ((y1.1 + a1.2).toNat), true⟩, y1.2.2 ++ ([a1.1])) (by first | exact ⟨hb.drop _, by simp; omega, by simp; omega, N0 hy1.2.2.1 hpy, _, hy1.2.2.2.symm.trans (Abi ha1 (by first | (simp [h23, h25]; done) | (simp [h23]; done)) (by first | (simp [h23]; done) | (rcases h26 with h | h <;> (simp [h]; done)) | (simp [h23, h26]; done)) (by simp; omega)), rfl⟩ | exact ⟨hb.drop _, by simp; omega, by dsimp only; omega, hy1.2.2.1, _, hy1.2.2.2.symm.trans (by rw [List.drop_eq_nil_of_le (by simp)]; rfl), rfl⟩))
   refine Bp ?_
   refine ⟨((y1.1 + a1.2), true, y1.2.2 ++ ([a1.1])), ?_, ⟨[0, 1, 2, 3, 4, 5, 6], Ds (by decide) ?_ ?_, Fu rfl⟩⟩
   ·first | exact ⟨hsz.symm, by dsimp only; omega, hy1.2.2.1, (Abj ha1 h23 h25).symm.trans hy1.2.2.2⟩ | exact ⟨hsz.symm, by simp; omega, N0 hy1.2.2.1 hpy, (Abk ha1 (by first | (simp [h23, h25]; done) | (simp [h23]; done)) (by first | (simp [h23]; done) | (rcases h26 with h | h <;> (simp [h]; done)) | (simp [h23, h26]; done)) (by simp; omega)).symm.trans hy1.2.2.2⟩
   ·simp [go_sem]
   simp [go_sem, hw1]
  refine B0 hw1 ?_
  refine Bu hw1 ?_
  refine B3 (fun K kk => by simp [go_sem, hw1]; refine .lo (Oi n _) rfl (by simp [AV.cln, Ez]) ?_; simp [go_sem, hw1]; exact kk) ?_
  refine Br ?_ ?_ <;> intro h36
  ·refine Bt ⟨[.box 98 [.mY s.buf, .lb s.gar], .box 169 [.fn 122 [.iptr false [.li n] 0]], .box 98 [.nil 1, .lb false], .box 113 [.own 6 ((y1.2.2 ++ ([a1.1])).length)], .box 3 [.li (y1.1 + a1.2)], .box 4 [.lb false], .row 116 3 false false (Zy (y1.2.2 ++ ([a1.1])))], ⟨[0, 1, 2, 3, 4, 5, 6], Ds (by decide) ?_ ?_, Fu rfl⟩, ?_⟩
   ·simp [go_sem]
   ·simp [go_sem, hw1]
   refine Cz (fun K kk => by simp [go_sem, hw1]; (repeat refine aK ?_); refine .lo (Ei.froz (Ee _ (by first | (simp; done) | (simp; omega) | (simp; assumption)) (by first | (simp [T.plain]; done) | (rw [Am]; intro e he; repeat (first | replace he := Aq he | replace he := Ay he); obtain ⟨x, _, rfl⟩ := A4.1 he; rfl)))) rfl (by simp [AV.cln, Ez]) ?_; simp [go_sem, hw1]; exact kk) ?_
   refine B2 ok0 6 ?_
   exact .ret (fin hw1 (⟨s.buf.drop ((y1.1 + a1.2).toNat), false⟩, y1.2.2 ++ ([a1.1])) (by first | exact ⟨hb.drop _, by simp; omega, by simp; omega, N0 hy1.2.2.1 hpy, _, hy1.2.2.2.symm.trans (Abi ha1 (by first | (simp [h23, h25]; done) | (simp [h23]; done)) (by first | (simp [h23]; done) | (rcases h26 with h | h <;> (simp [h]; done)) | (simp [h23, h26]; done)) (by simp; omega)), rfl⟩ | exact ⟨hb.drop _, by simp; omega, by dsimp only; omega, hy1.2.2.1, _, hy1.2.2.2.symm.trans (by rw [List.drop_eq_nil_of_le (by simp)]; rfl), rfl⟩))
  refine Bp ?_
  refine ⟨((y1.1 + a1.2), false, y1.2.2 ++ ([a1.1])), ?_, ⟨[0, 1, 2, 3, 4, 5, 6], Ds (by decide) ?_ ?_, Fu rfl⟩⟩
  ·first | exact ⟨hsz.symm, by dsimp only; omega, hy1.2.2.1, (Abj ha1 h23 h25).symm.trans hy1.2.2.2⟩ | exact ⟨hsz.symm, by simp; omega, N0 hy1.2.2.1 hpy, (Abk ha1 (by first | (simp [h23, h25]; done) | (simp [h23]; done)) (by first | (simp [h23]; done) | (rcases h26 with h | h <;> (simp [h]; done)) | (simp [h23, h26]; done)) (by simp; omega)).symm.trans hy1.2.2.2⟩
  ·simp [go_sem]
  simp [go_sem, hw1]
 -- done
 simp only [A2] at hy1
 have ho := Ac3 hb (k := (Pw s.buf).length) (Aj _)
 refine Cz (fun K kk => by simp [go_sem]; (repeat refine aK ?_); refine .lo (Ei.froz (Ee _ (by first | (simp; done) | (simp; omega) | (simp; assumption)) (by first | (simp [T.plain]; done) | (rw [Am]; intro e he; repeat (first | replace he := Aq he | replace he := Ay he); obtain ⟨x, _, rfl⟩ := A4.1 he; rfl)))) rfl (by simp [AV.cln, Ez]) ?_; simp [go_sem]; exact kk) ?_
 refine B2 ok0 6 ?_
 exact .ret (fin ok0 (⟨s.buf.drop y1.1.toNat, y1.2.1⟩, y1.2.2) (by first | exact ⟨hb.drop _, by simp; omega, by simp; omega, N0 hy1.2.2.1 hpy, _, hy1.2.2.2.symm.trans (Abi ha1 (by first | (simp [h23, h25]; done) | (simp [h23]; done)) (by first | (simp [h23]; done) | (rcases h26 with h | h <;> (simp [h]; done)) | (simp [h23, h26]; done)) (by simp; omega)), rfl⟩ | exact ⟨hb.drop _, by simp; omega, by dsimp only; omega, hy1.2.2.1, _, hy1.2.2.2.symm.trans (by rw [List.drop_eq_nil_of_le (by simp)]; rfl), rfl⟩))
noncomputable def K4 (s : P8) (n : Int) (hl : s.buf.length <= 256) (hb : By s.buf) : P8 × List Fq := (got (Qt s n hl hb)).choose
theorem Aeu (s : P8) (n : Int) (hl : s.buf.length <= 256) (hb : By s.buf) : By (K4 s n hl hb).1.buf /\ (K4 s n hl hb).1.buf.length <= 256 /\ (K4 s n hl hb).2.length <= 256 /\ (∀ x ∈ (K4 s n hl hb).2, x.pay.length <= 256) /\ TkR n s (K4 s n hl hb) := (got (Qt s n hl hb)).choose_spec.2
theorem Ad2 (s : P8) (n : Int) (hl : s.buf.length <= 256) (hb : By s.buf) : Ct 93 [s.g, .li n] (fun d : P8 × List Fq => .tup [d.1.g, .mItem d.2]) (fun d => By d.1.buf /\ d.1.buf.length <= 256 /\ d.2.length <= 256 /\ (∀ x ∈ d.2, x.pay.length <= 256) /\ (0 < n -> TkR n s d)) := by
 refine Ek Tryz.func93 ?_
 refine Bq <| .seq ?_
 refine Bq ?_
 refine Br ?_ ?_ <;> intro h7
 ·refine Cz (fun K kk => by simp [go_sem]; refine .lo (Ei.froz (Ee _ (by first | (simp; done) | (simp; omega) | (simp; assumption)) (by first | (simp [T.plain]; done) | (rw [Am]; intro e he; repeat (first | replace he := Aq he | replace he := Ay he); obtain ⟨x, _, rfl⟩ := A4.1 he; rfl)))) rfl (by simp [AV.cln, Ez]) ?_; simp [go_sem]; exact kk) ?_
  exact .ret (fin ok0 (s, []) (by first | exact ⟨hb, hl, Ae _, (fun x h => by cases h), fun h => by omega⟩ | exact (have h := Aeu s n hl hb; ⟨h.1, h.2.1, h.2.2.1, h.2.2.2.1, fun _ => h.2.2.2.2⟩)))
 refine Bp ?_
 refine VX.sel1 1 rfl rfl (by simp) ?_
 simp [go_sem, -Prod.exists]
 obtain ⟨Y1, cY1, qY1⟩ := got (Qt s n hl hb)
 refine B8 ok0 cY1 ?_
 exact .ret (fin ok0 (Y1.1, Y1.2) (by first | exact ⟨hb, hl, Ae _, (fun x h => by cases h), fun h => by omega⟩ | exact (have h := qY1; ⟨h.1, h.2.1, h.2.2.1, h.2.2.2.1, fun _ => h.2.2.2.2⟩)))
theorem Agf (s : E6) (hl : s.st.buf.length <= 256) (hb : By s.st.buf) : Ct 64 [s.g] (fun d : E6 × Gi => .tup [d.1.g, d.2.g]) (fun d => By d.1.st.buf /\ d.1.st.buf.length <= 256 /\ (d.2.items.length <= 257 /\ d.2.op = s.op) /\ (∀ x ∈ d.2.items, x.pay.length <= 256) /\ Aup s d) := by
 refine Ek Tryz.func64 ?_
 obtain ⟨Y1, cY1, qY1⟩ := got (Ad2 s.st 4 hl hb)
 have hQ := qY1
 refine Bq <| .seq ?_
 refine Bq ?_
 refine Br ?_ ?_ <;> intro h9
 ·refine B8 ok0 (J9 s (by first | assumption | omega)) ?_
  refine Bz (Ex ?_); simp [go_sem, Ba 1]
  exact ⟨(s, ⟨false, []⟩), by first | rfl | simp [go_sem], (by first | exact ⟨hb, hl, ⟨Ae _, by dsimp only; rw [h9]⟩, (fun x h => by cases h), fun _ => rfl, fun h => by rw [h9] at h; cases h⟩ | exact ⟨hQ.1, hQ.2.1, ⟨by have := hQ.2.2.1; simp; omega, by dsimp only; rw [h9]⟩, (fun x h => by rcases A0.1 h with h | h; (rw [An.1 h]; simp); exact hQ.2.2.2.1 x h), (fun h => by rw [h9] at h; cases h), fun _ => ⟨_, hQ.2.2.2.2 (by decide), by rw [h9, h15]; rfl⟩⟩ | exact ⟨hQ.1, hQ.2.1, ⟨by have := hQ.2.2.1; first | omega | (simp; omega), by dsimp only; rw [h9]⟩, hQ.2.2.2.1, (fun h => by rw [h9] at h; cases h), fun _ => ⟨_, hQ.2.2.2.2 (by decide), by rw [h9, h15]; rfl⟩⟩)⟩
 refine Bp <| .R <| .seq ?_
 refine Bq ?_
 refine Br ?_ ?_ <;> intro h15
 ·refine B0 ok0 ?_
  refine B8 ok0 cY1 ?_
  iterate 2 refine Bq ?_
  refine Bu ok0 ?_
  refine VX.D ?_
  refine B2 ok0 5 ?_
  refine Bz (Ex ?_); simp [go_sem, Ba 1]
  exact ⟨(⟨s.op, false, Y1.1⟩, ⟨true, ([⟨15, 0, []⟩]) ++ (Y1.2)⟩), by first | rfl | simp [go_sem], (by first | exact ⟨hb, hl, ⟨Ae _, by dsimp only; rw [h9]⟩, (fun x h => by cases h), fun _ => rfl, fun h => by rw [h9] at h; cases h⟩ | exact ⟨hQ.1, hQ.2.1, ⟨by have := hQ.2.2.1; simp; omega, by dsimp only; rw [h9]⟩, (fun x h => by rcases A0.1 h with h | h; (rw [An.1 h]; simp); exact hQ.2.2.2.1 x h), (fun h => by rw [h9] at h; cases h), fun _ => ⟨_, hQ.2.2.2.2 (by decide), by rw [h9, h15]; rfl⟩⟩ | exact ⟨hQ.1, hQ.2.1, ⟨by have := hQ.2.2.1; first | omega | (simp; omega), by dsimp only; rw [h9]⟩, hQ.2.2.2.1, (fun h => by rw [h9] at h; cases h), fun _ => ⟨_, hQ.2.2.2.2 (by decide), by rw [h9, h15]; rfl⟩⟩)⟩
 refine Bp <| .L ok0 cY1 ?_
 iterate 2 refine Bq ?_
 refine Bu ok0 ?_
 refine VX.D ?_
 refine B2 ok0 5 ?_
 refine Bz (Ex ?_); simp [go_sem, Ba 1]
 exact ⟨(⟨s.op, false, Y1.1⟩, ⟨true, Y1.2⟩), by first | rfl | simp [go_sem], (by first | exact ⟨hb, hl, ⟨Ae _, by dsimp only; rw [h9]⟩, (fun x h => by cases h), fun _ => rfl, fun h => by rw [h9] at h; cases h⟩ | exact ⟨hQ.1, hQ.2.1, ⟨by have := hQ.2.2.1; simp; omega, by dsimp only; rw [h9]⟩, (fun x h => by rcases A0.1 h with h | h; (rw [An.1 h]; simp); exact hQ.2.2.2.1 x h), (fun h => by rw [h9] at h; cases h), fun _ => ⟨_, hQ.2.2.2.2 (by decide), by rw [h9, h15]; rfl⟩⟩ | exact ⟨hQ.1, hQ.2.1, ⟨by have := hQ.2.2.1; first | omega | (simp; omega), by dsimp only; rw [h9]⟩, hQ.2.2.2.1, (fun h => by rw [h9] at h; cases h), fun _ => ⟨_, hQ.2.2.2.2 (by decide), by rw [h9, h15]; rfl⟩⟩)⟩
theorem Aib (s : P8) (b : List Int) (h1 : s.buf.length <= 256) (h2 : b.length <= 1000000) : Ct 62 [s.g, .mY b] (fun d : P8 × Bool => .tup [d.1.g, .lb d.2]) (fun d => d.1.buf.length <= 256 /\ (By s.buf -> By b -> By d.1.buf)) := by
 refine Ek Tryz.func62 ?_
 have ht : List.take b.length (tY b) = tY b := by rw [Bf (by simp)]
 have hnn : ¬ (256 - (s.buf.length : Int) < 0) := by omega
 refine Bu (cj2 hnn ht) ?_
 by_cases hc1 : 256 - (s.buf.length : Int) < b.length
 ·have hw1 := Dt (256 - s.buf.length : Int)
  refine Bu (cj4 hnn ht hc1 hw1) ?_
  have hw2 := Dt (s.buf.length + (256 - s.buf.length) : Int)
  refine Bu (cj5 hnn ht hc1 hw1 hw2) ?_
  refine Bu (cj5 hnn ht hc1 hw1 hw2) ?_
  refine Bu (cj5 hnn ht hc1 hw1 hw2) ?_
  refine Bu (cj5 hnn ht hc1 hw1 hw2) ?_
  refine B2 ok0 2 ?_
  exact .ret (fin (cj5 hnn ht hc1 hw1 hw2) (⟨((List.replicate 0 0) ++ s.buf) ++ (b.take (256 - s.buf.length)), s.gar⟩, (((256 - s.buf.length) : Int) == b.length)) ⟨by simp; omega, fun hs hb x hx => by simp only [A0, List.replicate_zero, A8, false_or] at hx; rcases hx with h | h; exact hs x h; first | exact hb x (Aq h) | exact hb x h⟩)
 have hw3 := Dt (256 - s.buf.length : Int)
 refine Bu (cj4 hnn ht hc1 hw3) ?_
 have hw4 := Dt (s.buf.length + b.length : Int)
 refine Bu (cj5 hnn ht hc1 hw3 hw4) ?_
 refine Bu (cj5 hnn ht hc1 hw3 hw4) ?_
 refine Bu (cj5 hnn ht hc1 hw3 hw4) ?_
 refine Bu (cj5 hnn ht hc1 hw3 hw4) ?_
 refine B2 ok0 2 ?_
 exact .ret (fin (cj5 hnn ht hc1 hw3 hw4) (⟨((List.replicate 0 0) ++ s.buf) ++ (b.take b.length), s.gar⟩, ((b.length : Int) == b.length)) ⟨by simp; omega, fun hs hb x hx => by simp only [A0, List.replicate_zero, A8, false_or] at hx; rcases hx with h | h; exact hs x h; first | exact hb x (Aq h) | exact hb x h⟩)
theorem Tx (s : E6) : Ct 40 [s.g] (fun d : E6 => d.g) (fun d => d.st.buf.length <= 256 /\ By d.st.buf) := by
 refine Ek Tryz.func40 ?_
 iterate 2 refine Bq ?_
 exact .ret (fin ok0 ⟨false, false, ⟨[], false⟩⟩ ⟨Ae _, fun x hx => by cases hx⟩)
noncomputable def Lv (s : E6) : E6 := (got (Tx s)).choose
theorem Aiv (s : E6) : PP 40 [] [s.g] [] (.agg ((Lv s).a false)) := (got (Tx s)).choose_spec.1
theorem Ajo (s : E6) : (Lv s).st.buf.length <= 256 /\ By (Lv s).st.buf := (got (Tx s)).choose_spec.2
theorem Tw (s : E6) (h1 : s.st.buf.length <= 256) : Ct 39 [s.g] (fun d : E6 => d.g) (fun d => d.st.buf.length <= 256 /\ (By s.st.buf -> By d.st.buf) /\ d.op = true /\ (s.op = false -> d = ⟨true, false, ⟨[], false⟩⟩)) := by
 refine Ek Tryz.func39 ?_
 have h1M : s.st.buf.length <= 1000000 := by omega
 refine Bq <| .seq ?_
 refine Bq ?_
 refine Br ?_ ?_ <;> intro h4
 ·refine B8 ok0 (J9 s h1M) ?_
  exact .ret (fin ok0 s (by first | exact ⟨h1, (fun h => h), h4, fun h => by rw [h4] at h; cases h⟩ | exact ⟨Ae _, (fun _ x hx => by cases hx), rfl, fun _ => rfl⟩))
 refine Bp <| .R ?_
 exact .ret (fin ok0 ⟨true, false, ⟨[], false⟩⟩ (by first | exact ⟨h1, (fun h => h), h4, fun h => by rw [h4] at h; cases h⟩ | exact ⟨Ae _, (fun _ x hx => by cases hx), rfl, fun _ => rfl⟩))
noncomputable def Iq (s : E6) (h1 : s.st.buf.length <= 256) : E6 := (got (Tw s h1)).choose
theorem Aiu (s : E6) (h1 : s.st.buf.length <= 256) : PP 39 [] [s.g] [] (.agg ((Iq s h1).a false)) := (got (Tw s h1)).choose_spec.1
theorem Z3 (s : E6) (h1 : s.st.buf.length <= 256) : (Iq s h1).st.buf.length <= 256 /\ (By s.st.buf -> By (Iq s h1).st.buf) /\ (Iq s h1).op = true /\ (s.op = false -> (Iq s h1) = ⟨true, false, ⟨[], false⟩⟩) := (got (Tw s h1)).choose_spec.2
theorem Tv (s : E6) (b : List Int) (h1 : s.st.buf.length <= 256) (h2 : b.length <= 1000000) : Ct 41 [s.g, .mY b] (fun d : E6 => d.g) (fun d => d.st.buf.length <= 256 /\ (By s.st.buf -> By b -> By d.st.buf)) := by
 refine Ek Tryz.func41 ?_
 obtain ⟨Y1, cY1, qY1⟩ := got (Aib s.st b h1 h2)
 have hq := qY1
 have hv := cY1
 generalize Y1 = G at hq hv
 refine Bq <| .seq ?_
 refine Bq ?_
 refine Br ?_ ?_ <;> intro h9
 ·refine B8 ok0 (J9 s (by omega)) ?_
  exact .ret (fin ok0 s (by first | exact ⟨h1, fun h _ => h⟩ | exact hq))
 refine Bp <| .L ok0 (hv) ?_
 refine Bq <| .seq ?_
 refine Bq ?_
 refine Br ?_ ?_ <;> intro h22
 ·refine Ci ?_
  refine Bq ?_
  exact .ret (fin ok0 ⟨s.op, true, G.1⟩ (by first | exact ⟨h1, fun h _ => h⟩ | exact hq))
 refine Bp <| .R ?_
 exact .ret (fin ok0 ⟨s.op, s.dr, G.1⟩ (by first | exact ⟨h1, fun h _ => h⟩ | exact hq))
noncomputable def Lu (s : E6) (b : List Int) (h1 : s.st.buf.length <= 256) (h2 : b.length <= 1000000) : E6 := (got (Tv s b h1 h2)).choose
theorem Ait (s : E6) (b : List Int) (h1 : s.st.buf.length <= 256) (h2 : b.length <= 1000000) : PP 41 [] [s.g, .mY b] [] (.agg ((Lu s b h1 h2).a false)) := (got (Tv s b h1 h2)).choose_spec.1
theorem Ajn (s : E6) (b : List Int) (h1 : s.st.buf.length <= 256) (h2 : b.length <= 1000000) : (Lu s b h1 h2).st.buf.length <= 256 /\ (By s.st.buf -> By b -> By (Lu s b h1 h2).st.buf) := (got (Tv s b h1 h2)).choose_spec.2
def Aml (s : E6) : Prop := s.st.buf.length <= 256 /\ By s.st.buf
structure Tn (b : I7) : Prop where
  city : Jp b.city
  n : b.sess.length <= 8
  ses : ∀ s ∈ b.sess, Aml s
theorem Tn.b {b : I7} (h : Tn b) : Awq b := ⟨h.city.b, Ak h.n (by decide), fun t ht => Ak (h.ses t ht).1 (by decide)⟩
theorem Aif (c : Fa) (a : Int) (hl : c.ags.length <= 4) (hA : ∀ x ∈ c.ags, 1 <= x.se /\ x.se <= 2) (ha : a = c.ags.length) : Ct 30 [c.g, .li a] (fun d : Int => .li d) (fun d => 0 <= d /\ d <= 8 /\ d = (c.ags.map TAg.se).sum) := by
 refine Ek Tryz.func30 ?_
 refine Bq ?_
 refine Bq <| .seq ?_
 refine Bq <| .block ?_
 refine Bs c.ags.length (fun i1 (y1 : Int) => ⟨[(1, .li a), (5, .li y1), (9, .mAg c.ags), (10, .li c.ags.length), (11, .li i1)], []⟩) (fun i1 y1 => (i1 : Int) <= y1 /\ y1 <= 2 * i1 /\ y1 = ((c.ags.take i1).map TAg.se).sum) (0) (wk ok0 []) (⟨by simp, by simp, rfl⟩) fun i1 y1 hi1 hy1 => ?_
 refine Bq <| .seq ?_
 refine Br ?_ ?_ <;> intro h12
 ·refine Bp <| .seq <| .block ?_
  obtain ⟨e1, H1⟩ := gx c.ags i1
  refine Bu H1 <| .seq ?_
  have hA1 := hA e1 (Ac H1)
  refine Bu H1 ?_
  refine C5 ?_ ?_ <;> intro h18 <;> simp [go_sem] at h18
  ·exfalso; omega
  refine Bp ?_
  have hw2 := Dt (y1 + e1.se : Int)
  refine B0 (cj2 H1 hw2) ?_
  refine B0 (cj2 H1 hw2) ?_
  exact ⟨by omega, ((y1 + e1.se)), ⟨by omega, by omega, by rw [List.take_add_one, H1]; simp only [List.map_append, List.sum_append, Option.toList_some, List.map_cons, List.map_nil, List.sum_cons, List.sum_nil]; omega⟩, wk (cj3 (Dt ((i1 : Int) + 1)) H1 hw2) []⟩
 refine Bt <| .R ?_
 exact .ret (fin ok0 y1 ⟨by omega, by omega, by have h := hy1.2.2; rwa [Bf (by omega)] at h⟩)
theorem Sc (c : Fa) (hb : Zn c) (hp : Mt c = true) (hJ : ∀ j ∈ c.juns, Mn j /\ j.phs.length <= 8) (hA : ∀ a ∈ c.ags, a.sec.length <= 1000000 /\ a.lims.length <= 1000000 /\ a.rq <= 3) (hl1 : c.juns.length <= 4) (hl2 : c.ags.length <= 4) (hS : ∀ x ∈ c.ags, 1 <= x.se /\ x.se <= 2) : Ct 12 [c.g] (fun d : I7 => d.g) (fun d => Tn d /\ d.city.cfg = c /\ d.city.now = 0 /\ (d.sess.length : Int) = (c.ags.map TAg.se).sum /\ (∀ s ∈ d.sess, s = ⟨false, false, ⟨[], false⟩⟩) /\ ∀ (k : Nat) (a : TAg), c.ags[k]? = some a -> ∃ h1 h2, d.city.desks[k]? = some (E9 k a h1 h2)) := by
 refine Ek Tryz.func12 ?_
 obtain ⟨Y1, cY1, qY1⟩ := got (Aie c hb hp hJ hA hl1 hl2 hS)
 have hNv := cY1
 have hNq := qY1
 generalize Y1 = N at hNv hNq
 have hNr := hNq.1.ref
 obtain ⟨Y2, cY2, qY2⟩ := got (Aif c c.ags.length hl2 hS rfl)
 have hBv := cY2
 have hBq := qY2
 generalize Y2 = B at hBv hBq
 refine Bq ?_
 refine B8 ok0 (hNv) <| .seq ?_
 refine Bq ?_
 refine C5 ?_ ?_ <;> intro h10 <;> simp [go_sem, hNr] at h10
 refine Do ok0 (hBv) ?_
 refine Bq ?_
 refine B2 ok0 3 ?_
 exact .ret (fin ok0 ⟨N, List.replicate B.toNat ⟨false, false, ⟨[], false⟩⟩⟩ ⟨⟨hNq.1, by simp; omega, fun s hs => by have := List.eq_of_mem_replicate hs; subst this; exact ⟨Ae _, fun x hx => by cases hx⟩⟩, hNq.2.1, hNq.2.2.1, by simp; omega, (fun s hs => List.eq_of_mem_replicate hs), hNq.2.2.2⟩)
noncomputable def Fl (c : Fa) (hb : Zn c) (hp : Mt c = true) (hJ : ∀ j ∈ c.juns, Mn j /\ j.phs.length <= 8) (hA : ∀ a ∈ c.ags, a.sec.length <= 1000000 /\ a.lims.length <= 1000000 /\ a.rq <= 3) (hl1 : c.juns.length <= 4) (hl2 : c.ags.length <= 4) (hS : ∀ x ∈ c.ags, 1 <= x.se /\ x.se <= 2) : I7 := (got (Sc c hb hp hJ hA hl1 hl2 hS)).choose
theorem Agz (c : Fa) (hb : Zn c) (hp : Mt c = true) (hJ : ∀ j ∈ c.juns, Mn j /\ j.phs.length <= 8) (hA : ∀ a ∈ c.ags, a.sec.length <= 1000000 /\ a.lims.length <= 1000000 /\ a.rq <= 3) (hl1 : c.juns.length <= 4) (hl2 : c.ags.length <= 4) (hS : ∀ x ∈ c.ags, 1 <= x.se /\ x.se <= 2) : PP 12 [] [c.g] [] (.agg ((Fl c hb hp hJ hA hl1 hl2 hS).a false)) := (got (Sc c hb hp hJ hA hl1 hl2 hS)).choose_spec.1
theorem So (c : Fa) (hb : Zn c) (hp : Mt c = true) (hJ : ∀ j ∈ c.juns, Mn j /\ j.phs.length <= 8) (hA : ∀ a ∈ c.ags, a.sec.length <= 1000000 /\ a.lims.length <= 1000000 /\ a.rq <= 3) (hl1 : c.juns.length <= 4) (hl2 : c.ags.length <= 4) (hS : ∀ x ∈ c.ags, 1 <= x.se /\ x.se <= 2) : Tn (Fl c hb hp hJ hA hl1 hl2 hS) /\ (Fl c hb hp hJ hA hl1 hl2 hS).city.cfg = c /\ (Fl c hb hp hJ hA hl1 hl2 hS).city.now = 0 /\ ((Fl c hb hp hJ hA hl1 hl2 hS).sess.length : Int) = (c.ags.map TAg.se).sum /\ (∀ s ∈ (Fl c hb hp hJ hA hl1 hl2 hS).sess, s = ⟨false, false, ⟨[], false⟩⟩) /\ ∀ (k : Nat) (a : TAg), c.ags[k]? = some a -> ∃ h1 h2, (Fl c hb hp hJ hA hl1 hl2 hS).city.desks[k]? = some (E9 k a h1 h2) := (got (Sc c hb hp hJ hA hl1 hl2 hS)).choose_spec.2
def Ar1 (b x : List E6) (l : List Gi) (i : Nat) : Prop := ∀ (k : Nat) (s : E6), k < i -> b[k]? = some s -> ∃ y p, x[k]? = some y /\ l[k]? = some p /\ Aup s (y, p)
theorem Ar1.next {b x : List E6} {l : List Gi} {i : Nat} {s : E6} {K : E6 × Gi} (h : Ar1 b x l i) (hs : b[i]? = some s) (hK : Aup s K) (hx : i < x.length) (hl : i < l.length) : Ar1 b (x.set i K.1) (l.set i K.2) (i + 1) := fun k s' hk hs' => by
 by_cases e : k = i
 ·subst e
  rw [hs] at hs'
  injection hs' with hs'
  subst hs'
  exact ⟨K.1, K.2, Bg hx, Bg hl, hK⟩
 rw [A9 (Ne.symm e), A9 (Ne.symm e)]
 exact h k s' (by omega) hs'
theorem Asw {l : List (List Int)} {s : List (List Dz)} {i : Nat} {F : List Int} {e : List Dz} (h : ∀ (k : Nat) (q : List Dz) (o : List Int), k < i -> s[k]? = some q -> l[k]? = some o -> o = (q.map Zg).flatten) (he : s[i]? = some e) (hF : F = (e.map Zg).flatten) (hi : i < l.length) : ∀ (k : Nat) (q : List Dz) (o : List Int), k < i + 1 -> s[k]? = some q -> (l.set i F)[k]? = some o -> o = (q.map Zg).flatten := fun k q o hk hs hp => by
 by_cases e' : k = i
 ·subst e'
  rw [Bg hi] at hp
  rw [he] at hs
  injection hp with hp
  injection hs with hs
  rw [<- hp, <- hs]
  exact hF
 rw [A9 (fun e2 => e' e2.symm)] at hp
 exact h k q o (by omega) hs hp
def Awe (b : I7) (d : I7 × Oz) : Prop := ∃ l s, l.length = b.sess.length /\ Ar1 b.sess d.1.sess l b.sess.length /\ Awf b.city l (d.1.city, s) /\ s.ses.length = d.2.ses.length /\ ∀ (k : Nat) (q : List Dz) (o : List Int), s.ses[k]? = some q -> d.2.ses[k]? = some o -> o = (q.map Zg).flatten
theorem Aaf (b : I7) (hb : Tn b) : Cx 44 [.row 100 4 false false (V1 b.sess)] [.agg [.mJun b.city.cfg.juns, .mAg b.city.cfg.ags, .li b.city.cfg.per, .li b.city.cfg.cap, .li b.city.cfg.hold, .li b.city.cfg.lock, .lb b.city.ref, .li b.city.now, .mDesk b.city.desks, .mSig b.city.sigs, .mSvc b.city.svcs, .mI b.city.stuck, .mView b.city.views, .own 0 b.sess.length]] (fun d : I7 × Oz => [.row 100 4 false true (V1 d.1.sess)]) (fun d => .tup [d.1.g, d.2.g]) (fun d => Tn d.1 /\ d.1.city.cfg = b.city.cfg /\ d.1.sess.length = b.sess.length /\ (d.2.ses.length : Int) = En b.city.cfg.ags b.city.cfg.ags.length /\ d.1.city.now = IntKind.i64.wrap ((if 1073741823 < b.city.now then 1073741823 else b.city.now) + 1) /\ Awe b d) := by
 refine R3 Tryz.func44 ?_
 have hbn := hb.n
 refine Bq ?_
 refine Bu ok0 <| .seq ?_
 refine Bq <| .block ?_
 refine Bs b.sess.length (fun i1 (y1 : (List E6) × (List Gi)) => ⟨[(1, .ptr 1 0), (2, .ptr 2 0), (3, .ptr 3 0), (4, .own 4 y1.2.length), (17, .li b.sess.length), (18, .li i1)], [.row 100 4 false false (V1 y1.1), .box 40 [.mJun b.city.cfg.juns, .mAg b.city.cfg.ags, .li b.city.cfg.per, .li b.city.cfg.cap, .li b.city.cfg.hold, .li b.city.cfg.lock, .lb b.city.ref, .li b.city.now, .mDesk b.city.desks, .mSig b.city.sigs, .mSvc b.city.svcs, .mI b.city.stuck, .mView b.city.views, .own 0 y1.1.length], .box 40 [.nil 3, .nil 8, .li 0, .li 0, .li 0, .li 0, .lb false, .li 0, .nil 17, .nil 5, .nil 3, .nil 1, .nil 4, .nil 4], .box 49 [.nil 1, .nil 1], .row 149 2 false false (Asg y1.2)]⟩) (fun i1 y1 => y1.1.length = b.sess.length /\ (∀ s ∈ y1.1, Aml s) /\ y1.2.length = b.sess.length /\ (∀ p ∈ y1.2, Atn p) /\ (∀ k, i1 <= k -> y1.1[k]? = b.sess[k]?) /\ Ar1 b.sess y1.1 y1.2 i1) (b.sess, List.replicate b.sess.length ⟨false, []⟩) (wk ok0 [0, 1, 2, 3, 4]) (⟨rfl, hb.ses, by simp, fun p hp => by have := List.eq_of_mem_replicate hp; subst this; exact ⟨Ae _, fun t ht => by cases ht⟩, (fun _ _ => rfl), fun k s hk => absurd hk (Nat.not_lt_zero _)⟩) fun i1 y1 hi1 hy1 => ?_
 refine Bq <| .seq ?_
 refine Br ?_ ?_ <;> intro h19
 ·refine Bp <| .seq <| .block <| .R ?_
  have hl1 := hy1.1
  have hl2 := hy1.2.2.1
  obtain ⟨sk, hsk⟩ : ∃ e, y1.1[i1]? = some e := ⟨_, Aa (by omega)⟩
  have hsq := hy1.2.1 sk (Ac hsk)
  obtain ⟨Y1, cY1, qY1⟩ := got (Agf sk hsq.1 hsq.2)
  have hKv := cY1
  have hKq := qY1
  generalize Y1 = K at hKv hKq
  obtain ⟨e1, H1⟩ := gx y1.2 i1
  refine Co (cj2 H1 hsk) (hKv) ?_
  refine B0 H1 ?_
  exact ⟨by omega, ((y1.1).set i1 K.1, (y1.2).set i1 K.2), ⟨by simpa using hl1, Uz hy1.2.1 ⟨hKq.2.1, hKq.1⟩, by simpa using hl2, Uz hy1.2.2.2.1 ⟨hKq.2.2.1.1, fun t ht => Ak (hKq.2.2.2.1 t ht) (by decide)⟩, (fun k hk => by rw [A9 (by omega)]; exact hy1.2.2.2.2.1 k (by omega)), hy1.2.2.2.2.2.next ((hy1.2.2.2.2.1 i1 (Aj _)).symm.trans hsk) hKq.2.2.2.2 (by omega) (by omega)⟩, wk (cj2 (Dt ((i1 : Int) + 1)) H1) [0, 1, 2, 3, 4]⟩
 refine Bt ?_
 have hi2 : y1.2.length <= 1000 := by have := hy1.2.2.1; omega
 obtain ⟨Y2, cY2, qY2⟩ := got (Agc b.city y1.2 hb.city hi2 hy1.2.2.2.1)
 have hTv := cY2
 have hTq := qY2
 generalize Y2 = D at hTv hTq
 refine B2 ok0 4 ?_
 refine B8 ok0 (hTv) ?_
 refine Bq ?_
 have hnb := Kc b.city.cfg.ags b.city.cfg.ags.length
 have hna := hb.city.na
 have hsl : D.2.ses.length <= 8 := by have := hTq.2.2.1; omega
 have hfl : D.2.feed.length <= 1000 := by have := hTq.2.2.2.2.1; omega
 have hfm : ∀ m ∈ D.2.feed, m.tok.length <= 10000 /\ m.args.length <= 10000 /\ m.data.length <= 10000 := fun m hm => (hTq.2.2.2.2.2.1 m hm).v
 obtain ⟨Y3, cY3, qY3⟩ := got (S0 D.2.feed hfl hfm)
 refine Da ok0 cY3 <| .seq ?_
 refine Bq <| .block ?_
 refine Bs D.2.ses.length (fun i2 (y2 : (List E6) × (List (List Int))) => ⟨[(1, .ptr 1 0), (2, .ptr 2 0), (3, .ptr 3 0), (8, .ptr 5 0), (56, .imm false 1 (Qg D.2.ses)), (57, .li D.2.ses.length), (58, .li i2)], [.row 100 4 false false (V1 y2.1), .box 40 [.mJun D.1.cfg.juns, .mAg D.1.cfg.ags, .li D.1.cfg.per, .li D.1.cfg.cap, .li D.1.cfg.hold, .li D.1.cfg.lock, .lb D.1.ref, .li D.1.now, .mDesk D.1.desks, .mSig D.1.sigs, .mSvc D.1.svcs, .mI D.1.stuck, .mView D.1.views, .own 0 y2.1.length], .box 40 [.nil 3, .nil 8, .li 0, .li 0, .li 0, .li 0, .lb false, .li 0, .nil 17, .nil 5, .nil 3, .nil 1, .nil 4, .nil 4], .box 49 [.nil 1, .nil 1], .row 44 1 false false (tYs y2.2), .box 49 [.own 4 y2.2.length, .mY Y3]]⟩) (fun i2 y2 => y2.1 = y1.1 /\ y2.2.length = D.2.ses.length /\ ∀ (k : Nat) (q : List Dz) (o : List Int), k < i2 -> D.2.ses[k]? = some q -> y2.2[k]? = some o -> o = (q.map Zg).flatten) (y1.1, List.replicate D.2.ses.length []) (wk ok0 [0, 1, 2, 3, 7, 8]) (⟨rfl, by simp, fun k q o hk => absurd hk (Nat.not_lt_zero _)⟩) fun i2 y2 hi2 hy2 => ?_
 refine Bq <| .seq ?_
 refine Br ?_ ?_ <;> intro h59
 ·refine Bp <| .seq <| .block ?_
  obtain ⟨e2, H2⟩ := gx D.2.ses i2
  refine Bu H2 ?_
  have hl4 := hy2.2.1
  have hfe := hTq.2.2.2.1 _ (Ac H2)
  have hfe1 : e2.length <= 1000 := by omega
  have hfe2 : ∀ m ∈ e2, m.tok.length <= 10000 /\ m.args.length <= 10000 /\ m.data.length <= 10000 := fun m hm => (hfe.2 m hm).v
  obtain ⟨e3, H3⟩ := gx y2.2 i2
  obtain ⟨Y4, cY4, qY4⟩ := got (S0 e2 hfe1 hfe2)
  refine Co (cj2 H2 H3) cY4 ?_
  refine B0 (cj2 H2 H3) ?_
  exact ⟨by omega, (y2.1, (y2.2).set i2 Y4), ⟨hy2.1, by simpa using hl4, Asw hy2.2.2 H2 qY4 (by omega)⟩, wk (cj3 (Dt ((i2 : Int) + 1)) H2 H3) [0, 1, 2, 3, 4, 5]⟩
 refine Bt <| .D ?_
 refine B2 ok0 0 ?_
 refine B2 ok0 4 ?_
 exact .ret ⟨(⟨D.1, y2.1⟩, ⟨y2.2, Y3⟩), rW ok0 [0], ⟨⟨hTq.1, by dsimp only; rw [hy2.1]; have := hy1.1; omega, by dsimp only; rw [hy2.1]; exact hy1.2.1⟩, hTq.2.1, by dsimp only; rw [hy2.1]; exact hy1.1, by rw [<- hTq.2.2.1]; dsimp only; rw [hy2.2.1], hTq.2.2.2.2.2.2.1, y1.2, D.2, hy1.2.2.1, by dsimp only; rw [hy2.1]; have h := hy1.2.2.2.2.2; rwa [show i1 = b.sess.length by omega] at h, hTq.2.2.2.2.2.2.2, hy2.2.1.symm, fun k q o hq ho => hy2.2.2 k q o (by have := (Ab.1 hq).1; omega) hq ho⟩⟩
end Go.Proofs.YtkkimgjinbaemaaGreat
