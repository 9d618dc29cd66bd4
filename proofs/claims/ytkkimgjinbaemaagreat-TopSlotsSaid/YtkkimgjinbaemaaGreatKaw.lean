/- The walk. -/
import Derived.Test.YtkkimgjinbaemaaGreatKav
namespace Go.Proofs.YtkkimgjinbaemaaGreat
open Go.RowKit
set_option linter.unusedVariables false
set_option linter.unusedSimpArgs false
set_option maxRecDepth 100000
set_option maxHeartbeats 4000000
theorem HdR.quiet {cfg : Fa} {y : Du} {ses now : Int} {t : Fq} {d : Du × Dz × Gc × Int} (h : HdR cfg y ses t now d) : (∀ j : Nat, (j : Int) ≠ ses -> d.1.aud[j]? = y.aud[j]?) /\ d.1.reg.ag = y.reg.ag := by
 obtain ⟨hd, hp, rfl⟩ := h
 obtain ⟨h1, e, h2, h3, _⟩ := Nq cfg y ses t now hd hp
 exact ⟨fun j hj => by rw [h3]; exact h2.aud_eq j hj, h1.2.2.2.1⟩
theorem ItR.quiet {cfg : Fa} {ses now : Int} {x y : Du} {l : List Fq} {r : List Dz} {e : List Gc} {s : List Int} (h : ItR cfg ses now x l y r e s) : (∀ j : Nat, (j : Int) ≠ ses -> y.aud[j]? = x.aud[j]?) /\ y.reg.ag = x.reg.ag := by
 induction h with
 | nil => exact ⟨fun _ _ => rfl, rfl⟩
 | app h hd ih => exact ⟨fun j hj => (hd.quiet.1 j hj).trans (ih.1 j hj), hd.quiet.2.trans ih.2⟩
theorem ItR.none {cfg : Fa} {ses now : Int} {x y : Du} {l : List Fq} {r : List Dz} {e : List Gc} {s : List Int} (h : ItR cfg ses now x l y r e s) (hl : l = []) : y = x /\ r = [] := by
 cases h with
 | nil => exact ⟨rfl, rfl⟩
 | app => simp at hl
theorem Ahk {α : Type} {l : List α} {a d : α} {j : Nat} (h : (l[j]?).getD d = d) (ha : j = l.length -> a = d) : ((l ++ [a])[j]?).getD d = d := by
 by_cases h1 : j < l.length
 ·rw [Au h1]; exact h
 by_cases h2 : j = l.length
 ·rw [h2, List.getElem?_concat_length]; exact ha h2
 rw [Ar (by simp; omega)]; rfl
theorem SeR.quiet {cfg : Fa} {now : Int} {x y : Du} {l : List Gi} {r : List (List Dz)} {e : List Gc} {s : List Int} (h : SeR cfg now x l y r e s) : r.length = l.length /\ y.reg.ag = x.reg.ag /\ ∀ j : Nat, (∀ p, l[j]? = some p -> p.items = []) -> y.aud[j]? = x.aud[j]? /\ (r[j]?).getD [] = [] := by
 induction h with
 | nil => exact ⟨rfl, rfl, fun j _ => ⟨rfl, rfl⟩⟩
 | closed h ho ih =>
  refine ⟨by simp [ih.1], ih.2.1, fun j hj => ?_⟩
  have h1 := ih.2.2 j fun p hp => hj p (by rw [Au (Ab.1 hp).1]; exact hp)
  exact ⟨h1.1, Ahk h1.2 fun _ => rfl⟩
 | opened h ho hi ih =>
  refine ⟨by simp [ih.1], hi.quiet.2.trans ih.2.1, fun j hj => ?_⟩
  have h1 := ih.2.2 j fun p hp => hj p (by rw [Au (Ab.1 hp).1]; exact hp)
  rename_i l y z r e e' s s' p q
  by_cases hl : j = l.length
  ·have h2 := hi.none (hj p (by rw [hl]; simp))
   rw [h2.1, h2.2]
   exact ⟨h1.1, Ahk h1.2 fun _ => rfl⟩
  exact ⟨(hi.quiet.1 j (by omega)).trans h1.1, Ahk h1.2 fun h => absurd h (by rw [ih.1]; exact hl)⟩
theorem Aqm {l : List Gi} {b n j : Nat} (h : j < n) : (X1 l b n)[j]? = some ((l[b + j]?).getD ⟨false, []⟩) := by simp [X1, h]
theorem Asb.quiet {c : Fe} {l : List Gi} {k : Nat} {d : Du} {a : TAg} {D : Du × List (List Dz) × List Gc × List Int} (h : Asb c l k d a D) {j : Nat} {p : Gi} (hj : (j : Int) < Ec a) (hp : l[(En c.cfg.ags k).toNat + j]? = some p) (hi : p.items = []) : (D.2.1[j]?).getD [] = [] /\ (d.aud[j]? ≠ some true -> D.1.aud[j]? ≠ some true) /\ D.1.reg.ag = d.reg.ag := by
 obtain ⟨hb, h1, h2, h3, h4, rfl⟩ := h
 have qb := Sn d c.now hb
 have qr := Ou d.reg c.now hb.reg
 obtain ⟨_, b, y, r, g1, g2, hbl, hba, hs, e1, e2⟩ := Up c.cfg (Ev d c.now hb) (X1 l (En c.cfg.ags k).toNat (Ec a).toNat) c.now h1 h2 h3 h4
 have hq := hs.quiet
 have hj' : ∀ p', ((X1 l (En c.cfg.ags k).toNat (Ec a).toNat).take (Ev d c.now hb).aud.length)[j]? = some p' -> p'.items = [] := fun p' hp' => by
  have hlt := (Ab.1 hp').1
  rw [A5] at hlt
  rw [Ag (by omega), Aqm (by omega), hp] at hp'
  injection hp' with hp'
  rw [<- hp']
  exact hi
 have hz := hq.2.2 j hj'
 refine ⟨?_, fun hd => ?_, ?_⟩
 ·rw [e2]
  by_cases hr : j < r.length
  ·rw [Au hr]; exact hz.2
  rw [Ao (by omega), List.getElem?_replicate]
  split <;> rfl
 ·rw [e1]
  show ¬ y.aud[j]? = some true
  rw [hz.1]
  show ¬ b[j]? = some true
  rcases hba j with h | h
  ·rw [h, qb.2.2.2.2]; exact hd
  rw [h]; decide
 rw [e1]
 show y.reg.ag = _
 rw [hq.2.1]
 show (Ev d c.now hb).reg.ag = _
 rw [qb.2.1]
 exact qr.2.1.2
def Aqv (c : Fa) : Nat := (c.juns.map fun j => 3 + j.phs.length).sum
theorem Aqu : ∀ {l : List Fr}, (∀ j ∈ l, Mn j /\ j.phs.length <= 8) -> (l.map fun j => 3 + j.phs.length).sum <= 11 * l.length
 | [], _ => Ae _
 | j :: l, h => by
  have h1 := (h j (List.mem_cons_self ..)).2
  have h2 := Aqu (l := l) fun w hw => h w (List.mem_cons_of_mem _ hw)
  show 3 + j.phs.length + (l.map fun j => 3 + j.phs.length).sum <= 11 * (l.length + 1)
  omega
theorem Asc {l : List Ft} {m : List Fr} (h : l.map (fun v => v.cnt.length) = m.map fun j => j.phs.length) : vwl l = (m.map fun j => 3 + j.phs.length).sum := by
 have e1 : (l.map fun v => 3 + v.cnt.length) = (l.map fun v => v.cnt.length).map (3 + ·) := by rw [List.map_map]; rfl
 have e2 : (m.map fun j => 3 + j.phs.length) = (m.map fun j => j.phs.length).map (3 + ·) := by rw [List.map_map]; rfl
 unfold vwl
 rw [e1, e2, h]
theorem Atx {n : Int} (h1 : 0 <= n) (h2 : n < 16384) : (Kx n).2 = 0 /\ (Kx n).1.length = if n < 128 then 1 else 2 := by
 have e : Kx n = (viN 5 n, 0) := by unfold Kx; rw [if_neg (by omega)]
 rw [e]
 refine ⟨rfl, ?_⟩
 show (viN 5 n).length = _
 rw [viN]
 by_cases h : 128 <= n
 ·rw [if_pos h, if_neg (by omega), A6, viN]
  have : n.fdiv (2 ^ min 7 64) = n / 128 := by rw [Int.fdiv_eq_ediv_of_nonneg _ (by decide)]; rfl
  rw [this, if_neg (by omega)]
  rfl
 rw [if_neg h, if_pos (by omega)]
 rfl
structure Af7 (C : Fa) (b : I7) (i j : Nat) (rq : Int) (t : Nat) : Prop where
  br : Tn b
  cfg : b.city.cfg = C
  now : b.city.now = t
  pl : ∃ a, C.ags[i]? = some a /\ (j : Int) < Ec a
  se : b.sess[(En C.ags i).toNat + j]? = some ⟨true, false, ⟨[], false⟩⟩
  dk : ∃ d, b.city.desks[i]? = some d /\ d.aud[j]? ≠ some true /\ d.reg.ag.rq = rq
theorem Arf {l : List E6} {e : TEv} {s : Nat} (h : e.se ≠ s) : (Th l e)[s]? = l[s]? := by
 unfold Th
 split
 ·split
  ·rw [A9 (by omega)]
  rfl
 rfl
theorem Alf {C : Fa} {b : I7} {i j t : Nat} {rq : Int} {e : TEv} (h : Af7 C b i j rq t) (he : EvQ e) (hk : e.kind ≠ 6) (hs : e.kind <= 3 -> e.se ≠ ((En C.ags i).toNat + j : Nat)) : Af7 C (doF b e).1 i j rq t /\ (doF b e).2.2 = false := by
 have hq := Lw b e h.br he
 rw [<- Zk h.br he] at hq
 refine ⟨⟨hq.i, hq.cfg.trans h.cfg, ?_, h.pl, ?_, ?_⟩, hq.none hk⟩
 ·by_cases h3 : e.kind <= 3
  ·rw [hq.few h3]; exact h.now
  exact (hq.keep (by omega) hk).2.1.trans h.now
 ·by_cases h3 : e.kind <= 3
  ·rw [hq.few h3]; show (Th b.sess e)[_]? = _; rw [Arf (hs h3)]; exact h.se
  rw [(hq.keep (by omega) hk).1]; exact h.se
 by_cases h3 : e.kind <= 3
 ·rw [hq.few h3]; exact h.dk
 obtain ⟨d, d1, d2, d3⟩ := h.dk
 obtain ⟨l, hl⟩ := (hq.keep (by omega) hk).2.2 i d d1
 exact ⟨_, hl, d2, d3⟩
theorem Ant {C : Fa} {b : I7} {i j t : Nat} {rq : Int} {e : TEv} (h : Af7 C b i j rq t) (he : EvQ e) (hk : e.kind = 6) (ht : t < 16000) : Af7 C (doF b e).1 i j rq (t + 1) /\ (doF b e).2.2 = true /\ ((doF b e).2.1.ses.length : Int) = En C.ags C.ags.length /\ ∃ o, (doF b e).2.1.ses[(En C.ags i).toNat + j]? = some o /\ o.length = 10 + Aqv C + (rq * 3).toNat + if t + 1 < 128 then 1 else 2 := by
 have hq := Lw b e h.br he
 rw [<- Zk h.br he] at hq
 generalize doF b e = D at hq ⊢
 obtain ⟨t1, t2, t3, hT⟩ := hq.tick hk
 obtain ⟨d, d1, d2, d3⟩ := h.dk
 obtain ⟨a, ha, hja⟩ := h.pl
 have hnow : D.1.city.now = ((t + 1 : Nat) : Int) := by
  rw [t3, h.now, if_neg (by omega), Dt _]
  rfl
 have hcfg : D.1.city.cfg = C := hq.cfg.trans h.cfg
 obtain ⟨l, S, hl, hTk, hTic, hsl, hout⟩ := hT
 have hsi := (Ab.1 h.se).1
 obtain ⟨x, p, hx, hp, hK⟩ := hTk _ _ hsi h.se
 obtain ⟨ee, ⟨u, hu, hu2⟩, hee⟩ := hK.2 rfl
 have hps : Pw ([] : List Int) = [] := rfl
 rw [show (E6.st ⟨true, false, ⟨[], false⟩⟩) = (⟨[], false⟩ : P8) from rfl] at hu hu2
 rw [hps, Qe] at hu
 simp only [Prod.mk.injEq] at hu
 obtain ⟨rfl, hg, hit⟩ := hu
 simp only [Prod.mk.injEq] at hee
 have hee1 : x = ⟨true, false, ⟨[], false⟩⟩ := by
  rw [hee.1]
  have : ee.1 = ⟨[], false⟩ := by
   cases hE : ee.1 with
   | mk b g =>
    rw [hE] at hg hu2
    simp at hg hu2
    rw [hu2, <- hg]
  rw [this]
 have hpi : p.items = [] := by rw [hee.2]; show [] ++ ee.2 = []; rw [<- hit]; rfl
 have hpo : p.op = true := by rw [hee.2]
 obtain ⟨rp, en, ⟨ens, _, _, hA⟩, hrl, hS⟩ := hTic
 have hid := (Ab.1 d1).1
 obtain ⟨dk, rk, ek, sk, k1, k2, _, k4⟩ := (hA i d a d1 (by rw [h.cfg]; exact ha)).1 hid
 have hqt := k4.quiet hja (by show l[(En b.city.cfg.ags i).toNat + j]? = _; rw [h.cfg]; exact hp) hpi
 have hia := (Ab.1 ha).1
 obtain ⟨q, hq1, hq2⟩ := hS i j a rk (.inl (by show i < D.1.city.cfg.ags.length; rw [hcfg]; exact hia)) (by rw [hcfg]; exact ha) hja k2
 rw [hcfg] at hq1
 have hd4 := (hq.i.city.desk dk (Ac k1)).1
 have hv4 : D.1.city.views.length <= 4 := by have := hq.i.city.views; have := hq.i.city.nj; omega
 refine ⟨⟨hq.i, hcfg, hnow, h.pl, ?_, dk, k1, hqt.2.1 d2, by rw [hqt.2.2]; exact d3⟩, t1, by rw [t2, h.cfg], ?_⟩
 ·rw [<- hee1]; exact hx
 have hso : (En C.ags i).toNat + j < D.2.1.ses.length := by rw [<- hsl]; exact (Ab.1 hq1).1
 refine ⟨_, Aa hso, ?_⟩
 rw [hout _ q _ hq1 (Aa hso)]
 rcases hq2 with ⟨p', hp', _, E, M, m1, m2, m3⟩ | ⟨hno, _⟩
 ·have m1 : D.1.city.desks[i]? = some E := m1
  have m2 : StS D.1.city E M := m2
  have m3 : q = (Rv D.1.city.now ⟨i, j, En D.1.city.cfg.ags i + j⟩ rk en E.aud M).filter fun m => !R2 m := m3
  rw [k1] at m1
  injection m1 with m1
  subst m1
  have hvw := Asc hq.i.city.vw
  rw [hcfg] at hvw
  have hvl := Ab2 hq.i.city.view
  have hrq := hd4.rq
  have hM : Hj M := Abo (by rw [m2.2.2.1]; simp) (by rw [m2.2.1]; simp) (by rw [m2.2.2.2]; omega)
  have hvi := Atx (n := D.1.city.now) (by omega) (by omega)
  have hP : P17 M D.1.city.now := ⟨m2.1, m2.2.2.1, m2.2.1, hvi.1, by rw [m2.2.2.2]; omega⟩
  have htp : Rv D.1.city.now ⟨i, j, En D.1.city.cfg.ags i + j⟩ rk en dk.aud M = [M] := by
   unfold Rv
   show ((rk[(j : Int).toNat]?).getD [] ++ [M] ++ if dk.aud[(j : Int).toNat]? = some true then _ else _) = _
   rw [Int.toNat_natCast, hqt.1, if_neg (hqt.2.1 d2)]
   rfl
  rw [m3, htp, List.filter_cons, if_pos (Aub hM hP)]
  show ((Zg M) ++ []).length = _
  rw [List.append_nil, As8 hP, hvi.2, m2.2.2.2, hvw, hqt.2.2, d3, hnow]
  unfold Aqv
  split <;> split <;> omega
 have := hno p (by show l[(En D.1.city.cfg.ags i).toNat + j]? = _; rw [hcfg]; exact hp)
 rw [hpo] at this
 cases this
theorem Aci {C : Fa} {i j : Nat} {rq : Int} : ∀ (l : List TEv) {b : I7} {t : Nat}, Af7 C b i j rq t -> (∀ e ∈ l, EvQ e /\ (e.kind <= 3 -> e.se ≠ ((En C.ags i).toNat + j : Nat))) -> t + l.length < 16000 -> ∀ (k : Nat) (o : Oz), (Oq b l)[k]? = some o -> (o.ses.length : Int) = En C.ags C.ags.length /\ ∃ x, o.ses[(En C.ags i).toNat + j]? = some x /\ x.length = 10 + Aqv C + (rq * 3).toNat + if t + k + 1 < 128 then 1 else 2
 | [], b, t, h, hl, ht, k, o, ho => by rw [Oq] at ho; cases ho
 | e :: l, b, t, h, hl, ht, k, o, ho => by
  have he := hl e (List.mem_cons_self ..)
  rw [A6] at ht
  rw [Oq] at ho
  by_cases hk : e.kind = 6
  ·obtain ⟨h1, h2, h3, x, h4, h5⟩ := Ant h he.1 hk (by omega)
   rw [if_pos h2] at ho
   cases k with
   | zero =>
    rw [List.getElem?_cons_zero] at ho
    injection ho with ho
    subst ho
    exact ⟨h3, x, h4, h5⟩
   | succ k =>
    rw [Bb] at ho
    have := Aci l h1 (fun e' h' => hl e' (List.mem_cons_of_mem _ h')) (by omega) k o ho
    rw [show t + 1 + k + 1 = t + (k + 1) + 1 by omega] at this
    exact this
  obtain ⟨h1, h2⟩ := Alf h he.1 hk he.2
  rw [if_neg (by rw [h2]; decide)] at ho
  exact Aci l h1 (fun e' h' => hl e' (List.mem_cons_of_mem _ h')) (by omega) k o ho
theorem Acm {l : List TAg} (hs : ∀ a ∈ l, 1 <= a.se /\ a.se <= 2) : ∀ k, k <= l.length -> En l k = ((l.take k).map TAg.se).sum
 | 0, _ => rfl
 | k + 1, h => by
  have hk : l[k]? = some l[k] := Aa (by omega)
  rw [Uk hk, Acm hs k (by omega), List.take_add_one, hk, (Ir _).2.2 (hs _ (List.getElem_mem _))]
  simp only [List.map_append, List.sum_append, Option.toList_some, List.map_cons, List.map_nil, List.sum_cons, List.sum_nil]
  omega
theorem Xl {l : List TAg} {s : Nat} : ∀ k, (s : Int) < En l k -> ∃ (i : Nat) (a : TAg) (j : Nat), l[i]? = some a /\ (j : Int) < Ec a /\ s = (En l i).toNat + j
 | 0, h => by rw [En] at h; omega
 | k + 1, h => by
  by_cases hk : (s : Int) < En l k
  ·exact Xl k hk
  have h0 := (Kc l k).1
  rw [En] at h
  cases ha : l[k]? with
  | none => rw [ha] at h; simp only at h; omega
  | some a => rw [ha] at h; simp only at h; exact ⟨k, a, s - (En l k).toNat, ha, by omega, by omega⟩
theorem Afd {c : Fa} (hb : Zn c) (hp : Mt c = true) (hJ : ∀ j ∈ c.juns, Mn j /\ j.phs.length <= 8) (hA : ∀ a ∈ c.ags, a.sec.length <= 1000000 /\ a.lims.length <= 1000000 /\ a.rq <= 3) (hl1 : c.juns.length <= 4) (hl2 : c.ags.length <= 4) (hS : ∀ x ∈ c.ags, 1 <= x.se /\ x.se <= 2) {s : Nat} (hs : (s : Int) < (c.ags.map TAg.se).sum) {l : List TEv} (hl : l.length <= 400) (hE : ∀ e ∈ l, EvQ e /\ (e.kind <= 3 -> e.se ≠ s)) :
 ∃ L : Nat, (11 <= L /\ L <= 1000) /\ ∀ (k : Nat) (o : Oz), (Oq (Fl c hb hp hJ hA hl1 hl2 hS) (⟨1, s, 0, 0, []⟩ :: l))[k]? = some o -> (o.ses.length : Int) = (c.ags.map TAg.se).sum /\ ∃ x, o.ses[s]? = some x /\ x.length = L + if k < 127 then 0 else 1 := by
 obtain ⟨q1, q2, q3, q4, q5, q6⟩ := So c hb hp hJ hA hl1 hl2 hS
 generalize Fl c hb hp hJ hA hl1 hl2 hS = B at q1 q2 q3 q4 q5 q6
 have hsum : En c.ags c.ags.length = (c.ags.map TAg.se).sum := by rw [Acm hS _ (Aj _), List.take_length]
 obtain ⟨i, a, j, ha, hj, he⟩ := Xl (l := c.ags) (s := s) c.ags.length (by rw [hsum]; exact hs)
 obtain ⟨h1, h2, hd⟩ := q6 i a ha
 have hsl : s < B.sess.length := by omega
 have hz : B.sess[s]? = some ⟨false, false, ⟨[], false⟩⟩ := by rw [Aa hsl, q5 _ (List.getElem_mem _)]
 have hE1 : EvQ ⟨1, s, 0, 0, []⟩ := Hd rfl
 have d1 := Lw B ⟨1, s, 0, 0, []⟩ q1 hE1
 have hsq := q1.ses _ (Ac hz)
 have hop : Iq ⟨false, false, ⟨[], false⟩⟩ hsq.1 = ⟨true, false, ⟨[], false⟩⟩ := (Z3 _ hsq.1).2.2.2 rfl
 have hds : Th B.sess ⟨1, s, 0, 0, []⟩ = B.sess.set s ⟨true, false, ⟨[], false⟩⟩ := by
  rw [Akc (s := ⟨false, false, ⟨[], false⟩⟩) (by show (0 : Int) <= (s : Int); omega) (by show B.sess[((s : Nat) : Int).toNat]? = _; rw [Int.toNat_natCast]; exact hz), Ap0 hsq (by simp) rfl, hop]
  show B.sess.set ((s : Nat) : Int).toNat _ = _
  rw [Int.toNat_natCast]
 have f1 := d1.few (by decide : (1 : Int) <= 3)
 rw [hds] at f1
 have i1 := d1.i
 rw [f1] at i1
 have e1 : doF B ⟨1, s, 0, 0, []⟩ = (⟨B.city, B.sess.set s ⟨true, false, ⟨[], false⟩⟩⟩, ⟨[], []⟩, false) := by rw [Zk q1 hE1]; exact f1
 have hSl : Af7 c ⟨B.city, B.sess.set s ⟨true, false, ⟨[], false⟩⟩⟩ i j (E9 i a h1 h2).reg.ag.rq 0 := ⟨i1, q2, by rw [q3]; rfl, ⟨a, ha, hj⟩, by rw [<- he]; exact Bg hsl, _, hd, (Wv i a h1 h2).2.2.2.2.1 j, rfl⟩
 refine ⟨10 + Aqv c + ((E9 i a h1 h2).reg.ag.rq * 3).toNat + 1, ⟨by omega, by have h3 := Aqu hJ; have h4 := (Akd (n := i) (h1 := h1) (h2 := h2) (hA a (Ac ha)).2.2 (hS a (Ac ha))).1.rq; unfold Aqv; omega⟩, fun k o ho => ?_⟩
 rw [Oq, e1] at ho
 simp only [Bl, if_false] at ho
 obtain ⟨g1, x, g2, g3⟩ := Aci l hSl (fun e h => ⟨(hE e h).1, by rw [<- he]; exact (hE e h).2⟩) (by omega) k o ho
 rw [<- he] at g2
 exact ⟨by rw [g1, hsum], x, g2, by rw [g3]; split <;> split <;> omega⟩
theorem Aoq {c : Fa} (hb : Zn c) (hp : Mt c = true) (hJ : ∀ j ∈ c.juns, Mn j /\ j.phs.length <= 8) (hA : ∀ a ∈ c.ags, a.sec.length <= 1000000 /\ a.lims.length <= 1000000 /\ a.rq <= 3) (hl1 : c.juns.length <= 4) (hl2 : c.ags.length <= 4) (hS : ∀ x ∈ c.ags, 1 <= x.se /\ x.se <= 2) (h1 : c.ags.length = 1) (hse : ∀ a ∈ c.ags, a.se = 1) :
 ∃ b f, Oq (Fl c hb hp hJ hA hl1 hl2 hS) [⟨1, 0, 0, 0, []⟩, ⟨6, 0, 0, 0, []⟩] = [⟨[b], f⟩] /\ 10 < b.length := by
 have hsum : (c.ags.map TAg.se).sum = 1 := by
  match hc : c.ags, h1 with
  | [a], _ => have := hse a (by rw [hc]; simp); simp [this]
 obtain ⟨L, ⟨hL, _⟩, h⟩ := Afd hb hp hJ hA hl1 hl2 hS (s := 0) (by rw [hsum]; decide) (l := [⟨6, 0, 0, 0, []⟩]) (by simp) (fun e he => by rw [An.1 he]; exact ⟨Hd rfl, fun h => absurd h (by decide)⟩)
 have q1 := (So c hb hp hJ hA hl1 hl2 hS).1
 generalize Fl c hb hp hJ hA hl1 hl2 hS = B at q1 h ⊢
 have d1 := Lw B ⟨1, 0, 0, 0, []⟩ q1 (Hd rfl)
 rw [<- Zk q1 (Hd rfl)] at d1
 have d2 := Lw _ ⟨6, 0, 0, 0, []⟩ d1.i (Hd rfl)
 rw [<- Zk d1.i (Hd rfl)] at d2
 have e : Oq B [⟨1, 0, 0, 0, []⟩, ⟨6, 0, 0, 0, []⟩] = [(doF (doF B ⟨1, 0, 0, 0, []⟩).1 ⟨6, 0, 0, 0, []⟩).2.1] := by
  rw [Oq, if_neg (by rw [d1.none (by decide)]; decide), Oq, if_pos (d2.tick rfl).1, Oq]
 have h0 := h 0 _ (congrArg (·[0]?) e)
 rw [e]
 generalize (doF (doF B ⟨1, 0, 0, 0, []⟩).1 ⟨6, 0, 0, 0, []⟩).2.1 = o at h0
 obtain ⟨g1, x, g2, g3⟩ := h0
 obtain ⟨s, f⟩ := o
 rw [hsum] at g1
 match s, g1, g2 with
 | [y], _, g2 =>
  have g2 : some y = some x := g2
  injection g2 with g2
  exact ⟨y, f, rfl, by rw [g2, g3]; omega⟩
theorem At7 {st : St} : st.raw (.const (.pointer none)) = .lit (.pointer none) := rfl
attribute [go_sem] At7
theorem Rp : PP 10 [] [.nil 0] [.box 84 [.nil 1, .li 0]] (.ptr 0 0) := by
 refine Eb Tryz.func10 ?_
 iterate 2 refine Bw ?_
 exact .ret (rW ok0 [0])
theorem Sf (l : List Int) : PP 10 [] [.mI l] [.box 84 ((⟨l, 0⟩ : Eo).a false)] (.ptr 0 0) := by
 refine Eb Tryz.func10 ?_
 iterate 2 refine Bw ?_
 exact .ret (rW ok0 [0])
theorem Tj (l : List Int) : Ct 8 [.mI l] (fun d : Bool => .lb d) (fun d => d = decide (l.length <= 300)) := by
 refine Ek Tryz.func8 ?_
 iterate 2 refine Bq ?_
 refine Bz (Ex ?_); simp [go_sem]
 exact ⟨_, rfl, (by simp; omega)⟩
theorem Tk (l : List Int) : PP 8 [] [.mI l] [] (.lb (decide (l.length <= 300))) := by
 obtain ⟨_, h, d, rfl, hd⟩ := Tj l
 rwa [hd] at h
theorem Ap7 : ∀ (l : List TEv) (b : I7), (Oq b l).length <= l.length
 | [], b => by simp [Oq]
 | e :: l, b => by
  have := Ap7 l (doF b e).1
  rw [Oq]
  split <;> simp <;> omega
theorem Rg  : Ct 9 [] (fun d : Bool => .lb d) (fun d => d = true) := by
 refine Ek Tryz.func9 ?_
 obtain ⟨C, hC, _, hc2, hcq⟩ := Il ⟨[], 0⟩ 63 (by simp) (Int.le_refl 0)
 have hc1 := hc2.2 rfl
 obtain ⟨b, f, hR, h10⟩ := Aoq hcq.b (hcq.pl (by decide)) hcq.hj hcq.ha (by have := hcq.nj; omega) (by have := hcq.na; omega) hcq.hs hc1.1 hc1.2
 have hL : ∀ e ∈ ([⟨1, 0, 0, 0, []⟩, ⟨6, 0, 0, 0, []⟩] : List TEv), EvQ e := fun e he => by rcases List.mem_cons.1 he with rfl | he; exact Hd rfl; rw [An.1 he]; exact Hd rfl
 have hv := Xj C.1 [⟨1, 0, 0, 0, []⟩, ⟨6, 0, 0, 0, []⟩] hcq.b (hcq.pl (by decide)) hcq.hj hcq.ha (by have := hcq.nj; omega) (by have := hcq.na; omega) hcq.hs (by simp) hL
 rw [Xv, show ([⟨1, 0, 0, 0, []⟩, ⟨6, 0, 0, 0, []⟩] : List TEv).take 400 = [⟨1, 0, 0, 0, []⟩, ⟨6, 0, 0, 0, []⟩] from rfl, hR] at hv
 have h10i : (10 : Int) < b.length := by omega
 refine Bq ?_
 refine Dh 5 1 (by rfl) fun K1 hK1 => ?_
 simp [go_sem]
 refine .by (Rp) (LeL.refl _) (by simp) ?_
 simp [go_sem]
 refine .o [0] (hC) ?_
 simp [go_sem]
 refine .l (hv) ?_
 simp [go_sem]
 refine hK1 _ ?_; clear hK1
 refine Bu ok0 ?_
 exact .ret (fin h10i true rfl)
theorem Amv : PP 9 [] [] [] (.lb true) := by
 obtain ⟨Y1, cY1, qY1⟩ := got (Rg)
 have h := cY1
 rwa [qY1] at h
theorem Ani {w : World} {b off : Nat} {v : Value} (h : w.cell? ⟨b, off, none⟩ = some v) : ∃ cur ty fz, w.heap[b]? = some (.cells cur ty fz) /\ cur[off]? = some v := by
 unfold World.cell? at h
 split at h
 ·rename_i cur ty fz h1
  exact ⟨cur, ty, fz, h1, by simpa using h⟩
 simp at h
theorem Akr.tree {w : World} {A : Option Addr} {len cap : Nat} {zs : List Int} (h : Akr w A len cap zs) (S : Nat -> Prop) (hS : ∀ b, b < w.heap.size -> S b) : ∃ xs : List Int, F3 w.heap S (.sl 1 (tI xs)) (.slice A len cap) := by
 by_cases h0 : len = 0
 ·subst h0
  exact ⟨[], .nil 1 A cap⟩
 obtain ⟨b, off, rfl, hb, h1⟩ := h.at_ 0 (by omega)
 obtain ⟨cur, ty, fz, hc, _⟩ := Ani h1
 have hlen : len <= cap /\ zs.length = cap := by
  rcases h with ⟨h, _⟩ | ⟨x, _, h2, _, h3, _⟩
  ·cases h
  exact ⟨h2, h3⟩
 refine ⟨zs.take len, ?_⟩
 have hl : (tI (zs.take len)).length = len := by simp [tI]; omega
 have key : ∀ (i : Nat) (e : List T), (tI (zs.take len))[i]? = some e -> i < len /\ e = [.li (zs.getD i 0)] := fun i e he => by
  have hi : i < len := by have := (Ab.1 he).1; omega
  refine ⟨hi, ?_⟩
  simp only [tI, Ap, Ag hi] at he
  rw [Aa (show i < zs.length by omega)] at he
  simp only [Ai, Option.some.injEq] at he
  rw [<- he, Ad, Aa (show i < zs.length by omega)]
  rfl
 have := F3.sl (h := w.heap) (S := S) 1 (tI (zs.take len)) b off cap cur ty fz (fun i _ => .int .i64 (zs.getD i 0)) hc (hS b hb) (by omega) (fun i e he => by rw [(key i e he).2]; rfl) (fun i e j x he hx => by
  obtain ⟨hi, rfl⟩ := key i e he
  have hj : j = 0 := by have := (Ab.1 hx).1; simp at this; omega
  subst hj
  obtain ⟨b', off', e', _, h2⟩ := h.at_ i hi
  cases e'
  obtain ⟨cur', ty', fz', hc', hv⟩ := Ani h2
  rw [hc] at hc'
  cases hc'
  simpa using hv) (fun i e j x he hx => by
  obtain ⟨hi, rfl⟩ := key i e he
  have hj : j = 0 := by have := (Ab.1 hx).1; simp at this; omega
  subst hj
  simp at hx
  subst hx
  exact .lit _ rfl)
 rwa [hl] at this
def C0 (w : World) : VC := ⟨w.heap, (St.mk [] []).o, fun _ => none, w.heap.size, fun _ => False, fun _ => True, fun _ => True⟩
theorem Axy {w : World} {b : Nat} (h : b < w.heap.size) : (C0 w).S false b := ⟨h, (fun ⟨id, h, _⟩ => by cases h), .inr (.inr ⟨trivial, fun h => by cases h⟩)⟩
theorem Ei.top {P : Program} {f : FuncId} {args : List AV} {v : Value} (h : Ei P f [] args [] (.lit v)) (w : World) (us : Array Value) (hl : us.size = args.length)
 (hv : ∀ (t : Nat) (c : AV) (u : Value), args[t]? = some c -> us[t]? = some u -> Dv (C0 w) c u) :
  Calls P f us w fun e w' => e = .returned v /\ Below w.heap.size w w' := by
 let E : Ent := ⟨w, fun _ => .gone, fun _ => none, fun _ => True, fun _ => True, args.length, [], fun _ => none⟩
 have hM : E.M = fun _ => False := by
  funext b
  exact propext ⟨fun ⟨id, h, _⟩ => h rfl, fun h => h.elim⟩
 have hC : E.C (fun _ => none) ⟨Hc 0 args, []⟩ w = C0 w := by
  show VC.mk _ _ _ _ E.M _ _ = _
  rw [hM]
  rfl
 have r0 : Rel E (fun _ => none) ⟨Hc 0 args, []⟩ ⟨us, []⟩ w := by
  refine ⟨hl, fun t => ?_, rfl, fun id => trivial, fun i j b hi => absurd rfl hi, fun i b hi => absurd rfl hi, Kp.refl _ _, ⟨(fun id ty cs h => by cases h), (fun id ty k fr fz es h => by cases h)⟩, (fun b o h => by cases h), List.nodup_nil, fun D h => by cases h⟩
  rw [hC]
  show Dv _ (El (Hc 0 args) t) _
  rw [Kn, Nat.sub_zero, Ad]
  cases hx : args[t]? with
  | none => exact .any _
  | some x =>
   have ht : t < us.size := by rw [hl]; exact (Ab.1 hx).1
   rw [if_pos (Ae _), Av, Al ht]
   exact hv t x _ hx (Al ht)
 refine (h.2 E (fun _ => none) us rfl (by funext i; simp [E, St.o]) rfl r0).mono ?_
 rintro e w' ⟨u, β', rfl, r⟩
 have h0 := r.sl 0
 have h1 : u = v := by
  simp [El] at h0
  cases h0
  rfl
 refine ⟨by rw [h1], ?_⟩
 obtain ⟨k1, k2, k3, k4, k5⟩ := r.kp
 exact ⟨k1, k2, k3, k4, fun b hb => k5 b hb (fun ⟨id, h, _⟩ => h rfl)⟩
theorem Ib (l : List Int) (n0 : Int) : Ct 5 [.mI l, .lit (.int .i64 n0)] (fun d : Bool => .lit (.bool d)) (fun d => d = true) := by
 refine Ek Tryz.func5 ?_
 refine Bq <| .seq ?_
 refine B8 ok0 (Tk l) ?_
 refine Br ?_ ?_ <;> intro h20
 ·refine B8 ok0 (Amv) ?_
  refine Bz (Ex ?_); simp [go_sem]
  exact ⟨true, by first | rfl | simp [go_sem], rfl⟩
 refine Bp <| .L ok0 (Sf l) ?_
 obtain ⟨C, hC, hcl, hc2, hcq⟩ := Il ⟨l, 0⟩ 63 h20 (Int.le_refl 0)
 obtain ⟨S, hS, _, _, hsl, hsq⟩ := L4 C.2 C.1 false (by rw [hcl]; exact h20) hc2.1 hcq
 have hna := hcq.na
 refine B3 (fun K kk => by simp [go_sem]; refine .o [0] (hC) ?_; simp [go_sem]; exact kk) ?_
 refine Bq <| .seq ?_
 refine Bq <| .block ?_
 refine Bs C.1.ags.length (fun i1 (y1 : Int) => ⟨[(1, .lit (.int .i64 n0)), (5, .ptr 0 0), (6, .ptr 1 0), (7, .lit (.int .i64 y1)), (27, .mAg C.1.ags), (28, .lit (.int .i64 C.1.ags.length)), (29, .lit (.int .i64 i1))], [.box 84 [.mI C.2.l, .lit (.int .i64 C.2.pos)], .box 30 [.mJun C.1.juns, .mAg C.1.ags, .lit (.int .i64 C.1.per), .lit (.int .i64 C.1.cap), .lit (.int .i64 C.1.hold), .lit (.int .i64 C.1.lock)]]⟩) (fun i1 y1 => (i1 : Int) <= y1 /\ y1 <= 2 * i1 /\ y1 = ((C.1.ags.take i1).map TAg.se).sum) (0) ⟨[0, 1], Ds (by decide) ?_ ?_, by simp⟩ (⟨by simp, by simp, rfl⟩) fun i1 y1 hi1 hy1 => ?_
 ·simp [go_sem]
 ·simp [go_sem]
 refine Bq <| .seq ?_
 refine Br ?_ ?_ <;> intro h30
 ·refine Bp <| .seq <| .block ?_
  obtain ⟨e1, H1⟩ := gx C.1.ags i1
  refine Bu H1 ?_
  have hA1 := hcq.hs e1 (Ac H1)
  have hw2 := Dt (y1 + e1.se : Int)
  refine B0 (cj2 H1 hw2) ?_
  refine B0 (cj2 H1 hw2) ?_
  refine ⟨by omega, ((y1 + e1.se)), ?_, [0, 1], Ds (by decide) ?_ ?_, by simp⟩
  ·exact ⟨by omega, by omega, by rw [List.take_add_one, H1]; simp only [List.map_append, List.sum_append, Option.toList_some, List.map_cons, List.map_nil, List.sum_cons, List.sum_nil]; omega⟩
  all_goals simp [go_sem, Dt ((i1 : Int) + 1), H1, hw2]
 refine Bt ?_
 have hys := hy1.2.2
 rw [Bf (by omega)] at hys
 have hMv := Jf n0 y1 (by omega) (by omega)
 have hMq := G3 n0 y1 (by omega) (by omega)
 obtain ⟨K, hK⟩ : ∃ K : Nat, Hu n0 y1 (by omega) (by omega) = (K : Int) := ⟨_, (Int.toNat_of_nonneg hMq.1).symm⟩
 rw [hK] at hMv hMq
 refine B8 ok0 (hMv) ?_
 refine Bq <| .seq ?_
 refine B3 (fun K kk => by simp [go_sem]; refine .o [0] (hS) ?_; simp [go_sem]; exact kk) <| .block ?_
 refine Bs S.1.length (fun i2 (y2 : (List TEv)) => ⟨[(6, .ptr 0 0), (7, .lit (.int .i64 y1)), (10, .lit (.int .i64 (K : Int))), (11, .own 1 y2.length), (46, .mEv S.1), (47, .lit (.int .i64 S.1.length)), (48, .lit (.int .i64 i2))], [.box 30 [.mJun C.1.juns, .mAg C.1.ags, .lit (.int .i64 C.1.per), .lit (.int .i64 C.1.cap), .lit (.int .i64 C.1.hold), .lit (.int .i64 C.1.lock)], .row 46 5 false false (tEv y2)]⟩) (fun i2 y2 => y2.length <= 1 + i2 /\ ∃ L2, y2 = ⟨1, K, 0, 0, []⟩ :: L2 /\ L2.length <= i2 /\ ∀ e ∈ L2, EvQ e /\ (e.kind <= 3 -> e.se ≠ K)) ([⟨1, (K : Int), 0, 0, []⟩]) ⟨[1, 2], Ds (by decide) ?_ ?_, by simp⟩ (⟨by simp, [], rfl, Aj _, fun e he => by cases he⟩) fun i2 y2 hi2 hy2 => ?_
 ·simp [go_sem]
 ·simp [go_sem]
 refine Bq <| .seq ?_
 refine Br ?_ ?_ <;> intro h49
 ·refine Bp <| .seq <| .block ?_
  obtain ⟨e3, H3⟩ := gx S.1 i2
  refine Bu H3 ?_
  refine Bu H3 ?_
  refine Br ?_ ?_ <;> intro h60
  ·refine B0 H3 ?_
   refine B0 H3 ?_
   refine ⟨by omega, (y2 ++ ([e3])), ?_, [0, 1], Ds (by decide) ?_ ?_, by simp⟩
   ·(obtain ⟨h0, L2, h1, h2, h3⟩ := hy2; exact ⟨by simp; omega, L2 ++ [e3], by rw [h1]; rfl, by simp; omega, Ig h3 ⟨hsq e3 (Ac H3), fun hk => by omega⟩⟩)
   all_goals simp [go_sem, Dt ((i2 : Int) + 1), H3]
  refine Bp <| .H1 H3 ?_
  refine ⟨by omega, (y2), ?_, [0, 1], Ds (by decide) ?_ ?_, by simp⟩
  ·(obtain ⟨h0, L2, h1, h2, h3⟩ := hy2; exact ⟨by omega, L2, h1, by omega, h3⟩)
  all_goals simp [go_sem, Dt ((i2 : Int) + 1), H3]
 refine Bt <| .R <| .seq ?_
 obtain ⟨_, L2, hy2e, hy2l, hy2q⟩ := hy2
 have hyq : ∀ e ∈ y2, EvQ e := fun e he => by rw [hy2e] at he; rcases List.mem_cons.1 he with rfl | he; exact Hd rfl; exact (hy2q e he).1
 have hyn : y2.length <= 400 := by rw [hy2e, A6]; omega
 have hv1 := Xj C.1 y2 hcq.b (hcq.pl (by decide)) hcq.hj hcq.ha (by have := hcq.nj; omega) (by have := hcq.na; omega) hcq.hs (by omega) hyq
 rw [Xv, Bf hyn] at hv1
 obtain ⟨LL, hL10, hLL⟩ := Afd hcq.b (hcq.pl (by decide)) hcq.hj hcq.ha (by have := hcq.nj; omega) (by have := hcq.na; omega) hcq.hs (s := K) (by rw [<- hys]; omega) (l := L2) (by omega) hy2q
 rw [<- hy2e] at hLL
 have hAn := Ap7 y2 (Fl C.1  hcq.b (hcq.pl (by decide)) hcq.hj hcq.ha (by have := hcq.nj; omega) (by have := hcq.na; omega) hcq.hs)
 generalize Oq (Fl C.1  hcq.b (hcq.pl (by decide)) hcq.hj hcq.ha (by have := hcq.nj; omega) (by have := hcq.na; omega) hcq.hs) y2 = A at hv1 hLL hAn
 refine Dg 1 ?_
 simp [go_sem, -Prod.exists]
 refine B8 ok0 (hv1) <| .block ?_
 refine Bs A.length (fun i3 (y3 : Int) => ⟨[(7, .lit (.int .i64 y1)), (10, .lit (.int .i64 (K : Int))), (14, .lit (.int .i64 y3)), (68, .mOut A), (69, .lit (.int .i64 A.length)), (70, .lit (.int .i64 i3))], []⟩) (fun i3 y3 => y3 = 0 \/ y3 = (LL : Int)) (0) ⟨[], Ds (by decide) ?_ ?_, by simp⟩ (.inl rfl) fun i3 y3 hi3 hy3 => ?_
 ·simp [go_sem]
 ·simp [go_sem]
 refine Bq <| .seq ?_
 refine Br ?_ ?_ <;> intro h71
 ·refine Bp <| .seq <| .block ?_
  obtain ⟨e4, H4⟩ := gx A i3
  refine Bu H4 <| .seq ?_
  obtain ⟨hn3, x3, hx3, hlx3⟩ := hLL i3 e4 H4
  rw [<- hys] at hn3
  have hK3 := (Ab.1 hx3).1
  refine Bu H4 ?_
  refine C5 ?_ ?_ <;> intro h79 <;> simp [go_sem] at h79
  ·exfalso; omega
  refine Bp <| .H (cj2 H4 hx3) <| .seq ?_
  refine Bu H4 ?_
  refine Br ?_ ?_ <;> intro h87
  ·have hlk : (x3.length : Int) = LL + 1 := by rw [hlx3, if_neg (by omega)]; rfl
   have hw5 := Dt (x3.length - 1 : Int)
   refine B0 (cj2 H4 hw5) <| .seq ?_
   refine Bu (cj2 H4 hw5) ?_
   refine C5 ?_ ?_ <;> intro h100 <;> simp [go_sem] at h100
   ·exfalso; omega
   refine Bp <| .H1 (cj2 H4 hw5) ?_
   refine B0 (cj2 H4 hw5) ?_
   refine ⟨by omega, ((x3.length - 1)), ?_, [], Ds (by decide) ?_ ?_, by simp⟩
   ·exact .inr (by omega)
   all_goals simp [go_sem, Dt ((i3 : Int) + 1), H4, hw5]
  have hlk : (x3.length : Int) = LL := by rw [hlx3, if_pos (by omega)]; rfl
  refine Bp <| .seq <| .H H4 ?_
  refine C5 ?_ ?_ <;> intro h100 <;> simp [go_sem] at h100
  ·exfalso; omega
  refine Bp <| .H1 H4 ?_
  refine B0 H4 ?_
  refine ⟨by omega, (x3.length), ?_, [], Ds (by decide) ?_ ?_, by simp⟩
  ·exact .inr (by omega)
  all_goals simp [go_sem, Dt ((i3 : Int) + 1), H4]
 refine Bt <| .L ok0 (Amv) ?_
 refine Bz (Ex ?_); simp [go_sem]
 exact ⟨true, by first | rfl | simp [go_sem], rfl⟩
noncomputable def J1 (l : List Int) (n0 : Int) : Bool := (got (Ib l n0)).choose
theorem Pm (l : List Int) (n0 : Int) : PP 5 [] [.mI l, .lit (.int .i64 n0)] [] (.lit (.bool (J1 l n0))) := (got (Ib l n0)).choose_spec.1
theorem Pu (l : List Int) (n0 : Int) : (J1 l n0) = true := (got (Ib l n0)).choose_spec.2
theorem slots_walk (A : Option Addr) (len cap : Nat) (zs : List Int) (n : Int) (w : World) (hA : Akr w A len cap zs) (hn : (Lit.int .i64 n).wf = true) :
 Calls Tryz.prog 5 #[.slice A len cap, .int .i64 n] w fun e w' => e = .returned (.bool true) /\ Below w.heap.size w w' := by
 obtain ⟨xs, hx⟩ := hA.tree ((C0 w).S false) (fun b h => Axy h)
 have h := Pm xs n
 rw [Pu] at h
 refine h.top w _ rfl fun t c u hc hu => ?_
 match t, hc, hu with
 | 0, hc, hu =>
  simp at hc hu
  subst hc; subst hu
  exact .imm _ _ _ _ hx
 | 1, hc, hu =>
  simp at hc hu
  subst hc; subst hu
  exact .lit _
 | t + 2, hc, hu => simp at hc
end Go.Proofs.YtkkimgjinbaemaaGreat
