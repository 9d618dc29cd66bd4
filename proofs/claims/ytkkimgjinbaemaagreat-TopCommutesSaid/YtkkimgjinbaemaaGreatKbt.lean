/- The walk. -/
import Derived.Test.YtkkimgjinbaemaaGreatKbs
namespace Go.Proofs.YtkkimgjinbaemaaGreat
open Go.RowKit
set_option linter.unusedVariables false
set_option linter.unusedSimpArgs false
set_option maxRecDepth 100000
set_option maxHeartbeats 4000000
theorem By.drop {l : List Int} (h : By l) (n : Nat) : By (l.drop n) := fun x hx => h x (Ay hx)
theorem By.take {l : List Int} (h : By l) (n : Nat) : By (l.take n) := fun x hx => h x (Aq hx)
theorem Qi {b : List Int} (hb : By b) (h : (Cq b).2.2 = true) : 1 <= (Cq b).2.1 /\ (Cq b).2.1 <= b.length := by
 unfold Cq at h ⊢
 split
 ·simp at h
 ·split <;> simp_all
 rename_i b0 b1 r
 split
 ·simp; omega
 rename_i h1
 simp only [h1, if_false] at h
 split
 ·rename_i b2 b3 b4 b5 r
  simp only at h ⊢
  have h4 := hb b4 (by simp)
  have h5 := hb b5 (by simp)
  by_cases hn : 200 < b4 * 256 + b5
  ·simp [hn]; omega
  rw [if_neg hn] at h ⊢
  by_cases hl : (r.length : Int) < b4 * 256 + b5 + 4
  ·rw [if_pos hl] at h; simp at h
  rw [if_neg hl] at h ⊢
  repeat' split
  all_goals simp
  all_goals omega
 simp at h
def Sc (b : List Int) : List Int := b.drop (Cq b).2.1.toNat
def Fc (b : List Int) : Nat -> List Int
 | 0 => b
 | k + 1 => Sc (Fc b k)
def Ait : Nat -> List Int -> List (Gc × Int)
 | 0, _ => []
 | n + 1, b => if (Cq b).2.2 then ((Cq b).1, (Cq b).2.1) :: Ait n (Sc b) else []
def Sd (b : List Int) : List (Gc × Int) := Ait b.length b
def Tq (b : List Int) : Nat -> Int
 | 0 => 0
 | k + 1 => Tq b k + (Cq (Fc b k)).2.1
theorem Sb (b : List Int) : ∀ k, Fc (Sc b) k = Fc b (k + 1)
 | 0 => rfl
 | k + 1 => by rw [Fc, Sb b k]; rfl
theorem Sv {b : List Int} (h : By b) : ∀ k, By (Fc b k)
 | 0 => h
 | k + 1 => (Sv h k).drop _
theorem Vb : ∀ (n : Nat) (b : List Int) (k : Nat) (x : Gc × Int), (Ait n b)[k]? = some x -> (Cq (Fc b k)).2.2 = true /\ x = ((Cq (Fc b k)).1, (Cq (Fc b k)).2.1)
 | 0, b, k, x, h => by simp [Ait] at h
 | n + 1, b, k, x, h => by
  unfold Ait at h
  split at h
  ·rename_i hp
   cases k with
   | zero => simp at h; exact ⟨hp, h.symm⟩
   | succ k =>
    simp at h
    have := Vb n (Sc b) k x h
    rwa [Sb] at this
  simp at h
theorem Ue {b : List Int} (hb : By b) : ∀ (k : Nat), (∀ j, j < k -> (Cq (Fc b j)).2.2 = true) -> Tq b k + (Fc b k).length = b.length /\ (k : Int) <= Tq b k
 | 0, _ => by simp [Tq, Fc]
 | k + 1, h => by
  obtain ⟨h1, h2⟩ := Ue hb k fun j hj => h j (by omega)
  have h3 := Qi (Sv hb k) (h k (by omega))
  simp only [Tq, Fc, Sc, Bc]
  omega
theorem Agx : ∀ (n : Nat) (b : List Int), By b -> b.length <= n -> (Cq (Fc b (Ait n b).length)).2.2 = false
 | 0, b, _, h => by
  have : b = [] := List.eq_nil_of_length_eq_zero (by omega)
  subst this; rfl
 | n + 1, b, hb, h => by
  unfold Ait
  split
  ·rename_i hp
   have h3 := Qi hb hp
   have := Agx n (Sc b) (hb.drop _) (by simp only [Sc, Bc]; omega)
   rw [Sb] at this
   simpa using this
  rename_i hp
  simpa [Fc] using hp
theorem Aah {b : List Int} {k : Nat} (h : k < (Sd b).length) : (Cq (Fc b k)).2.2 = true := (Vb _ _ _ _ (Aa h)).1
theorem Ak5 {b : List Int} (hb : By b) : (Cq (Fc b (Sd b).length)).2.2 = false := Agx _ _ hb (Aj _)
theorem Aag {b : List Int} (hb : By b) {k : Nat} (h : k <= (Sd b).length) : 0 <= Tq b k /\ Tq b k <= b.length /\ (k : Int) <= b.length := by
 have := Ue hb k fun j hj => Aah (by omega)
 omega
theorem Ac0 {b : List Int} (hb : By b) {k : Nat} (h : k <= (Sd b).length) : (Fc b k).length <= b.length := by
 have := Ue hb k fun j hj => Aah (by omega)
 omega
theorem Afz (b : List Int) (hl : b.length <= 1000000) (hb : By b) : Sn Tryz.prog 139 [.iptr false [.sl 1 (tY b)] 0] ((Sd b).map fun a => [a.1.g, .li a.2]) := by
 refine Y7 Tryz.func139 rfl rfl rfl (by simp [Tryz.ntmps139]) rfl fun yl => ?_
 refine VI.region_seq (by rfl) fun K1 hK1 => ?_
 simp [go_sem]
 refine hK1 _ ?_; clear hK1
 refine VI.block ?_
 refine VI.range (Sd b).length (fun k => ⟨[(0, .lit (.func (.yield yl) #[] #[])), (3, .mY (Fc b k))], []⟩) (fun k => k)
  (fun k => True) ⟨[], Bp (by decide) ?_ ?_, by simp⟩ ⟨rfl, rfl, trivial⟩ fun k hk _ => ?_
 ·simp [go_sem, Fc]
 ·simp [go_sem]
 have hr := Ac0 hb hk
 refine VI.block ?_
 refine VI.region_seq (by rfl) fun K1 hK1 => ?_
 simp [go_sem]
 refine .l (Abx (Fc b k) (by omega) (Sv hb k)) ?_
 simp [go_sem]
 refine hK1 _ ?_; clear hK1
 refine VI.seq ?_
 refine VI.seq (VI.region ?_)
 refine VIL.first 6 (by rfl) fun K1 hK1 => ?_
 by_cases hlt : k < (Sd b).length
 ·have hok := Aah hlt
  have hit : (Sd b)[k]? = some ((Cq (Fc b k)).1, (Cq (Fc b k)).2.1) := by
   have h1 := Aa hlt
   rw [h1, (Vb _ _ _ _ h1).2]
  have hsz := Qi (Sv hb k) hok
  simp [go_sem, hok]
  refine hK1 _ ?_; clear hK1
  refine VIL.yield (vs := [.agg ((Cq (Fc b k)).1.a false), .lit (.int .i64 (Cq (Fc b k)).2.1)]) (by simp [go_sem]) (by simp [go_sem]) (by decide) (by simp [go_sem]) (by simp [go_sem]) (by simp [go_sem]) (by simp [hit]) (by simp [go_sem]) rfl fun c => ?_
  refine VIL.rest (by rfl) fun K1 hK1 => ?_
  cases c with
  | true =>
   simp [go_sem]
   refine hK1 _ ?_; clear hK1
   refine VI.cond (by simp [go_sem]) (by simp [go_sem]) (fun h17 => ?_) (fun h17 => ?_) <;> simp [go_sem] at h17
   exact VI.ret ⟨.inr rfl, fun h => by cases h⟩
  | false =>
   simp [go_sem]
   refine hK1 _ ?_; clear hK1
   refine VI.cond (by simp [go_sem]) (by simp [go_sem]) (fun h17 => ?_) (fun h17 => ?_) <;> simp [go_sem] at h17
   refine VI.skip ?_
   refine VI.region1 (by rfl) fun K1 hK1 => ?_
   simp [go_sem]
   repeat' with_reducible refine Ax ?_ ?_
   all_goals try (intros; (repeat' refine Ax ?_ ?_) <;> omega)
   refine hK1 _ ?_; clear hK1
   refine ⟨hlt, rfl, rfl, trivial, [], Bp (by decide) ?_ ?_, by simp⟩
   ·simp [go_sem, Fc, Sc]
   simp [go_sem]
 have he : k = (Sd b).length := by omega
 have hno := Ak5 hb
 rw [<- he] at hno
 simp [go_sem, hno]
 refine hK1 _ ?_; clear hK1
 refine VIL.noyield (d := 20) rfl (by simp [go_sem]) (by simp [go_sem]) (by decide) ?_
 refine VIL.rest (by rfl) fun K1 hK1 => ?_
 simp [go_sem]
 refine hK1 _ ?_; clear hK1
 refine VI.cond (by simp [go_sem]) (by simp [go_sem]) (fun h17 => ?_) (fun h17 => ?_) <;> simp [go_sem] at h17
 exact VI.ret ⟨.inr rfl, fun _ => by simp [he]⟩
theorem X2 (b : List Int) : PP 104 [] [.mY b] [] (.fn 139 [.iptr false [.sl 1 (tY b)] 0]) := by
 refine B8.boxes (σr := [.box 44 [.mY b]]) (res := .fn 139 [.ptr 0 0]) ?_ (by simp [go_sem, St.o])
 refine B0 Tryz.func104 ?_
 iterate 2 refine VW.R ?_
 exact .ret (rW ok0 [0])
theorem Ahd (b : List Int) : (Cq b).1.pay.length <= b.length := by
 unfold Cq
 split
 ·simp
 ·split <;> simp
 split
 ·simp
 split
 ·simp only
  repeat' split
  all_goals simp
  all_goals omega
 simp
theorem L6 {l : List Gc} {a : Gc} (h : ∀ x ∈ l, x.pay.length <= 256) (ha : a.pay.length <= 256) : ∀ x ∈ l ++ [a], x.pay.length <= 256 := fun x hx => by
 rcases A0.1 hx with h1 | h1
 ·exact h x h1
 rw [An.1 h1]; exact ha
theorem Mi (n k : Int) : PP 122 [] [.li k, .iptr false [.li n] 0] [] (.lb (decide (n <= k))) := by
 refine B0 Tryz.func122 ?_
 iterate 2 refine VW.R ?_
 exact .ret (rL ok0)
theorem Om (s : Qm) (n : Int) (hl : s.buf.length <= 256) (hb : By s.buf) : Ct 72 [s.g, .fn 122 [.iptr false [.li n] 0]] (fun d : Qm × List Gc => .tup [d.1.g, .mItem d.2]) (fun d => By d.1.buf /\ d.1.buf.length <= 256 /\ d.2.length <= 256 /\ ∀ x ∈ d.2, x.pay.length <= 256) := by
 refine Cb Tryz.func72 ?_
 refine VX.R ?_
 refine VX.scope ?_
 refine VX.R ?_
 refine VX.D <| .seq ?_
 refine VX.label ?_
 refine VX.seq <| .L ok0 (X2 s.buf) <| .block ?_
 refine VX.own0c 3 0 116 3 (by decide) rfl rfl ?_
 simp [go_sem, -Prod.exists]
 refine VX.wkE (s' := ⟨[(2, .ptr 0 0), (3, .ptr 1 0), (4, .ptr 2 0), (6, .ptr 3 0), (7, .ptr 4 0), (8, .ptr 5 0), (15, .fn 139 [.iptr false [.sl 1 (tY s.buf)] 0])], (fun (y1 : Int × Bool × (List Gc)) => [.box 98 [.mY s.buf, .lb s.gar], .box 169 [.fn 122 [.iptr false [.li n] 0]], .box 98 [.nil 1, .lb false], .box 113 [.own 6 y1.2.2.length], .box 3 [.li y1.1], .box 4 [.lb y1.2.1], .row 116 3 false false (Xd y1.2.2)]) (0, s.gar, [])⟩) ⟨[0, 1, 2, 3, 4, 5, 6], Bp (by decide) ?_ ?_, by simp⟩ ?_
 ·simp [go_sem]
 ·simp [go_sem]
 refine VX.rangeFnA (Afz s.buf (by omega) hb) (fun (y1 : Int × Bool × (List Gc)) => [.box 98 [.mY s.buf, .lb s.gar], .box 169 [.fn 122 [.iptr false [.li n] 0]], .box 98 [.nil 1, .lb false], .box 113 [.own 6 y1.2.2.length], .box 3 [.li y1.1], .box 4 [.lb y1.2.1], .row 116 3 false false (Xd y1.2.2)]) 7 (fun _ => rfl) (by rfl) (fun _ => Og rfl) (by decide) ?_ (fun j1 y1 => y1.1 = Tq s.buf j1 /\ y1.2.2.length <= j1 /\ ∀ x ∈ y1.2.2, x.pay.length <= 256) (0, s.gar, []) (⟨rfl, by simp, fun x h => by cases h⟩) (fun j1 vs y1 hj1 hy1 => ?_) (fun y1 hy1 => ?_)
 ·intro vs hvs
  obtain ⟨a, _, rfl⟩ := A4.1 hvs
  simp [go_sem]
 ·
  obtain ⟨a1, ha1, rfl⟩ := Bw hj1
  have hjl : j1 < (Sd s.buf).length := (Ab.1 ha1).1
  have hg := Vb _ _ _ _ ha1
  have ho := Aag hb (k := j1 + 1) (by omega)
  have ho0 := Aag hb (k := j1) (by omega)
  have hrl := Ac0 hb (k := j1) (by omega)
  have hsz : Tq s.buf (j1 + 1) = y1.1 + a1.2 := by rw [Tq, hy1.1, hg.2]
  have hpy : a1.1.pay.length <= 256 := by rw [hg.2]; exact Ak (Ahd _) (by omega)
  refine VX.R ?_
  refine VX.R1 ?_
  refine ⟨rfl, ?_⟩
  refine VX.block ?_
  have hw1 := Bq (y1.1 + a1.2 : Int)
  refine VX.H hw1 <| .seq ?_
  refine VX.H hw1 <| .block ?_
  refine VX.H hw1 ?_
  refine VX.C ?_ ?_ <;> intro h23 <;> simp [go_sem] at h23
  ·refine VX.seq <| .H hw1 ?_
   refine VX.C ?_ ?_ <;> intro h25 <;> simp [go_sem] at h25
   ·refine VX.exit ?_
    refine ⟨((y1.1 + a1.2), y1.2.1, y1.2.2), ?_, ⟨[0, 1, 2, 3, 4, 5, 6], Bp (by decide) ?_ ?_, Dd rfl⟩⟩
    ·first | exact ⟨hsz.symm, by dsimp only; omega, hy1.2.2⟩ | exact ⟨hsz.symm, by simp; omega, L6 hy1.2.2 hpy⟩
    ·simp [go_sem]
    simp [go_sem, hw1]
   refine VX.skip <| .H1 hw1 ?_
   refine VX.H hw1 ?_
   refine VX.S (fun K kk => by simp [go_sem, hw1]; refine .lo (Mi n _) rfl (by simp [AV.cln, Cp]) ?_; simp [go_sem, hw1]; exact kk) ?_
   refine VX.C ?_ ?_ <;> intro h36 <;> simp [go_sem] at h36
   ·refine VX.exit ⟨[.box 98 [.mY s.buf, .lb s.gar], .box 169 [.fn 122 [.iptr false [.li n] 0]], .box 98 [.nil 1, .lb false], .box 113 [.own 6 ((y1.2.2 ++ ([a1.1])).length)], .box 3 [.li (y1.1 + a1.2)], .box 4 [.lb true], .row 116 3 false false (Xd (y1.2.2 ++ ([a1.1])))], ⟨[0, 1, 2, 3, 4, 5, 6], Bp (by decide) ?_ ?_, Dd rfl⟩, ?_⟩
    ·simp [go_sem]
    ·simp [go_sem, hw1]
    refine VX.E (fun K kk => by simp [go_sem, hw1]; (repeat refine aK ?_); refine .lo (B8.froz (B6 _ (by first | (simp; done) | (simp; omega) | (simp; assumption)) (by first | (simp [T.plain]; done) | (rw [Am]; intro e he; repeat (first | replace he := Aq he | replace he := Ay he); obtain ⟨x, _, rfl⟩ := A4.1 he; rfl)))) rfl (by simp [AV.cln, Cp]) ?_; simp [go_sem, hw1]; exact kk) ?_
    refine VX.Z ok0 6 ?_
    exact .ret (fin hw1 (⟨s.buf.drop ((y1.1 + a1.2).toNat), true⟩, y1.2.2 ++ ([a1.1])) (by first | exact ⟨hb.drop _, by simp; omega, by simp; omega, L6 hy1.2.2 hpy⟩ | exact ⟨hb.drop _, by simp; omega, by dsimp only; omega, hy1.2.2⟩))
   refine VX.skip ?_
   refine ⟨((y1.1 + a1.2), true, y1.2.2 ++ ([a1.1])), ?_, ⟨[0, 1, 2, 3, 4, 5, 6], Bp (by decide) ?_ ?_, Dd rfl⟩⟩
   ·first | exact ⟨hsz.symm, by dsimp only; omega, hy1.2.2⟩ | exact ⟨hsz.symm, by simp; omega, L6 hy1.2.2 hpy⟩
   ·simp [go_sem]
   simp [go_sem, hw1]
  refine VX.orcases2 (by rfl) fun K1 hK1 => ?_
  simp [go_sem]
  refine hK1 _ ⟨_, _, _, _, _, _, _, _, rfl, .one (by decide) rfl rfl, by decide, rfl, by simp [go_sem]; rfl, by simp [go_sem]; rfl, by simp [go_sem], ?_⟩; clear hK1
  refine VX.C ?_ ?_ <;> intro h26 <;> simp [go_sem] at h26
  ·refine VX.H1 hw1 ?_
   refine VX.H hw1 ?_
   refine VX.S (fun K kk => by simp [go_sem, hw1]; refine .lo (Mi n _) rfl (by simp [AV.cln, Cp]) ?_; simp [go_sem, hw1]; exact kk) ?_
   refine VX.C ?_ ?_ <;> intro h36 <;> simp [go_sem] at h36
   ·refine VX.exit ⟨[.box 98 [.mY s.buf, .lb s.gar], .box 169 [.fn 122 [.iptr false [.li n] 0]], .box 98 [.nil 1, .lb false], .box 113 [.own 6 ((y1.2.2 ++ ([a1.1])).length)], .box 3 [.li (y1.1 + a1.2)], .box 4 [.lb true], .row 116 3 false false (Xd (y1.2.2 ++ ([a1.1])))], ⟨[0, 1, 2, 3, 4, 5, 6], Bp (by decide) ?_ ?_, Dd rfl⟩, ?_⟩
    ·simp [go_sem]
    ·simp [go_sem, hw1]
    refine VX.E (fun K kk => by simp [go_sem, hw1]; (repeat refine aK ?_); refine .lo (B8.froz (B6 _ (by first | (simp; done) | (simp; omega) | (simp; assumption)) (by first | (simp [T.plain]; done) | (rw [Am]; intro e he; repeat (first | replace he := Aq he | replace he := Ay he); obtain ⟨x, _, rfl⟩ := A4.1 he; rfl)))) rfl (by simp [AV.cln, Cp]) ?_; simp [go_sem, hw1]; exact kk) ?_
    refine VX.Z ok0 6 ?_
    exact .ret (fin hw1 (⟨s.buf.drop ((y1.1 + a1.2).toNat), true⟩, y1.2.2 ++ ([a1.1])) (by first | exact ⟨hb.drop _, by simp; omega, by simp; omega, L6 hy1.2.2 hpy⟩ | exact ⟨hb.drop _, by simp; omega, by dsimp only; omega, hy1.2.2⟩))
   refine VX.skip ?_
   refine ⟨((y1.1 + a1.2), true, y1.2.2 ++ ([a1.1])), ?_, ⟨[0, 1, 2, 3, 4, 5, 6], Bp (by decide) ?_ ?_, Dd rfl⟩⟩
   ·first | exact ⟨hsz.symm, by dsimp only; omega, hy1.2.2⟩ | exact ⟨hsz.symm, by simp; omega, L6 hy1.2.2 hpy⟩
   ·simp [go_sem]
   simp [go_sem, hw1]
  refine VX.H1 hw1 ?_
  refine VX.H hw1 ?_
  refine VX.S (fun K kk => by simp [go_sem, hw1]; refine .lo (Mi n _) rfl (by simp [AV.cln, Cp]) ?_; simp [go_sem, hw1]; exact kk) ?_
  refine VX.C ?_ ?_ <;> intro h36 <;> simp [go_sem] at h36
  ·refine VX.exit ⟨[.box 98 [.mY s.buf, .lb s.gar], .box 169 [.fn 122 [.iptr false [.li n] 0]], .box 98 [.nil 1, .lb false], .box 113 [.own 6 ((y1.2.2 ++ ([a1.1])).length)], .box 3 [.li (y1.1 + a1.2)], .box 4 [.lb false], .row 116 3 false false (Xd (y1.2.2 ++ ([a1.1])))], ⟨[0, 1, 2, 3, 4, 5, 6], Bp (by decide) ?_ ?_, Dd rfl⟩, ?_⟩
   ·simp [go_sem]
   ·simp [go_sem, hw1]
   refine VX.E (fun K kk => by simp [go_sem, hw1]; (repeat refine aK ?_); refine .lo (B8.froz (B6 _ (by first | (simp; done) | (simp; omega) | (simp; assumption)) (by first | (simp [T.plain]; done) | (rw [Am]; intro e he; repeat (first | replace he := Aq he | replace he := Ay he); obtain ⟨x, _, rfl⟩ := A4.1 he; rfl)))) rfl (by simp [AV.cln, Cp]) ?_; simp [go_sem, hw1]; exact kk) ?_
   refine VX.Z ok0 6 ?_
   exact .ret (fin hw1 (⟨s.buf.drop ((y1.1 + a1.2).toNat), false⟩, y1.2.2 ++ ([a1.1])) (by first | exact ⟨hb.drop _, by simp; omega, by simp; omega, L6 hy1.2.2 hpy⟩ | exact ⟨hb.drop _, by simp; omega, by dsimp only; omega, hy1.2.2⟩))
  refine VX.skip ?_
  refine ⟨((y1.1 + a1.2), false, y1.2.2 ++ ([a1.1])), ?_, ⟨[0, 1, 2, 3, 4, 5, 6], Bp (by decide) ?_ ?_, Dd rfl⟩⟩
  ·first | exact ⟨hsz.symm, by dsimp only; omega, hy1.2.2⟩ | exact ⟨hsz.symm, by simp; omega, L6 hy1.2.2 hpy⟩
  ·simp [go_sem]
  simp [go_sem, hw1]
 -- done
 simp only [A2] at hy1
 have ho := Aag hb (k := (Sd s.buf).length) (Aj _)
 refine VX.E (fun K kk => by simp [go_sem]; (repeat refine aK ?_); refine .lo (B8.froz (B6 _ (by first | (simp; done) | (simp; omega) | (simp; assumption)) (by first | (simp [T.plain]; done) | (rw [Am]; intro e he; repeat (first | replace he := Aq he | replace he := Ay he); obtain ⟨x, _, rfl⟩ := A4.1 he; rfl)))) rfl (by simp [AV.cln, Cp]) ?_; simp [go_sem]; exact kk) ?_
 refine VX.Z ok0 6 ?_
 exact .ret (fin ok0 (⟨s.buf.drop y1.1.toNat, y1.2.1⟩, y1.2.2) (by first | exact ⟨hb.drop _, by simp; omega, by simp; omega, L6 hy1.2.2 hpy⟩ | exact ⟨hb.drop _, by simp; omega, by dsimp only; omega, hy1.2.2⟩))
noncomputable def Lr (s : Qm) (n : Int) (hl : s.buf.length <= 256) (hb : By s.buf) : Qm × List Gc := (got (Om s n hl hb)).choose
theorem Ab4 (s : Qm) (n : Int) (hl : s.buf.length <= 256) (hb : By s.buf) : By (Lr s n hl hb).1.buf /\ (Lr s n hl hb).1.buf.length <= 256 /\ (Lr s n hl hb).2.length <= 256 /\ ∀ x ∈ (Lr s n hl hb).2, x.pay.length <= 256 := (got (Om s n hl hb)).choose_spec.2
theorem Abb (s : Qm) (n : Int) (hl : s.buf.length <= 256) (hb : By s.buf) : Ct 93 [s.g, .li n] (fun d : Qm × List Gc => .tup [d.1.g, .mItem d.2]) (fun d => By d.1.buf /\ d.1.buf.length <= 256 /\ d.2.length <= 256 /\ ∀ x ∈ d.2, x.pay.length <= 256) := by
 refine Cb Tryz.func93 ?_
 refine VX.R <| .seq ?_
 refine VX.R ?_
 refine VX.C ?_ ?_ <;> intro h7 <;> simp [go_sem] at h7
 ·refine VX.E (fun K kk => by simp [go_sem]; refine .lo (B8.froz (B6 _ (by first | (simp; done) | (simp; omega) | (simp; assumption)) (by first | (simp [T.plain]; done) | (rw [Am]; intro e he; repeat (first | replace he := Aq he | replace he := Ay he); obtain ⟨x, _, rfl⟩ := A4.1 he; rfl)))) rfl (by simp [AV.cln, Cp]) ?_; simp [go_sem]; exact kk) ?_
  exact .ret (fin ok0 (s, []) (by first | exact Ab4 s n hl hb | exact ⟨hb, hl, Ae _, fun x h => by cases h⟩))
 refine VX.skip ?_
 refine VX.sel1 1 rfl rfl (by simp) ?_
 simp [go_sem, -Prod.exists]
 obtain ⟨Y1, cY1, qY1⟩ := got (Om s n hl hb)
 refine VX.L ok0 cY1 ?_
 exact .ret (fin ok0 (Y1.1, Y1.2) (by first | exact qY1 | exact ⟨hb, hl, Ae _, fun x h => by cases h⟩))
theorem Ado (s : Cn) (hl : s.st.buf.length <= 256) (hb : By s.st.buf) : Ct 64 [s.g] (fun d : Cn × Hc => .tup [d.1.g, d.2.g]) (fun d => By d.1.st.buf /\ d.1.st.buf.length <= 256 /\ (d.2.items.length <= 257 /\ d.2.op = s.op) /\ ∀ x ∈ d.2.items, x.pay.length <= 256) := by
 refine Cb Tryz.func64 ?_
 obtain ⟨Y1, cY1, qY1⟩ := got (Abb s.st 4 hl hb)
 have hQ := qY1
 refine VX.R <| .seq ?_
 refine VX.R ?_
 refine VX.C ?_ ?_ <;> intro h9 <;> simp [go_sem] at h9
 ·refine VX.L ok0 (H0 s (by first | assumption | omega)) ?_
  refine VX.ret (Co ?_); simp [go_sem, Ba 1]
  exact ⟨(s, ⟨false, []⟩), by first | rfl | simp [go_sem], (by first | exact ⟨hb, hl, ⟨Ae _, by dsimp only; rw [h9]⟩, fun x h => by cases h⟩ | exact ⟨hQ.1, hQ.2.1, ⟨by have := hQ.2.2.1; simp; omega, by dsimp only; rw [h9]⟩, fun x h => by rcases A0.1 h with h | h; (rw [An.1 h]; simp); exact hQ.2.2.2 x h⟩ | exact ⟨hQ.1, hQ.2.1, ⟨by have := hQ.2.2.1; first | omega | (simp; omega), by dsimp only; rw [h9]⟩, hQ.2.2.2⟩)⟩
 refine VX.skip <| .R <| .seq ?_
 refine VX.R ?_
 refine VX.C ?_ ?_ <;> intro h15 <;> simp [go_sem] at h15
 ·refine VX.H1 ok0 ?_
  refine VX.L ok0 cY1 ?_
  iterate 2 refine VX.R ?_
  refine VX.H ok0 ?_
  refine VX.D ?_
  refine VX.Z ok0 5 ?_
  refine VX.ret (Co ?_); simp [go_sem, Ba 1]
  exact ⟨(⟨s.op, false, Y1.1⟩, ⟨true, ([⟨15, 0, []⟩]) ++ (Y1.2)⟩), by first | rfl | simp [go_sem], (by first | exact ⟨hb, hl, ⟨Ae _, by dsimp only; rw [h9]⟩, fun x h => by cases h⟩ | exact ⟨hQ.1, hQ.2.1, ⟨by have := hQ.2.2.1; simp; omega, by dsimp only; rw [h9]⟩, fun x h => by rcases A0.1 h with h | h; (rw [An.1 h]; simp); exact hQ.2.2.2 x h⟩ | exact ⟨hQ.1, hQ.2.1, ⟨by have := hQ.2.2.1; first | omega | (simp; omega), by dsimp only; rw [h9]⟩, hQ.2.2.2⟩)⟩
 refine VX.skip <| .L ok0 cY1 ?_
 iterate 2 refine VX.R ?_
 refine VX.H ok0 ?_
 refine VX.D ?_
 refine VX.Z ok0 5 ?_
 refine VX.ret (Co ?_); simp [go_sem, Ba 1]
 exact ⟨(⟨s.op, false, Y1.1⟩, ⟨true, Y1.2⟩), by first | rfl | simp [go_sem], (by first | exact ⟨hb, hl, ⟨Ae _, by dsimp only; rw [h9]⟩, fun x h => by cases h⟩ | exact ⟨hQ.1, hQ.2.1, ⟨by have := hQ.2.2.1; simp; omega, by dsimp only; rw [h9]⟩, fun x h => by rcases A0.1 h with h | h; (rw [An.1 h]; simp); exact hQ.2.2.2 x h⟩ | exact ⟨hQ.1, hQ.2.1, ⟨by have := hQ.2.2.1; first | omega | (simp; omega), by dsimp only; rw [h9]⟩, hQ.2.2.2⟩)⟩
end Go.Proofs.YtkkimgjinbaemaaGreat
