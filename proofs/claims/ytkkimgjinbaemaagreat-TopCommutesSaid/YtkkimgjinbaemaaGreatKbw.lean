/- The walk. -/
import Derived.Test.YtkkimgjinbaemaaGreatKbv
namespace Go.Proofs.YtkkimgjinbaemaaGreat
open Go.RowKit
set_option linter.unusedVariables false
set_option linter.unusedSimpArgs false
set_option maxRecDepth 100000
set_option maxHeartbeats 4000000
noncomputable def doF (b : Hd) (e : TEv) : Hd × J3 × Bool := by
 classical
 exact if h : Ns b /\ EvQ e then Hw b e h.1 h.2 else (b, ⟨[], []⟩, false)
noncomputable def Hq : Hd -> List TEv -> List J3
 | _, [] => []
 | b, e :: l => if (doF b e).2.2 then (doF b e).2.1 :: Hq (doF b e).1 l else Hq (doF b e).1 l
theorem Ui {b : Hd} {e : TEv} (hb : Ns b) (he : EvQ e) : doF b e = Hw b e hb he := by simp [doF, hb, he]
def bkY (y : List Df × List TAg × Int × Int × Int × Int × Bool × Int × List Bv × List Fl × List C8 × List Int × List E7 × List Cn × List J3) : Hd := ⟨⟨⟨y.1, y.2.1, y.2.2.1, y.2.2.2.1, y.2.2.2.2.1, y.2.2.2.2.2.1⟩, y.2.2.2.2.2.2.1, y.2.2.2.2.2.2.2.1, y.2.2.2.2.2.2.2.2.1, y.2.2.2.2.2.2.2.2.2.1, y.2.2.2.2.2.2.2.2.2.2.1, y.2.2.2.2.2.2.2.2.2.2.2.1, y.2.2.2.2.2.2.2.2.2.2.2.2.1⟩, y.2.2.2.2.2.2.2.2.2.2.2.2.2.1⟩
theorem Aky {b : Hd} {l : List TEv} {i : Nat} {e : TEv} (h : l[i]? = some e) : Hq b (l.drop i) = if (doF b e).2.2 then (doF b e).2.1 :: Hq (doF b e).1 (l.drop (i + 1)) else Hq (doF b e).1 (l.drop (i + 1)) := by
 obtain ⟨hi, rfl⟩ := Ab.1 h
 rw [List.drop_eq_getElem_cons hi, Hq]
theorem P2 (c : Dy) (l : List TEv) (hb : Yw c) (hp : L4 c = true) (hJ : ∀ j ∈ c.juns, Ln j /\ j.phs.length <= 8) (hA : ∀ a ∈ c.ags, a.sec.length <= 1000000 /\ a.lims.length <= 1000000 /\ a.rq <= 4) (hl1 : c.juns.length <= 4) (hl2 : c.ags.length <= 4) (hS : ∀ x ∈ c.ags, 1 <= x.se /\ x.se <= 2) (hl : l.length <= 1000000) (hE : ∀ e ∈ l, EvQ e) : Ct 22 [c.g, .mEv l] (fun d : List J3 => .mOut d) (fun d => d = Hq (Da c hb hp hJ hA hl1 hl2 hS) (l.take 400)) := by
 refine Cb Tryz.func22 ?_
 have hNv := Ad8 c hb hp hJ hA hl1 hl2 hS
 have hNq := Mw c hb hp hJ hA hl1 hl2 hS
 obtain ⟨N, hN⟩ : ∃ N, N = Da c hb hp hJ hA hl1 hl2 hS := ⟨_, rfl⟩
 rw [<- hN] at hNv hNq
 obtain ⟨lt, hlt⟩ : ∃ lt, lt = l.take (min l.length 400) := ⟨_, rfl⟩
 have hT : List.take (if (400 : Int) < (l.length : Int) then (400 : Int) else (l.length : Int)).toNat (List.map TEv.t l) = List.map TEv.t lt := by rw [hlt, List.map_take]; congr 1; split <;> omega
 have hlm : l.take 400 = l.take (min l.length 400) := by rw [Nat.min_comm, <- List.take_take, List.take_length]
 have hll : lt.length <= 400 := by rw [hlt, A5]; omega
 have hlE : ∀ e ∈ lt, EvQ e := fun e h => hE e (by rw [hlt] at h; exact Aq h)
 refine VX.R ?_
 refine VX.L ok0 (hNv) ?_
 refine VX.R <| .seq ?_
 refine VX.H hT <| .block ?_
 refine VX.own0 6 49 2 (by decide) (k' := 2) (by simp [go_sem]) ?_
 simp [go_sem, -Prod.exists]
 refine VX.rangeE (lt.length) (fun i1 (y1 : (List Df) × (List TAg) × Int × Int × Int × Int × Bool × Int × (List Bv) × (List Fl) × (List C8) × (List Int) × (List E7) × (List Cn) × (List J3)) => ⟨[(5, .ptr 0 0), (6, .own 1 y1.2.2.2.2.2.2.2.2.2.2.2.2.2.2.length), (18, .mEv lt), (19, .li (lt.length)), (20, .li i1)], [.box 40 [.mJun y1.1, .mAg y1.2.1, .li y1.2.2.1, .li y1.2.2.2.1, .li y1.2.2.2.2.1, .li y1.2.2.2.2.2.1, .lb y1.2.2.2.2.2.2.1, .li y1.2.2.2.2.2.2.2.1, .mDesk y1.2.2.2.2.2.2.2.2.1, .mSig y1.2.2.2.2.2.2.2.2.2.1, .mSvc y1.2.2.2.2.2.2.2.2.2.2.1, .mI y1.2.2.2.2.2.2.2.2.2.2.2.1, .mView y1.2.2.2.2.2.2.2.2.2.2.2.2.1, .imm false 4 (Tm y1.2.2.2.2.2.2.2.2.2.2.2.2.2.1)], .row 49 2 false false (Asl y1.2.2.2.2.2.2.2.2.2.2.2.2.2.2)]⟩) (fun i1 y1 => Ns (bkY y1) /\ y1.2.2.2.2.2.2.2.2.2.2.2.2.2.2 ++ Hq (bkY y1) (lt.drop i1) = Hq N lt /\ y1.2.2.2.2.2.2.2.2.2.2.2.2.2.2.length <= i1) (N.city.cfg.juns, N.city.cfg.ags, N.city.cfg.per, N.city.cfg.cap, N.city.cfg.hold, N.city.cfg.lock, N.city.ref, N.city.now, N.city.desks, N.city.sigs, N.city.svcs, N.city.stuck, N.city.views, N.sess, []) (wk ok0 [1, 2]) (⟨hNq.1, rfl, by simp⟩) fun i1 y1 hi1 hy1 => ?_
 refine VX.R <| .seq ?_
 refine VX.C ?_ ?_ <;> intro h21 <;> simp [go_sem] at h21
 ·refine VX.skip <| .seq <| .block ?_
  obtain ⟨e1, H1⟩ := gx lt i1
  refine VX.H H1 ?_
  have hDv := Af5 (bkY y1) e1 hy1.1 (hlE e1 (Ac H1))
  have hDq := Hx (bkY y1) e1 hy1.1 (hlE e1 (Ac H1))
  have hDf := Ui hy1.1 (hlE e1 (Ac H1))
  have hrd := Aky (b := bkY y1) H1
  rw [hDf] at hrd
  generalize Hw (bkY y1) e1 hy1.1 (hlE e1 (Ac H1)) = D at hDv hDq hrd
  refine VX.L H1 (hDv) ?_
  refine VX.H H1 ?_
  refine VX.H H1 ?_
  refine VX.C ?_ ?_ <;> intro h32 <;> simp [go_sem] at h32
  ·refine VX.H1 H1 ?_
   refine VX.H1 H1 ?_
   exact ⟨by omega, (D.1.city.cfg.juns, D.1.city.cfg.ags, D.1.city.cfg.per, D.1.city.cfg.cap, D.1.city.cfg.hold, D.1.city.cfg.lock, D.1.city.ref, D.1.city.now, D.1.city.desks, D.1.city.sigs, D.1.city.svcs, D.1.city.stuck, D.1.city.views, D.1.sess, y1.2.2.2.2.2.2.2.2.2.2.2.2.2.2 ++ ([D.2.1])), ⟨hDq.i, by rw [<- hy1.2.1, hrd]; simp [h32]; rfl, by first | (simp; omega) | (have := hy1.2.2; dsimp only; omega)⟩, wk (cj2 (Bq ((i1 : Int) + 1)) H1) [0, 1]⟩
  refine VX.skip <| .H1 H1 ?_
  exact ⟨by omega, (D.1.city.cfg.juns, D.1.city.cfg.ags, D.1.city.cfg.per, D.1.city.cfg.cap, D.1.city.cfg.hold, D.1.city.cfg.lock, D.1.city.ref, D.1.city.now, D.1.city.desks, D.1.city.sigs, D.1.city.svcs, D.1.city.stuck, D.1.city.views, D.1.sess, y1.2.2.2.2.2.2.2.2.2.2.2.2.2.2), ⟨hDq.i, by rw [<- hy1.2.1, hrd]; simp [h32]; rfl, by first | (simp; omega) | (have := hy1.2.2; dsimp only; omega)⟩, wk (cj2 (Bq ((i1 : Int) + 1)) H1) [0, 1]⟩
 refine VX.exit <| .R ?_
 refine VX.Z ok0 1 ?_
 exact .ret (fin ok0 y1.2.2.2.2.2.2.2.2.2.2.2.2.2.2 (by have h := hy1.2.1; rw [List.drop_eq_nil_of_le (by omega)] at h; rw [<- hN, hlm, <- hlt]; simpa [Hq] using h))
noncomputable def U8 (c : Dy) (l : List TEv) (hb : Yw c) (hp : L4 c = true) (hJ : ∀ j ∈ c.juns, Ln j /\ j.phs.length <= 8) (hA : ∀ a ∈ c.ags, a.sec.length <= 1000000 /\ a.lims.length <= 1000000 /\ a.rq <= 4) (hl1 : c.juns.length <= 4) (hl2 : c.ags.length <= 4) (hS : ∀ x ∈ c.ags, 1 <= x.se /\ x.se <= 2) (hl : l.length <= 1000000) (hE : ∀ e ∈ l, EvQ e) : List J3 := (got (P2 c l hb hp hJ hA hl1 hl2 hS hl hE)).choose
theorem P8 (c : Dy) (l : List TEv) (hb : Yw c) (hp : L4 c = true) (hJ : ∀ j ∈ c.juns, Ln j /\ j.phs.length <= 8) (hA : ∀ a ∈ c.ags, a.sec.length <= 1000000 /\ a.lims.length <= 1000000 /\ a.rq <= 4) (hl1 : c.juns.length <= 4) (hl2 : c.ags.length <= 4) (hS : ∀ x ∈ c.ags, 1 <= x.se /\ x.se <= 2) (hl : l.length <= 1000000) (hE : ∀ e ∈ l, EvQ e) : PP 22 [] [c.g, .mEv l] [] (.mOut (U8 c l hb hp hJ hA hl1 hl2 hS hl hE)) := (got (P2 c l hb hp hJ hA hl1 hl2 hS hl hE)).choose_spec.1
theorem Qf (c : Dy) (l : List TEv) (hb : Yw c) (hp : L4 c = true) (hJ : ∀ j ∈ c.juns, Ln j /\ j.phs.length <= 8) (hA : ∀ a ∈ c.ags, a.sec.length <= 1000000 /\ a.lims.length <= 1000000 /\ a.rq <= 4) (hl1 : c.juns.length <= 4) (hl2 : c.ags.length <= 4) (hS : ∀ x ∈ c.ags, 1 <= x.se /\ x.se <= 2) (hl : l.length <= 1000000) (hE : ∀ e ∈ l, EvQ e) : (U8 c l hb hp hJ hA hl1 hl2 hS hl hE) = Hq (Da c hb hp hJ hA hl1 hl2 hS) (l.take 400) := (got (P2 c l hb hp hJ hA hl1 hl2 hS hl hE)).choose_spec.2
theorem E5 (a : List J3) (b : List J3) (ha : a.length <= 1000) (hb : ∀ o ∈ b, o.ses.length <= 1000) : Ct 21 [.mOut a, .mOut b] (fun d : Bool => .lb d) (fun d => a = b -> d = true) := by
 refine Cb Tryz.func21 ?_
 have hbt : ∀ x : Int, Wo [T.lit (Value.int .u8 x)] = true := fun _ => rfl
 refine VX.H hbt <| .seq ?_
 refine VX.H hbt ?_
 refine VX.C ?_ ?_ <;> intro h14 <;> simp [go_sem] at h14
 ·refine VX.H hbt ?_
  exact .ret (fin hbt false (by intro h; subst h; simp_all))
 refine VX.skip <| .seq <| .H hbt <| .block ?_
 refine VX.rangeE a.length (fun i1 (y1 : Unit) => ⟨[(1, .mOut b), (15, .mOut a), (16, .li a.length), (17, .li i1)], []⟩) (fun i1 y1 => True) () (wk ok0 []) (trivial) fun i1 y1 hi1 hy1 => ?_
 refine VX.H hbt <| .seq ?_
 refine VX.C ?_ ?_ <;> intro h18 <;> simp [go_sem] at h18
 ·refine VX.skip <| .seq <| .block ?_
  obtain ⟨e1, H1⟩ := gx a i1
  refine VX.H (cj2 hbt H1) ?_
  obtain ⟨e2, H2⟩ := gx b i1
  refine VX.H (cj3 hbt H1 H2) <| .seq ?_
  refine VX.H (cj3 hbt H1 H2) ?_
  refine VX.C ?_ ?_ <;> intro h41 <;> simp [go_sem] at h41
  ·refine VX.H (cj3 hbt H1 H2) ?_
   exact .ret (fin (cj3 hbt H1 H2) false (by intro h; subst h; simp_all))
  refine VX.skip ?_
  have hbe := hb e2 (Ac H2)
  refine VX.H (cj3 hbt H1 H2) <| .block ?_
  refine VX.rangeE e1.ses.length (fun i2 (y2 : Unit) => ⟨[(1, .mOut b), (7, .ptr 0 0), (15, .mOut a), (16, .li a.length), (17, .li i1), (43, .mYs e1.ses), (44, .li e1.ses.length), (45, .li i2)], [.box 49 [.mYs e2.ses, .mY e2.feed]]⟩) (fun i2 y2 => True) () (wk (cj2 H1 H2) [1]) (trivial) fun i2 y2 hi2 hy2 => ?_
  refine VX.H (cj3 hbt H1 H2) <| .seq ?_
  refine VX.C ?_ ?_ <;> intro h46 <;> simp [go_sem] at h46
  ·refine VX.skip <| .seq <| .block ?_
   obtain ⟨e3, H3⟩ := gx e1.ses i2
   refine VX.H (cj4 hbt H1 H2 H3) ?_
   obtain ⟨e4, H4⟩ := gx e2.ses i2
   refine VX.G (cj5 hbt H1 H2 H3 H4) ?_
   refine VX.C ?_ ?_ <;> intro h58 <;> simp [go_sem] at h58
   ·refine VX.H (cj5 hbt H1 H2 H3 H4) ?_
    exact .ret (fin (cj5 hbt H1 H2 H3 H4) false (by intro h; subst h; simp_all))
   refine VX.skip <| .H1 (cj5 hbt H1 H2 H3 H4) ?_
   exact ⟨by omega, (), trivial, wk (cj5 (Bq ((i2 : Int) + 1)) H1 H2 H3 H4) [0]⟩
  refine VX.exit <| .H1 (cj3 hbt H1 H2) ?_
  exact ⟨by omega, (), trivial, wk (cj3 (Bq ((i1 : Int) + 1)) H1 H2) []⟩
 refine VX.exit <| .H hbt ?_
 exact .ret (fin hbt true (by intro h; subst h; simp_all))
noncomputable def Gt (a : List J3) (b : List J3) (ha : a.length <= 1000) (hb : ∀ o ∈ b, o.ses.length <= 1000) : Bool := (got (E5 a b ha hb)).choose
theorem K8 (a : List J3) (b : List J3) (ha : a.length <= 1000) (hb : ∀ o ∈ b, o.ses.length <= 1000) : PP 21 [] [.mOut a, .mOut b] [] (.lb (Gt a b ha hb)) := (got (E5 a b ha hb)).choose_spec.1
theorem Li (a : List J3) (b : List J3) (ha : a.length <= 1000) (hb : ∀ o ∈ b, o.ses.length <= 1000) : a = b -> (Gt a b ha hb) = true := (got (E5 a b ha hb)).choose_spec.2
theorem Afg {b : List Int} (h : By b) (k : Nat) : By (b.take k) := fun x hx => h x (Aq hx)
theorem Akk {b : List Int} (h : By b) (k : Nat) : By (b.drop k) := fun x hx => h x (Ay hx)
theorem Arj {b : List Int} (h : By b) (k : Nat) (v : Int) : By (b.set k (IntKind.u8.wrap v)) := fun x hx => by
 rcases Bi hx with h1 | h1
 ·exact h x h1
 rw [h1]; exact Oj v _ List.mem_cons_self
theorem Aqo {α : Type} (b : List α) (K : Nat) (h : K < b.length) : (Hm b K ((b.drop (K + 1)).take (b.length - (K + 1)))).take (K + (b.length - (K + 1))) = b.take K ++ b.drop (K + 1) := by
 refine List.ext_getElem? fun i => ?_
 by_cases hi : i < K + (b.length - (K + 1))
 ·rw [Ag hi, Gq]
  by_cases h1 : i < K
  ·rw [if_neg (by omega), Au (by simp; omega), Ag h1]
  rw [if_pos (by simp; omega), Ao (by simp; omega)]
  rw [Ag (by omega)]
  congr 1
  simp
  omega
 rw [List.getElem?_take_eq_none (by omega), Ar (by simp; omega)]
theorem F5 (b : List Int) (ix : Int) (bv : Int) (hl : b.length <= 1000) : Ct 37 [.mY b, .li ix, .li bv] (fun d : List Int => .mY d) (fun d => d.length <= 1001 /\ (By b -> By d)) := by
 refine Cb Tryz.func37 ?_
 refine VX.R ?_
 refine VX.H ok0 <| .seq ?_
 refine VX.R ?_
 refine VX.C ?_ ?_ <;> intro h13 <;> simp [go_sem] at h13
 ·refine VX.R ?_
  refine VX.Z ok0 1 ?_
  exact .ret (fin ok0 ([IntKind.u8.wrap bv]) (by first | exact ⟨by simp, fun _ => Oj _⟩ | trivial))
 refine VX.skip ?_
 have hbp : 1 <= b.length := by have := List.length_pos_iff.2 h13; omega
 obtain ⟨Y1, cY1, qY1⟩ := got (Fp ix b.length (by omega) (by omega))
 have hMv := cY1
 have hMq := qY1
 obtain ⟨K, hK⟩ : ∃ K : Nat, Y1 = (K : Int) := ⟨_, (Int.toNat_of_nonneg hMq.1).symm⟩
 rw [hK] at hMv hMq
 have hwk := Bq ((K : Int) + 1)
 obtain ⟨e0, he0⟩ : ∃ e, b[K]? = some e := ⟨_, Aa (by omega)⟩
 refine VX.L ok0 (hMv) <| .seq ?_
 refine VX.S (fun K kk => by simp [go_sem]; (repeat refine aK ?_); refine .lo (G2 _ 4 (by omega) (by omega)) rfl (by simp [AV.cln, Cp]) ?_; simp [go_sem]; exact kk) <| .block ?_
 refine VX.R ?_
 refine VX.C ?_ ?_ <;> intro h27 <;> simp [go_sem] at h27
 ·obtain ⟨e1, H1⟩ := gx b ((K : Int).toNat)
  refine VX.H1 (cj2 H1 he0) ?_
  refine VX.H H1 ?_
  refine VX.Z he0 0 ?_
  refine VX.ret (Co ?_); simp [go_sem, he0]
  exact ⟨b.set K (IntKind.u8.wrap bv), by simp [go_sem, he0, List.map_set], by simp; omega, fun h => Arj h _ _⟩
 refine VX.R ?_
 refine VX.C ?_ ?_ <;> intro h34 <;> simp [go_sem] at h34
 ·refine VX.G hwk ?_
  refine VX.Z ok0 0 ?_
  refine VX.ret (Co ?_); simp [go_sem]
  rw [if_pos (by rw [Cv]; simp)]
  refine ⟨b.take K ++ b.drop (K + 1), ?_, by simp; omega, fun h => (Afg h _).app (Akk h _)⟩
  have hsp := Aqo (tY b) K (by simp; omega)
  simp only [A2] at hsp
  rw [hsp]
  simp [go_sem, List.map_take, List.map_drop]
 refine VX.R ?_
 refine VX.C ?_ ?_ <;> intro h44 <;> simp [go_sem] at h44
 ·refine VX.G hwk ?_
  refine VX.Z ok0 1 ?_
  refine VX.ret (Co ?_); simp [go_sem]
  rw [if_pos (by omega)]
  refine ⟨b.take K ++ [IntKind.u8.wrap bv] ++ b.drop K, ?_, by simp; omega, fun h => ((Afg h _).app (Oj _)).app (Akk h _)⟩
  have e1 : List.take (b.length - K) (List.drop K (tY b)) = List.drop K (tY b) := Bf (by simp)
  rw [e1]
  simp [go_sem, List.map_take, List.map_drop]
 refine VX.Z ok0 0 ?_
 refine VX.H ok0 ?_
 refine VX.ret (Co ?_); simp [go_sem]
 exact ⟨b.take K, by simp [go_sem, List.map_take], by simp; omega, fun h => Afg h _⟩
noncomputable def Dw (b : List Int) (ix : Int) (bv : Int) (hl : b.length <= 1000) : List Int := (got (F5 b ix bv hl)).choose
theorem It (b : List Int) (ix : Int) (bv : Int) (hl : b.length <= 1000) : PP 37 [] [.mY b, .li ix, .li bv] [] (.mY (Dw b ix bv hl)) := (got (F5 b ix bv hl)).choose_spec.1
theorem Iu (b : List Int) (ix : Int) (bv : Int) (hl : b.length <= 1000) : (Dw b ix bv hl).length <= 1001 /\ (By b -> By (Dw b ix bv hl)) := (got (F5 b ix bv hl)).choose_spec.2
def Sr : List (List (Int × Int)) := [[(0, 0), (0, 0)], [(0, 0), (1, 0), (0, 1), (1, 1)], [(0, 0), (1, 0), (0, 0)], [(0, 0), (0, 0), (1, 0), (1, 0), (0, 1), (0, 1), (1, 1), (1, 1)], [(1, 0), (0, 1), (0, 2)], [(0, 0)]]
theorem Pb (n : Int) : Ct 52 [.li n] (fun d : List (Int × Int) => .imm false 2 (Zy d)) (fun d => d ∈ Sr) := by
 refine Cb Tryz.func52 ?_
 refine VX.R <| .seq ?_
 refine VX.R <| .block ?_
 refine VX.R ?_
 refine VX.C ?_ ?_ <;> intro h4 <;> simp [go_sem] at h4
 ·refine VX.R ?_
  refine VX.Z ok0 0 ?_
  exact .ret (fin ok0 ([(0, 0), (0, 0)]) (by decide))
 refine VX.R ?_
 refine VX.C ?_ ?_ <;> intro h9 <;> simp [go_sem] at h9
 ·refine VX.R ?_
  refine VX.Z ok0 0 ?_
  exact .ret (fin ok0 ([(0, 0), (1, 0), (0, 1), (1, 1)]) (by decide))
 refine VX.R ?_
 refine VX.C ?_ ?_ <;> intro h16 <;> simp [go_sem] at h16
 ·refine VX.R ?_
  refine VX.Z ok0 0 ?_
  exact .ret (fin ok0 ([(0, 0), (1, 0), (0, 0)]) (by decide))
 refine VX.R ?_
 refine VX.C ?_ ?_ <;> intro h22 <;> simp [go_sem] at h22
 ·refine VX.R ?_
  refine VX.Z ok0 0 ?_
  exact .ret (fin ok0 ([(0, 0), (0, 0), (1, 0), (1, 0), (0, 1), (0, 1), (1, 1), (1, 1)]) (by decide))
 refine VX.R ?_
 refine VX.C ?_ ?_ <;> intro h33 <;> simp [go_sem] at h33
 ·refine VX.R ?_
  refine VX.Z ok0 0 ?_
  exact .ret (fin ok0 ([(1, 0), (0, 1), (0, 2)]) (by decide))
 refine VX.skip <| .R ?_
 refine VX.Z ok0 0 ?_
 exact .ret (fin ok0 ([(0, 0)]) (by decide))
theorem Aj3 {l : List (Int × Int)} (h : l ∈ Sr) : 1 <= l.length /\ l.length <= 8 := by
 revert l; decide
def Amm (l : List (Int × Int)) (x : Bool) (i k : Nat) : Bool := i != k && ((l.getD i (0, 0)).1 == (l.getD k (0, 0)).1 || (l.getD i (0, 0)).2 != (l.getD k (0, 0)).2 || x && (i + k) % 2 == 1)
def R3 (l : List (Int × Int)) (x : Bool) (i : Nat) : Nat -> Int
 | 0 => 0
 | k + 1 => R3 l x i k + if Amm l x i k then 2 ^ k else 0
def Tv (l : List (Int × Int)) (ps : List C9) : Prop := ∀ (i : Nat) (p : C9), ps[i]? = some p -> ∃ s, l[i]? = some s /\ p.ring = s.1 /\ p.grp = s.2 /\ (1 <= p.mi /\ p.mi <= 3) /\ (1 <= p.ye /\ p.ye <= 2) /\ (0 <= p.re /\ p.re <= 2) /\ ((p.wa = 0 /\ p.cl = 0) \/ (1 <= p.wa /\ p.wa <= 2 /\ 1 <= p.cl /\ p.cl <= 2)) /\ p.mi <= p.ma /\ p.wa + p.cl <= p.ma /\ p.ma <= 7
def Al3 (j : Df) : Prop := ∃ s, s ∈ Sr /\ ∃ x : Bool, Tv s j.phs /\ j.phs.length = s.length /\ j.con = ((List.range s.length).map fun t => R3 s x t s.length) /\ 0 <= j.start /\ j.start <= 2
theorem Acl {S : List (Int × Int)} {i k : Nat} {s t : Int × Int} {x : Int} (hs : S[i]? = some s) (ht : S[k]? = some t) (hi : i < 8) (hk : k < 8) : Amm S (x == 3) i k = true <-> (¬ (i : Int) = (k : Int) /\ ((s.1 = t.1 \/ ¬ s.2 = t.2) \/ x = 3 /\ (IntKind.i64.wrap ((i : Int) + (k : Int))).tmod 2 = 1)) := by
 have hm : (IntKind.i64.wrap ((i : Int) + (k : Int))).tmod 2 = (((i + k) % 2 : Nat) : Int) := by
  rw [show IntKind.i64.wrap ((i : Int) + (k : Int)) = Int.ofNat (i + k) from Bq _]
  rfl
 rw [hm]
 unfold Amm
 rw [Ad, Ad, hs, ht]
 simp only [Bh, Ah, Bool.or_eq_true, bne_iff_ne, beq_iff_eq, ne_eq]
 constructor
 ·rintro ⟨h1, h2⟩
  exact ⟨by omega, h2.imp id fun h => ⟨h.1, by omega⟩⟩
 rintro ⟨h1, h2⟩
 exact ⟨by omega, h2.imp id fun h => ⟨h.1, by omega⟩⟩
theorem Tv.app {l : List (Int × Int)} {ps : List C9} {i : Nat} {s : Int × Int} {p : C9} (h : Tv l ps) (hl : ps.length = i) (hs : l[i]? = some s) (h1 : p.ring = s.1) (h2 : p.grp = s.2) (h3 : 1 <= p.mi /\ p.mi <= 3) (h4 : 1 <= p.ye /\ p.ye <= 2) (h5 : 0 <= p.re /\ p.re <= 2) (h6 : (p.wa = 0 /\ p.cl = 0) \/ (1 <= p.wa /\ p.wa <= 2 /\ 1 <= p.cl /\ p.cl <= 2)) (h7 : p.mi <= p.ma) (h8 : p.wa + p.cl <= p.ma) (h9 : p.ma <= 7) : Tv l (ps ++ [p]) := by
 intro k q hq
 by_cases hk : k < ps.length
 ·rw [Au hk] at hq; exact h k q hq
 rw [Ao (by omega)] at hq
 have hk2 : k = i := by
  have := (Ab.1 hq).1
  simp at this; omega
 subst hk2
 rw [hl, Nat.sub_self] at hq
 simp at hq
 subst hq
 exact ⟨s, hs, h1, h2, h3, h4, h5, h6, h7, h8, h9⟩
theorem Asq {k : Nat} (h : k < 8) : (2 : Int) ^ k <= 128 := by
 have : ∀ k : Fin 8, (2 : Int) ^ k.val <= 128 := by decide
 exact this ⟨k, h⟩
theorem Asm {k : Nat} (h : k < 8) : IntKind.i64.wrap (2 ^ min (IntKind.u64.wrap (k : Int)).toNat 64) = 2 ^ k := by
 have : ∀ k : Fin 8, IntKind.i64.wrap (2 ^ min (IntKind.u64.wrap (k.val : Int)).toNat 64) = 2 ^ k.val := by decide
 exact this ⟨k, h⟩
theorem Z1 (l : List (Int × Int)) (x : Bool) (i : Nat) : ∀ k, 0 <= R3 l x i k /\ R3 l x i k < 2 ^ k
 | 0 => by simp [R3]
 | k + 1 => by
  have := Z1 l x i k
  rw [R3, Int.pow_succ]
  split <;> omega
theorem Jh (k : Cf) (h : k.l.length <= 300) (h0 : 0 <= k.pos) : Cx 27 [.box 84 (k.a false)] [.ptr 0 0] (fun d : Df × Cf => [.box 84 (d.2.a false)]) (fun d => d.1.g) (fun d => d.2.l = k.l /\ 0 <= d.2.pos /\ Al3 d.1) := by
 refine Pr Tryz.func27 ?_
 refine VX.R ?_
 obtain ⟨D1, hD1, hd1, hl1, hp1⟩ := dN k 6
 obtain ⟨Y1, cY1, qY1⟩ := got (Pb D1.1)
 have hSq := qY1
 have hSv := cY1
 generalize Y1 = S at hSq hSv
 have hSl := Aj3 hSq
 refine VX.S (fun K kk => by simp [go_sem]; refine .o [0] (hD1) ?_; simp [go_sem]; refine .l (hSv) ?_; simp [go_sem]; exact kk) ?_
 obtain ⟨D2, hD2, hd2, hl2, hp2⟩ := dN D1.2 3
 refine VX.S (fun K kk => by simp [go_sem]; refine .o [0] (hD2) ?_; simp [go_sem]; exact kk) <| .seq ?_
 refine VX.R <| .block ?_
 refine VX.own0c 2 0 124 8 (by decide) rfl rfl ?_
 simp [go_sem, -Prod.exists]
 refine VX.rangeE S.length (fun i1 (y1 : (List Int) × Int × (List C9)) => ⟨[(0, .ptr 0 0), (2, .ptr 1 0), (4, .ptr 2 0), (20, .imm false 2 (Zy S)), (21, .li S.length), (22, .li i1)], [.box 84 [.mI y1.1, .li y1.2.1], .box 88 [.nil 8, .nil 1, .li 0], .box 88 [.own 3 y1.2.2.length, .nil 1, .li D2.1], .row 124 8 false false (Nk y1.2.2)]⟩) (fun i1 y1 => y1.1 = k.l /\ 0 <= y1.2.1 /\ y1.2.2.length = i1 /\ Tv S y1.2.2) (D2.2.l, D2.2.pos, []) (wk ok0 [0, 1, 2, 3]) (⟨by rw [hd2.1, hd1.1], hp2, rfl, fun i p h => by simp at h⟩) fun i1 y1 hi1 hy1 => ?_
 refine VX.R <| .seq ?_
 refine VX.C ?_ ?_ <;> intro h23 <;> simp [go_sem] at h23
 ·refine VX.skip <| .seq <| .block ?_
  obtain ⟨e1, H1⟩ := gx S i1
  refine VX.H H1 ?_
  have hyl : (⟨y1.1, y1.2.1⟩ : Cf).l.length <= 300 := by show y1.1.length <= 300; rw [hy1.1]; exact h
  have hyp : 0 <= (⟨y1.1, y1.2.1⟩ : Cf).pos := hy1.2.1
  have hyn := hy1.2.2.1
  obtain ⟨D3, hD3, hd3, hl3, hp3⟩ := dR ⟨y1.1, y1.2.1⟩ 1 3
  obtain ⟨D4, hD4, hd4, hl4, hp4⟩ := dR D3.2 1 2
  obtain ⟨D5, hD5, hd5, hl5, hp5⟩ := dN D4.2 3
  refine VX.E (fun K kk => by simp [go_sem, H1]; (repeat refine aK ?_); refine .o [0] (hD3) ?_; simp [go_sem, H1]; refine .o [0] (hD4) ?_; simp [go_sem, H1]; refine .o [0] (hD5) ?_; simp [go_sem, H1]; exact kk) <| .seq ?_
  obtain ⟨D6, hD6, hd6, hl6, hp6⟩ := dN D5.2 3
  refine VX.S (fun K kk => by simp [go_sem, H1]; refine .o [0] (hD6) ?_; simp [go_sem, H1]; exact kk) ?_
  refine VX.C ?_ ?_ <;> intro h39 <;> simp [go_sem] at h39
  ·obtain ⟨D7, hD7, hd7, hl7, hp7⟩ := dR D6.2 1 2
   obtain ⟨D8, hD8, hd8, hl8, hp8⟩ := dR D7.2 1 2
   have hw1 := Bq (D7.1 + D8.1)
   obtain ⟨MX, hMX⟩ : ∃ MX, (if D3.1 < D7.1 + D8.1 then D7.1 + D8.1 else D3.1) = MX := ⟨_, rfl⟩
   have hmb : D3.1 <= MX /\ D7.1 + D8.1 <= MX /\ MX <= 4 := by rw [<- hMX]; split <;> omega
   refine VX.S1 (fun K kk => by simp [go_sem, H1, hw1]; refine .o [0] (hD7) ?_; simp [go_sem, H1, hw1]; refine .o [0] (hD8) ?_; simp [go_sem, H1, hw1]; exact kk) ?_
   obtain ⟨D9, hD9, hd9, hl9, hp9⟩ := dN D8.2 4
   have hw2 := Bq (MX + D9.1)
   refine VX.E (fun K kk => by simp [go_sem, H1, hw1, hMX, hw2]; refine .o [0] (hD9) ?_; simp [go_sem, H1, hw1, hMX, hw2]; exact kk) ?_
   refine VX.H1 H1 ?_
   refine VX.H1 H1 ?_
   exact ⟨by omega, (D9.2.l, D9.2.pos, y1.2.2 ++ [⟨e1.1, e1.2, D3.1, MX + D9.1, D4.1, D5.1, D7.1, D8.1⟩]), ⟨by rw [hd9.1, hd8.1, hd7.1, hd6.1, hd5.1, hd4.1, hd3.1]; exact hy1.1, hp9, by simp; omega, Tv.app hy1.2.2.2 hyn H1 rfl rfl (by dsimp only; omega) (by dsimp only; omega) (by dsimp only; omega) (by dsimp only; omega) (by dsimp only; omega) (by dsimp only; omega) (by dsimp only; omega)⟩, wk (cj2 (Bq ((i1 : Int) + 1)) H1) [0, 1, 2, 3]⟩
  have hw1 : IntKind.i64.wrap 0 = 0 := by decide
  obtain ⟨MX, hMX⟩ : ∃ MX, (if D3.1 < 0 then 0 else D3.1) = MX := ⟨_, rfl⟩
  have hmb : D3.1 <= MX /\ 0 <= MX /\ MX <= 4 := by rw [<- hMX]; split <;> omega
  refine VX.skip ?_
  obtain ⟨D9, hD9, hd9, hl9, hp9⟩ := dN D6.2 4
  have hw2 := Bq (MX + D9.1)
  refine VX.E (fun K kk => by simp [go_sem, H1, hw1, hMX, hw2]; refine .o [0] (hD9) ?_; simp [go_sem, H1, hw1, hMX, hw2]; exact kk) ?_
  refine VX.H1 H1 ?_
  refine VX.H1 H1 ?_
  exact ⟨by omega, (D9.2.l, D9.2.pos, y1.2.2 ++ [⟨e1.1, e1.2, D3.1, MX + D9.1, D4.1, D5.1, 0, 0⟩]), ⟨by rw [hd9.1, hd6.1, hd5.1, hd4.1, hd3.1]; exact hy1.1, hp9, by simp; omega, Tv.app hy1.2.2.2 hyn H1 rfl rfl (by dsimp only; omega) (by dsimp only; omega) (by dsimp only; omega) (by dsimp only; omega) (by dsimp only; omega) (by dsimp only; omega) (by dsimp only; omega)⟩, wk (cj2 (Bq ((i1 : Int) + 1)) H1) [0, 1, 2, 3]⟩
 refine VX.exit ?_
 have hyl : (⟨y1.1, y1.2.1⟩ : Cf).l.length <= 300 := by show y1.1.length <= 300; rw [hy1.1]; exact h
 have hyp : 0 <= (⟨y1.1, y1.2.1⟩ : Cf).pos := hy1.2.1
 have hyn := hy1.2.2.1
 obtain ⟨D10, hD10, hd10, hl10, hp10⟩ := dN ⟨y1.1, y1.2.1⟩ 4
 have hn8 : y1.2.2.length <= 8 := by omega
 refine VX.S (fun K kk => by simp [go_sem]; refine .o [0] (hD10) ?_; simp [go_sem]; exact kk) <| .seq ?_
 refine VX.R <| .block ?_
 refine VX.own0c 2 1 3 1 (by decide) rfl rfl ?_
 simp [go_sem, -Prod.exists]
 refine VX.rangeE y1.2.2.length (fun i2 (y2 : (List C9) × (List Int)) => ⟨[(2, .ptr 1 0), (4, .ptr 2 0), (8, .lb ((D10.1 : Int) == 3)), (69, .own 3 y2.1.length), (70, .li y1.2.2.length), (71, .li i2)], [.box 84 [.mI D10.2.l, .li D10.2.pos], .box 88 [.nil 8, .nil 1, .li 0], .box 88 [.own 3 y2.1.length, .own 4 y2.2.length, .li D2.1], .row 124 8 false false (Nk y2.1), .row 3 1 false false (tI y2.2)]⟩) (fun i2 y2 => y2.1 = y1.2.2 /\ y2.2.length = i2 /\ y2.2 = (List.range i2).map fun t => R3 S (D10.1 == 3) t y1.2.2.length) (y1.2.2, []) (wk ok0 [0, 1, 2, 3, 4]) (⟨rfl, rfl, rfl⟩) fun i2 y2 hi2 hy2 => ?_
 refine VX.R <| .seq ?_
 refine VX.C ?_ ?_ <;> intro h72 <;> simp [go_sem] at h72
 ·refine VX.skip <| .seq <| .block ?_
  have hl2 := hy2.2.1
  have hy21 : y2.1.length = y1.2.2.length := by rw [hy2.1]
  obtain ⟨e2, H2⟩ := gx y2.1 i2
  refine VX.H H2 ?_
  refine VX.H H2 <| .seq ?_
  refine VX.H H2 <| .block ?_
  refine VX.rangeE y2.1.length (fun i3 (y3 : Int) => ⟨[(2, .ptr 1 0), (4, .ptr 2 0), (8, .lb ((D10.1 : Int) == 3)), (9, .li i2), (10, .ptr 5 0), (11, .li y3), (69, .own 3 y2.1.length), (70, .li y1.2.2.length), (71, .li i2), (77, .own 3 y2.1.length), (78, .li y2.1.length), (79, .li i3)], [.box 84 [.mI D10.2.l, .li D10.2.pos], .box 88 [.nil 8, .nil 1, .li 0], .box 88 [.own 3 y2.1.length, .own 4 y2.2.length, .li D2.1], .row 124 8 false false (Nk y2.1), .row 3 1 false false (tI y2.2), .box 124 [.li e2.ring, .li e2.grp, .li e2.mi, .li e2.ma, .li e2.ye, .li e2.re, .li e2.wa, .li e2.cl]]⟩) (fun i3 y3 => y3 = R3 S (D10.1 == 3) i2 i3) (0) (wk H2 [0, 1, 2, 3, 4, 5]) (rfl) fun i3 y3 hi3 hy3 => ?_
  refine VX.H H2 <| .seq ?_
  refine VX.C ?_ ?_ <;> intro h80 <;> simp [go_sem] at h80
  ·refine VX.skip <| .seq <| .block ?_
   obtain ⟨e3, H3⟩ := gx y2.1 i3
   refine VX.H (cj2 H2 H3) ?_
   refine VX.H (cj2 H2 H3) ?_
   refine VX.C ?_ ?_ <;> intro h110 <;> simp [go_sem] at h110
   ·have hw3 := Asm (k := i3) (by omega)
    have hw4 := Bq (y3 + 2 ^ i3) (by have := Z1 S (D10.1 == 3) i2 i3; have := Asq (k := i3) (by omega); omega) (by have := Z1 S (D10.1 == 3) i2 i3; have := Asq (k := i3) (by omega); omega)
    refine VX.H1 (cj4 H2 H3 hw3 hw4) ?_
    refine VX.H1 (cj2 H2 H3) ?_
    refine ⟨by omega, ((y3 + 2 ^ i3)), ?_, wk (cj3 (Bq ((i3 : Int) + 1)) H2 H3) [0, 1, 2, 3, 4, 5]⟩
    obtain ⟨s, hs, hs1, hs2, _⟩ := hy1.2.2.2 i2 e2 (by rw [<- hy2.1]; exact H2); obtain ⟨t, ht, ht1, ht2, _⟩ := hy1.2.2.2 i3 e3 (by rw [<- hy2.1]; exact H3); rw [R3, if_pos ((Acl hs ht (by omega) (by omega)).2 (by rw [<- hs1, <- ht1, <- hs2, <- ht2]; exact h110)), hy3]
   refine VX.skip <| .H1 (cj2 H2 H3) ?_
   refine ⟨by omega, (y3), ?_, wk (cj3 (Bq ((i3 : Int) + 1)) H2 H3) [0, 1, 2, 3, 4, 5]⟩
   obtain ⟨s, hs, hs1, hs2, _⟩ := hy1.2.2.2 i2 e2 (by rw [<- hy2.1]; exact H2); obtain ⟨t, ht, ht1, ht2, _⟩ := hy1.2.2.2 i3 e3 (by rw [<- hy2.1]; exact H3); rw [R3, if_neg (fun hb => by obtain ⟨ha, hc⟩ := (Acl hs ht (by omega) (by omega)).1 hb; rw [<- hs1, <- ht1, <- hs2, <- ht2] at hc; have hh := h110 ha; rcases hc with (hc | hc) | hc; exact hh.1.1 hc; exact hc hh.1.2; exact hh.2 hc.1 hc.2), hy3, Int.add_zero]
  refine VX.exit <| .H1 H2 ?_
  refine VX.H1 H2 ?_
  exact ⟨by omega, (y2.1, y2.2 ++ ([y3])), ⟨hy2.1, by simp; omega, by have h3 : i3 = y1.2.2.length := (by omega); rw [hy2.2.2, List.range_succ, List.map_append, hy3, h3]; rfl⟩, wk (cj2 (Bq ((i2 : Int) + 1)) H2) [0, 1, 2, 3, 4]⟩
 refine VX.exit <| .R ?_
 refine VX.Z ok0 3 ?_
 refine VX.Z ok0 4 ?_
 exact .ret ⟨(⟨y2.1, y2.2, D2.1⟩, D10.2), rW ok0 [0], ⟨by rw [hd10.1]; exact hy1.1, hp10, S, hSq, (D10.1 == 3), by dsimp only; rw [hy2.1]; exact hy1.2.2.2, by dsimp only; rw [hy2.1]; omega, by dsimp only; rw [hy2.2.2, show i2 = S.length from by omega, show y1.2.2.length = S.length from by omega], by dsimp only; omega, by dsimp only; omega⟩⟩
def AgQ (ri : Int) (a : TAg) : Prop := a.sec.length = 8 /\ a.lims.length = 4 /\ (∀ x ∈ a.lims, 0 <= x /\ x <= 3) /\ a.ri = ri /\ a.cls = 3 /\ (1 <= a.rq /\ a.rq <= 3) /\ (1 <= a.se /\ a.se <= 2) /\ (1 <= a.ra /\ a.ra <= 3) /\ a.ra <= a.bu /\ a.bu <= 7
structure Yv (ri : Int) (c : Dy) : Prop where
  per : 1 <= c.per /\ c.per <= 4
  cap : 0 <= c.cap /\ c.cap <= 3
  hold : 1 <= c.hold /\ c.hold <= 3
  lock : 0 <= c.lock /\ c.lock <= 4
  nj : 1 <= c.juns.length /\ c.juns.length <= 2
  na : 1 <= c.ags.length /\ c.ags.length <= 3
  jun : ∀ j ∈ c.juns, Al3 j
  ag : ∀ a ∈ c.ags, AgQ ri a
theorem ap1 {α : Type} {p : α -> Prop} {l : List α} {x : α} (h : ∀ y ∈ l, p y) (hx : p x) : ∀ y ∈ l ++ [x], p y := fun y hy => by
 rcases A0.1 hy with h1 | h1
 ·exact h y h1
 rw [An.1 h1]; exact hx
theorem F8 (k : Cf) (ri : Int) (h : k.l.length <= 300) (h0 : 0 <= k.pos) : Cx 11 [.box 84 (k.a false)] [.ptr 0 0, .li ri] (fun d : Dy × Cf => [.box 84 (d.2.a false)]) (fun d => d.1.g) (fun d => d.2.l = k.l /\ (0 <= d.2.pos /\ (k.l = [] -> d.1.ags.length = 1 /\ ∀ a ∈ d.1.ags, a.se = 1)) /\ Yv ri d.1) := by
 refine Pr Tryz.func11 ?_
 refine VX.R ?_
 obtain ⟨D1, hD1, hd1, hl1, hp1⟩ := dR k 1 4
 obtain ⟨D2, hD2, hd2, hl2, hp2⟩ := dN D1.2 4
 obtain ⟨D3, hD3, hd3, hl3, hp3⟩ := dR D2.2 1 3
 obtain ⟨D4, hD4, hd4, hl4, hp4⟩ := dN D3.2 5
 refine VX.S (fun K kk => by simp [go_sem]; refine .o [0] (hD1) ?_; simp [go_sem]; refine .o [0] (hD2) ?_; simp [go_sem]; refine .o [0] (hD3) ?_; simp [go_sem]; refine .o [0] (hD4) ?_; simp [go_sem]; exact kk) <| .seq ?_
 obtain ⟨D5, hD5, hd5, hl5, hp5⟩ := dN D4.2 2
 have hw5 := Bq (1 + D5.1)
 refine VX.S (fun K kk => by simp [go_sem, hw5]; refine .o [0] (hD5) ?_; simp [go_sem, hw5]; exact kk) <| .block ?_
 refine VX.own0c 2 0 88 3 (by decide) rfl rfl ?_
 simp [go_sem, -Prod.exists]
 refine VX.whileE (fun (y1 : (List Int) × Int × (List Df) × Int) => ⟨[(0, .ptr 0 0), (1, .li ri), (4, .ptr 1 0), (5, .ptr 2 0), (6, .li y1.2.2.2)], [.box 84 [.mI y1.1, .li y1.2.1], .box 30 [.nil 3, .nil 8, .li 0, .li 0, .li 0, .li 0], .box 30 [.own 3 y1.2.2.1.length, .nil 8, .li D1.1, .li D2.1, .li D3.1, .li D4.1], .row 88 3 false false (Aby y1.2.2.1)]⟩) (fun y1 => y1.1 = k.l /\ 0 <= y1.2.1 /\ 0 <= y1.2.2.2 /\ (y1.2.2.1.length : Int) + y1.2.2.2 = 1 + D5.1 /\ ∀ j ∈ y1.2.2.1, Al3 j) (fun y1 => y1.2.2.2.toNat) (D5.2.l, D5.2.pos, [], (1 + D5.1)) (wk ok0 [0, 1, 2, 3]) (⟨by rw [hd5.1, hd4.1, hd3.1, hd2.1, hd1.1], hp5, by dsimp only; omega, by simp, fun j hj => by cases hj⟩) fun y1 hy1 => ?_
 refine VX.seq <| .R ?_
 refine VX.C ?_ ?_ <;> intro h21 <;> simp [go_sem] at h21
 ·refine VX.skip <| .seq <| .block ?_
  have hyl : (⟨y1.1, y1.2.1⟩ : Cf).l.length <= 300 := by show y1.1.length <= 300; rw [hy1.1]; exact h
  have hyp : 0 <= (⟨y1.1, y1.2.1⟩ : Cf).pos := hy1.2.1
  have hyn := hy1.2.2
  obtain ⟨J, hJ, hj⟩ := Jh ⟨y1.1, y1.2.1⟩ hyl hyp
  refine VX.E1 (fun K kk => by simp [go_sem]; refine .o [0] (hJ) ?_; simp [go_sem]; (repeat first | exact kk | refine aK ?_)) ?_
  have hw1 := Bq (y1.2.2.2 - 1 : Int)
  refine VX.H1 hw1 ?_
  refine ⟨(J.2.l, J.2.pos, y1.2.2.1 ++ ([J.1]), (y1.2.2.2 - 1)), ?_, ?_, [0, 1, 2, 3], Bp (by decide) ?_ ?_, by simp⟩
  ·(dsimp only; omega)
  ·exact ⟨by rw [hj.1]; exact hy1.1, hj.2.1, by dsimp only; omega, by simp; omega, ap1 hy1.2.2.2.2 hj.2.2⟩
  all_goals simp [go_sem, hw1]
 refine VX.exit <| .seq ?_
 have hyl : (⟨y1.1, y1.2.1⟩ : Cf).l.length <= 300 := by show y1.1.length <= 300; rw [hy1.1]; exact h
 have hyp : 0 <= (⟨y1.1, y1.2.1⟩ : Cf).pos := hy1.2.1
 obtain ⟨D6, hD6, hd6, hl6, hp6⟩ := dN ⟨y1.1, y1.2.1⟩ 3
 have hw6 := Bq (1 + D6.1)
 refine VX.S (fun K kk => by simp [go_sem, hw6]; refine .o [0] (hD6) ?_; simp [go_sem, hw6]; exact kk) <| .block ?_
 refine VX.own0c 2 1 60 8 (by decide) rfl rfl ?_
 simp [go_sem, -Prod.exists]
 refine VX.rangeE ((1 + D6.1).toNat) (fun i2 (y2 : (List Int) × Int × (List Df) × (List TAg)) => ⟨[(0, .ptr 0 0), (1, .li ri), (4, .ptr 1 0), (5, .ptr 2 0), (33, .li (1 + D6.1)), (34, .li i2)], [.box 84 [.mI y2.1, .li y2.2.1], .box 30 [.nil 3, .nil 8, .li 0, .li 0, .li 0, .li 0], .box 30 [.own 3 y2.2.2.1.length, .own 4 y2.2.2.2.length, .li D1.1, .li D2.1, .li D3.1, .li D4.1], .row 88 3 false false (Aby y2.2.2.1), .row 60 8 false false (tAg y2.2.2.2)]⟩) (fun i2 y2 => y2.1 = k.l /\ 0 <= y2.2.1 /\ y2.2.2.1 = y1.2.2.1 /\ (y2.2.2.2.length = i2 /\ (k.l = [] -> ∀ a ∈ y2.2.2.2, a.se = 1)) /\ ∀ a ∈ y2.2.2.2, AgQ ri a) (D6.2.l, D6.2.pos, y1.2.2.1, []) (wk ok0 [0, 1, 2, 3, 4]) (⟨by rw [hd6.1]; exact hy1.1, hp6, rfl, ⟨rfl, fun _ a ha => by cases ha⟩, fun a ha => by cases ha⟩) fun i2 y2 hi2 hy2 => ?_
 refine VX.R <| .seq ?_
 refine VX.C ?_ ?_ <;> intro h35 <;> simp [go_sem] at h35
 ·refine VX.skip <| .seq <| .block <| .R ?_
  have hyl : (⟨y2.1, y2.2.1⟩ : Cf).l.length <= 300 := by show y2.1.length <= 300; rw [hy2.1]; exact h
  have hyp : 0 <= (⟨y2.1, y2.2.1⟩ : Cf).pos := hy2.2.1
  obtain ⟨G, hG, hg⟩ := J6 ⟨y2.1, y2.2.1⟩ i2 ri hyl hyp
  refine VX.E1 (fun K kk => by simp [go_sem]; refine .o [0] (hG) ?_; simp [go_sem]; (repeat first | exact kk | refine aK ?_)) ?_
  refine VX.R1 ?_
  exact ⟨by omega, (G.2.l, G.2.pos, y2.2.2.1, y2.2.2.2 ++ ([G.1])), ⟨by rw [hg.1]; exact hy2.1, hg.2.1.1, hy2.2.2.1, ⟨by simp; omega, fun e => ap1 (hy2.2.2.2.1.2 e) (hg.2.1.2 (hy2.1.trans e))⟩, ap1 hy2.2.2.2.2 hg.2.2⟩, wk (Bq ((i2 : Int) + 1)) [0, 1, 2, 3, 4]⟩
 refine VX.exit <| .R ?_
 refine VX.Z ok0 3 ?_
 refine VX.Z ok0 4 ?_
 exact .ret ⟨(⟨y2.2.2.1, y2.2.2.2, D1.1, D2.1, D3.1, D4.1⟩, ⟨y2.1, y2.2.1⟩), rW ok0 [0], ⟨hy2.1, ⟨hy2.2.1, fun e => ⟨by have := hd6.2.2.2.2 (hy1.1.trans e); dsimp only; omega, hy2.2.2.2.1.2 e⟩⟩, ⟨by dsimp only; omega, by dsimp only; omega, by dsimp only; omega, by dsimp only; omega, by dsimp only; rw [hy2.2.2.1]; omega, by dsimp only; omega, by dsimp only; rw [hy2.2.2.1]; exact hy1.2.2.2.2, hy2.2.2.2.2⟩⟩⟩
end Go.Proofs.YtkkimgjinbaemaaGreat
