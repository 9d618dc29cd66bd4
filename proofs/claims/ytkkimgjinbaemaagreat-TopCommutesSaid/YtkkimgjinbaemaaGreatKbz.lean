/- The walk. -/
import Derived.Test.YtkkimgjinbaemaaGreatKby
namespace Go.Proofs.YtkkimgjinbaemaaGreat
open Go.RowKit
set_option linter.unusedVariables false
set_option linter.unusedSimpArgs false
set_option maxRecDepth 100000
set_option maxHeartbeats 4000000
theorem Aqu {st : St} : st.raw (.const (.pointer none)) = .lit (.pointer none) := rfl
attribute [go_sem] Aqu
theorem Pi : PP 10 [] [.nil 0] [.box 84 [.nil 1, .li 0]] (.ptr 0 0) := by
 refine B0 Tryz.func10 ?_
 iterate 2 refine VW.R ?_
 exact .ret (rW ok0 [0])
theorem P6 (l : List Int) : PP 10 [] [.mI l] [.box 84 ((⟨l, 0⟩ : Cf).a false)] (.ptr 0 0) := by
 refine B0 Tryz.func10 ?_
 iterate 2 refine VW.R ?_
 exact .ret (rW ok0 [0])
theorem Rb (l : List Int) : Ct 8 [.mI l] (fun d : Bool => .lb d) (fun d => d = decide (l.length <= 300)) := by
 refine Cb Tryz.func8 ?_
 iterate 2 refine VX.R ?_
 refine VX.ret (Co ?_); simp [go_sem]
 exact ⟨_, rfl, (by simp; omega)⟩
theorem Rc (l : List Int) : PP 8 [] [.mI l] [] (.lb (decide (l.length <= 300))) := by
 obtain ⟨_, h, d, rfl, hd⟩ := Rb l
 rwa [hd] at h
theorem Am4 : ∀ (l : List TEv) (b : Hd), (Hq b l).length <= l.length
 | [], b => by simp [Hq]
 | e :: l, b => by
  have := Am4 l (doF b e).1
  rw [Hq]
  split <;> simp <;> omega
theorem Am3 : ∀ (l : List TEv) (b : Hd), Ns b -> (∀ e ∈ l, EvQ e) -> ∀ o ∈ Hq b l, o.ses.length <= 1000
 | [], b, hb, hl => by simp [Hq]
 | e :: l, b, hb, hl => by
  have he := hl e (by simp)
  have hd := Hx b e hb he
  rw [<- Ui hb he] at hd
  have ih := Am3 l (doF b e).1 hd.i (fun x hx => hl x (by simp [hx]))
  rw [Hq]
  split
  ·rename_i ht
   intro o ho
   rcases List.mem_cons.1 ho with rfl | ho
   ·have hk : e.kind = 6 := by
     by_cases hk : e.kind = 6
     ·exact hk
     rw [hd.none hk] at ht; cases ht
    have h1 := (hd.tick hk).2.1
    have h2 := (Ld b.city.cfg.ags b.city.cfg.ags.length).2
    have h3 := hb.city.na
    omega
   exact ih o ho
  exact ih
theorem O9  : Ct 9 [] (fun d : Bool => .lb d) (fun d => d = true) := by
 refine Cb Tryz.func9 ?_
 obtain ⟨C, hC, _, hc2, hcq⟩ := F8 ⟨[], 0⟩ 63 (by simp) (Int.le_refl 0)
 have hc1 := hc2.2 rfl
 obtain ⟨b, f, hR, h10⟩ := Alm hcq.b (hcq.pl (by decide)) hcq.hj hcq.ha (by have := hcq.nj; omega) (by have := hcq.na; omega) hcq.hs hc1.1 hc1.2
 have hL : ∀ e ∈ ([⟨1, 0, 0, 0, []⟩, ⟨6, 0, 0, 0, []⟩] : List TEv), EvQ e := fun e he => by rcases List.mem_cons.1 he with rfl | he; exact Gl rfl; rw [An.1 he]; exact Gl rfl
 have hv := P8 C.1 [⟨1, 0, 0, 0, []⟩, ⟨6, 0, 0, 0, []⟩] hcq.b (hcq.pl (by decide)) hcq.hj hcq.ha (by have := hcq.nj; omega) (by have := hcq.na; omega) hcq.hs (by simp) hL
 rw [Qf, show ([⟨1, 0, 0, 0, []⟩, ⟨6, 0, 0, 0, []⟩] : List TEv).take 400 = [⟨1, 0, 0, 0, []⟩, ⟨6, 0, 0, 0, []⟩] from rfl, hR] at hv
 have h10i : (10 : Int) < b.length := by omega
 refine VX.R ?_
 refine VX.region_fz_seq 5 1 (by rfl) fun K1 hK1 => ?_
 simp [go_sem]
 refine .by (Pi) (LeL.refl _) (by simp) ?_
 simp [go_sem]
 refine .o [0] (hC) ?_
 simp [go_sem]
 refine .l (hv) ?_
 simp [go_sem]
 refine hK1 _ ?_; clear hK1
 refine VX.H ok0 ?_
 exact .ret (fin h10i true rfl)
theorem Ajx : PP 9 [] [] [] (.lb true) := by
 obtain ⟨Y1, cY1, qY1⟩ := got (O9)
 have h := cY1
 rwa [qY1] at h
theorem E9 (l : List Int) (n0 : Int) : Ct 4 [.mI l, .li n0] (fun d : Bool => .lb d) (fun d => d = true) := by
 refine Cb Tryz.func4 ?_
 refine VX.R <| .seq ?_
 refine VX.L ok0 (Rc l) ?_
 refine VX.C ?_ ?_ <;> intro h15 <;> simp [go_sem] at h15
 ·refine VX.L ok0 (Ajx) ?_
  refine VX.ret (Co ?_); simp [go_sem]
  exact ⟨true, by first | rfl | simp [go_sem], rfl⟩
 refine VX.skip <| .L ok0 (P6 l) ?_
 obtain ⟨C, hC, hcl, hc2, hcq⟩ := F8 ⟨l, 0⟩ 63 h15 (Int.le_refl 0)
 obtain ⟨S, hS, _, _, hsl, hsq⟩ := J5 C.2 C.1 false (by rw [hcl]; exact h15) hc2.1 hcq
 refine VX.S (fun K kk => by simp [go_sem]; refine .o [0] (hC) ?_; simp [go_sem]; exact kk) ?_
 refine VX.S (fun K kk => by simp [go_sem]; refine .o [0] (hS) ?_; simp [go_sem]; exact kk) ?_
 refine VX.H ok0 <| .seq ?_
 refine VX.R <| .block ?_
 refine VX.rangeE 3 (fun i1 (y1 : (List TEv)) => ⟨[(1, .li n0), (6, .ptr 0 0), (7, .mEv S.1), (8, .own 1 y1.length), (26, .li i1)], [.box 30 [.mJun C.1.juns, .mAg C.1.ags, .li C.1.per, .li C.1.cap, .li C.1.hold, .li C.1.lock], .row 46 5 false false (tEv y1)]⟩) (fun i1 y1 => y1.length = S.1.length /\ (∀ e ∈ y1, EvQ e) /\ Hq (Da C.1  hcq.b (hcq.pl (by decide)) hcq.hj hcq.ha (by have := hcq.nj; omega) (by have := hcq.na; omega) hcq.hs) y1 = Hq (Da C.1  hcq.b (hcq.pl (by decide)) hcq.hj hcq.ha (by have := hcq.nj; omega) (by have := hcq.na; omega) hcq.hs) S.1) (S.1) ⟨[1, 2], Bp (by decide) ?_ ?_, by simp⟩ (⟨rfl, hsq, rfl⟩) fun i1 y1 hi1 hy1 => ?_
 ·simp [go_sem]
 ·simp [go_sem]
 refine VX.R <| .seq ?_
 refine VX.C ?_ ?_ <;> intro h27 <;> simp [go_sem] at h27
 ·refine VX.skip <| .seq <| .block <| .R ?_
  have hyl := hy1.1
  have hMv := G2 (IntKind.i64.wrap (n0 + IntKind.i64.wrap (7 * (i1 : Int)))) (y1.length - 1) (by omega) (by omega)
  have hMq := Es (IntKind.i64.wrap (n0 + IntKind.i64.wrap (7 * (i1 : Int)))) (y1.length - 1) (by omega) (by omega)
  obtain ⟨K, hK⟩ : ∃ K : Nat, Fq (IntKind.i64.wrap (n0 + IntKind.i64.wrap (7 * (i1 : Int)))) (y1.length - 1) (by omega) (by omega) = (K : Int) := ⟨_, (Int.toNat_of_nonneg hMq.1).symm⟩
  rw [hK] at hMv hMq
  have hwl := Bq ((y1.length : Int) - 1)
  refine VX.L hwl (hMv) ?_
  obtain ⟨ea, hea⟩ : ∃ e, y1[K]? = some e := ⟨_, Aa (by omega)⟩
  obtain ⟨eb, heb⟩ : ∃ e, y1[K + 1]? = some e := ⟨_, Aa (by omega)⟩
  have hwk := Bq ((K : Int) + 1)
  refine VX.G (cj3 hwk hea heb) ?_
  refine VX.H (cj2 hea heb) ?_
  refine VX.C ?_ ?_ <;> intro h60 <;> simp [go_sem] at h60
  ·have hse : (y1.set K eb)[K + 1]? = some eb := by rw [A9 (by omega)]; exact heb
   refine VX.G1 (cj4 hwk hea heb hse) ?_
   refine VX.R1 ?_
   refine ⟨by omega, ((y1.set K eb).set (K + 1) ea), ?_, [0, 1], Bp (by decide) ?_ ?_, by simp⟩
   ·exact ⟨by simp; omega, Amt hy1.2.1 (hy1.2.1 _ (Ac hea)) (hy1.2.1 _ (Ac heb)), (Am2 (Mw _ _ _ _ _ _ _ _).1 hy1.2.1 hea heb h60.1.1 h60.1.2 h60.2).trans hy1.2.2⟩
   all_goals simp [go_sem, Bq ((i1 : Int) + 1)]
  refine VX.skip <| .R1 ?_
  refine ⟨by omega, y1, ?_, [0, 1], Bp (by decide) ?_ ?_, by simp⟩
  ·exact hy1
  all_goals simp [go_sem, Bq ((i1 : Int) + 1)]
 refine VX.exit ?_
 have hyl := hy1.1
 have hv1 := P8 C.1 y1 hcq.b (hcq.pl (by decide)) hcq.hj hcq.ha (by have := hcq.nj; omega) (by have := hcq.na; omega) hcq.hs (by omega) hy1.2.1
 have hv2 := P8 C.1 S.1 hcq.b (hcq.pl (by decide)) hcq.hj hcq.ha (by have := hcq.nj; omega) (by have := hcq.na; omega) hcq.hs (by omega) hsq
 rw [Qf, Bf (by omega), hy1.2.2] at hv1
 rw [Qf, Bf (by omega)] at hv2
 have hvS := K8 (Hq (Da C.1  hcq.b (hcq.pl (by decide)) hcq.hj hcq.ha (by have := hcq.nj; omega) (by have := hcq.na; omega) hcq.hs) S.1) (Hq (Da C.1  hcq.b (hcq.pl (by decide)) hcq.hj hcq.ha (by have := hcq.nj; omega) (by have := hcq.na; omega) hcq.hs) S.1) (Ak (Am4 _ _) (by omega)) (Am3 _ _ (Mw _ _ _ _ _ _ _ _).1 hsq)
 rw [Li _ _ _ _ rfl] at hvS
 generalize Hq (Da C.1  hcq.b (hcq.pl (by decide)) hcq.hj hcq.ha (by have := hcq.nj; omega) (by have := hcq.na; omega) hcq.hs) S.1 = A at hv1 hv2 hvS
 refine VX.F 1 ?_
 simp [go_sem, -Prod.exists]
 refine VX.draw_seq (by kernel_rfl) (by rfl) (by kernel_rfl) fun K1 hK1 => ?_
 simp [go_sem]
 refine .l (hv1) ?_
 simp [go_sem]
 refine .l (hv2) ?_
 simp [go_sem]
 refine .l (hvS) ?_
 simp [go_sem]
 refine Jq (by simp [go_sem]) (by simp [go_sem]) ?_
 simp [go_sem]
 first | refine .lo (Ajx) rfl (by simp [AV.cln, Cp]) ?_ | refine .skip ?_
 simp [go_sem]
 refine hK1 _ _ (by kernel_rfl) ?_; clear hK1
 refine VX.ret (Co ?_); simp [go_sem]
 exact ⟨(true && true), by first | rfl | simp [go_sem], rfl⟩
noncomputable def Gy (l : List Int) (n0 : Int) : Bool := (got (E9 l n0)).choose
theorem Lw (l : List Int) (n0 : Int) : PP 4 [] [.mI l, .li n0] [] (.lb (Gy l n0)) := (got (E9 l n0)).choose_spec.1
theorem L3 (l : List Int) (n0 : Int) : (Gy l n0) = true := (got (E9 l n0)).choose_spec.2
theorem Akf {w : World} {b off : Nat} {v : Value} (h : w.cell? ⟨b, off, none⟩ = some v) : ∃ cur ty fz, w.heap[b]? = some (.cells cur ty fz) /\ cur[off]? = some v := by
 unfold World.cell? at h
 split at h
 ·rename_i cur ty fz h1
  exact ⟨cur, ty, fz, h1, by simpa using h⟩
 simp at h
theorem Ahu.tree {w : World} {A : Option Addr} {len cap : Nat} {zs : List Int} (h : Ahu w A len cap zs) (S : Nat -> Prop) (hS : ∀ b, b < w.heap.size -> S b) : ∃ xs : List Int, Do w.heap S (.sl 1 (tI xs)) (.slice A len cap) := by
 by_cases h0 : len = 0
 ·subst h0
  exact ⟨[], .nil 1 A cap⟩
 obtain ⟨b, off, rfl, hb, h1⟩ := h.at_ 0 (by omega)
 obtain ⟨cur, ty, fz, hc, _⟩ := Akf h1
 have hlen : len <= cap /\ zs.length = cap := by
  rcases h with ⟨h, _⟩ | ⟨x, _, h2, _, h3, _⟩
  ·cases h
  exact ⟨h2, h3⟩
 refine ⟨zs.take len, ?_⟩
 have hl : (tI (zs.take len)).length = len := by simp [tI]; omega
 have key : ∀ (i : Nat) (e : List T), (tI (zs.take len))[i]? = some e -> i < len /\ e = [.li (zs.getD i 0)] := fun i e he => by
  have hi : i < len := by have := (Ab.1 he).1; omega
  refine ⟨hi, ?_⟩
  simp only [tI, Ap, Ag hi] at he
  rw [Aa (show i < zs.length by omega)] at he
  simp only [Ai, Option.some.injEq] at he
  rw [<- he, Ad, Aa (show i < zs.length by omega)]
  rfl
 have := Do.sl (h := w.heap) (S := S) 1 (tI (zs.take len)) b off cap cur ty fz (fun i _ => .int .i64 (zs.getD i 0)) hc (hS b hb) (by omega) (fun i e he => by rw [(key i e he).2]; rfl) (fun i e j x he hx => by
  obtain ⟨hi, rfl⟩ := key i e he
  have hj : j = 0 := by have := (Ab.1 hx).1; simp at this; omega
  subst hj
  obtain ⟨b', off', e', _, h2⟩ := h.at_ i hi
  cases e'
  obtain ⟨cur', ty', fz', hc', hv⟩ := Akf h2
  rw [hc] at hc'
  cases hc'
  simpa using hv) (fun i e j x he hx => by
  obtain ⟨hi, rfl⟩ := key i e he
  have hj : j = 0 := by have := (Ab.1 hx).1; simp at this; omega
  subst hj
  simp at hx
  subst hx
  exact .lit _ rfl)
 rwa [hl] at this
def C0 (w : World) : VC := ⟨w.heap, (St.mk [] []).o, fun _ => none, w.heap.size, fun _ => False, fun _ => True, fun _ => True⟩
theorem Aud {w : World} {b : Nat} (h : b < w.heap.size) : (C0 w).S false b := ⟨h, (fun ⟨id, h, _⟩ => by cases h), .inr (.inr ⟨trivial, fun h => by cases h⟩)⟩
theorem B8.top {P : Program} {f : FuncId} {args : List AV} {v : Value} (h : B8 P f [] args [] (.lit v)) (w : World) (us : Array Value) (hl : us.size = args.length)
 (hv : ∀ (t : Nat) (c : AV) (u : Value), args[t]? = some c -> us[t]? = some u -> Br (C0 w) c u) :
  Calls P f us w fun e w' => e = .returned v /\ Below w.heap.size w w' := by
 let E : Ent := ⟨w, fun _ => .gone, fun _ => none, fun _ => True, fun _ => True, args.length, [], fun _ => none⟩
 have hM : E.M = fun _ => False := by
  funext b
  exact propext ⟨fun ⟨id, h, _⟩ => h rfl, fun h => h.elim⟩
 have hC : E.C (fun _ => none) ⟨E8 0 args, []⟩ w = C0 w := by
  show VC.mk _ _ _ _ E.M _ _ = _
  rw [hM]
  rfl
 have r0 : Rel E (fun _ => none) ⟨E8 0 args, []⟩ ⟨us, []⟩ w := by
  refine ⟨hl, fun t => ?_, rfl, fun id => trivial, fun i j b hi => absurd rfl hi, fun i b hi => absurd rfl hi, Kp.refl _ _, ⟨(fun id ty cs h => by cases h), (fun id ty k fr fz es h => by cases h)⟩, (fun b o h => by cases h), List.nodup_nil, fun D h => by cases h⟩
  rw [hC]
  show Br _ (Ce (E8 0 args) t) _
  rw [Iq, Nat.sub_zero, Ad]
  cases hx : args[t]? with
  | none => exact .any _
  | some x =>
   have ht : t < us.size := by rw [hl]; exact (Ab.1 hx).1
   rw [if_pos (Ae _), Av, Al ht]
   exact hv t x _ hx (Al ht)
 refine (h.2 E (fun _ => none) us rfl (by funext i; simp [E, St.o]) rfl r0).mono ?_
 rintro e w' ⟨u, β', rfl, r⟩
 have h0 := r.sl 0
 have h1 : u = v := by
  simp [Ce] at h0
  cases h0
  rfl
 refine ⟨by rw [h1], ?_⟩
 obtain ⟨k1, k2, k3, k4, k5⟩ := r.kp
 exact ⟨k1, k2, k3, k4, fun b hb => k5 b hb (fun ⟨id, h, _⟩ => h rfl)⟩
theorem commutes_walk (A : Option Addr) (len cap : Nat) (zs : List Int) (n : Int) (w : World) (hA : Ahu w A len cap zs) (hn : (Lit.int .i64 n).wf = true) :
 Calls Tryz.prog 4 #[.slice A len cap, .int .i64 n] w fun e w' => e = .returned (.bool true) /\ Below w.heap.size w w' := by
 obtain ⟨xs, hx⟩ := hA.tree ((C0 w).S false) (fun b h => Aud h)
 have h := Lw xs n
 rw [L3] at h
 refine h.top w _ rfl fun t c u hc hu => ?_
 match t, hc, hu with
 | 0, hc, hu =>
  simp at hc hu
  subst hc; subst hu
  exact .imm _ _ _ _ hx
 | 1, hc, hu =>
  simp at hc hu
  subst hc; subst hu
  exact .lit _
 | t + 2, hc, hu => simp at hc
end Go.Proofs.YtkkimgjinbaemaaGreat
