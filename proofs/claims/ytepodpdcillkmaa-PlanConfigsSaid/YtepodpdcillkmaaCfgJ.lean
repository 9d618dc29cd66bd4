/- The walk of signalbrokerlaw07.PlanConfigs. -/
import Derived.Test.YtepodpdcillkmaaCfgI
import Derived.Test.YtepodpdcillkmaaCfgC
import Derived.Deep.CutBlock
namespace Go.Proofs.Ytepodpdcillkmaa
open Go.RowKit
set_option linter.unusedVariables false
set_option linter.unusedSimpArgs false

theorem held_below2 {X w : World} (h : Below X.heap.size X w ∧ ∀ b o, b < X.heap.size → w.cell? ⟨b, o, none⟩ = X.cell? ⟨b, o, none⟩) : Below X.heap.size X w := h.1
theorem agp_held (d : Ad) (As L : Option Addr) (sc lc : Nat) (b : Bool) (X w : World) (h : Below X.heap.size X w ∧ ∀ b o, b < X.heap.size → w.cell? ⟨b, o, none⟩ = X.cell? ⟨b, o, none⟩) (hL : Ints X X.heap.size L d.lims) (h1 : d.lims.length ≤ 60) (h2 : d.sl ≤ 60) (hb : agOk d = b) :
    Calls Try.prog 42 #[.agg #[.slice As d.sl sc, .int .i64 d.ri, .int .i64 d.cls, .slice L d.lims.length lc, .int .i64 d.rq, .int .i64 d.se, .int .i64 d.ra, .int .i64 d.bu]] w fun e w' => e = .returned (.bool b) ∧ Below w.heap.size w w' := by
  subst hb
  exact agency_plan d.sl d.ri d.cls d.lims d.rq d.se d.ra d.bu As sc L lc w ((hL.below h.1).more h.1.size) (by omega) (by omega)
theorem agr_held (d : Ad) (As L : Option Addr) (sc lc : Nat) (b : Bool) (X w : World) (h : Below X.heap.size X w ∧ ∀ b o, b < X.heap.size → w.cell? ⟨b, o, none⟩ = X.cell? ⟨b, o, none⟩) (hL : Ints X X.heap.size L d.lims) (h1 : d.lims.length ≤ 60) (h2 : d.sl ≤ 60) (hb : agOk d = b) :
    Calls Try.prog 43 #[.agg #[.slice As d.sl sc, .int .i64 d.ri, .int .i64 d.cls, .slice L d.lims.length lc, .int .i64 d.rq, .int .i64 d.se, .int .i64 d.ra, .int .i64 d.bu]] w fun e w' => e = .returned (.bool b) ∧ Below w.heap.size w w' := by
  subst hb
  exact agency_ref d.sl d.ri d.cls d.lims d.rq d.se d.ra d.bu As sc L lc w ((hL.below h.1).more h.1.size) (by omega) (by omega)
theorem cfp_held (vJ vA : Value) (Js : List Jd) (Ags : List Ad) (per cap hold lock : Int) (b : Bool) (X w : World) (h : Below X.heap.size X w ∧ ∀ b o, b < X.heap.size → w.cell? ⟨b, o, none⟩ = X.cell? ⟨b, o, none⟩) (hJ : SlE (JElem 60) X X.heap.size vJ Js) (hA : SlE (AElem 60) X X.heap.size vA Ags) (hm1 : Js.length ≤ 100) (hm2 : Ags.length ≤ 100) (hb : cfgOk Js Ags per cap hold lock = b) :
    Calls Try.prog 44 #[.agg #[vJ, vA, .int .i64 per, .int .i64 cap, .int .i64 hold, .int .i64 lock]] w fun e w' => e = .returned (.bool b) ∧ Below w.heap.size w w' := by
  subst hb
  exact config_plan vJ vA Js Ags per cap hold lock w (slJ_more (slJ_below hJ h.1) h.1.size) (slA_more (slA_below hA h.1) h.1.size) (by omega) (by omega)
theorem cfr_held (vJ vA : Value) (Js : List Jd) (Ags : List Ad) (per cap hold lock : Int) (b : Bool) (X w : World) (h : Below X.heap.size X w ∧ ∀ b o, b < X.heap.size → w.cell? ⟨b, o, none⟩ = X.cell? ⟨b, o, none⟩) (hJ : SlE (JElem 60) X X.heap.size vJ Js) (hA : SlE (AElem 60) X X.heap.size vA Ags) (hm1 : Js.length ≤ 100) (hm2 : Ags.length ≤ 100) (hb : cfgOk Js Ags per cap hold lock = b) :
    Calls Try.prog 45 #[.agg #[vJ, vA, .int .i64 per, .int .i64 cap, .int .i64 hold, .int .i64 lock]] w fun e w' => e = .returned (.bool b) ∧ Below w.heap.size w w' := by
  subst hb
  exact config_ref vJ vA Js Ags per cap hold lock w (slJ_more (slJ_below hJ h.1) h.1.size) (slA_more (slA_below hA h.1) h.1.size) (by omega) (by omega)
theorem slJ_weak {M : Nat} {w : World} {B : Nat} {v : Value} {Js : List Jd} (h : SlE (JElem M) w B v Js) (hs : ∀ i (h : i < Js.length), Js[i].P.length ≤ 12 ∧ Js[i].C.length ≤ 12) : SlE (JElem 60) w B v Js := by
  obtain ⟨A, cap, cs, e, h1, h2, h3⟩ := h
  refine ⟨A, cap, cs, e, ?_, h2, h3⟩
  clear h2 h3 e
  induction Js generalizing cs with
  | nil => exact h1
  | cons d ds ih =>
    obtain ⟨c, rest, rfl, ⟨A, cap, A2, cap2, e, p1, p2, p3, p4⟩, hr⟩ := h1
    have h0 := hs 0 (by simp)
    refine ⟨c, rest, rfl, ⟨A, cap, A2, cap2, e, p1, p2, ?_, ?_⟩, ih (fun i hi => hs (i + 1) (by simpa using hi)) _ hr⟩
    · have := h0.1; simp at this; omega
    · have := h0.2; simp at this; omega
theorem slA_weak {M : Nat} {w : World} {B : Nat} {v : Value} {Ags : List Ad} (h : SlE (AElem M) w B v Ags) (hs : ∀ i (h : i < Ags.length), Ags[i].sl ≤ 40 ∧ Ags[i].lims.length ≤ 12) : SlE (AElem 60) w B v Ags := by
  obtain ⟨A, cap, cs, e, h1, h2, h3⟩ := h
  refine ⟨A, cap, cs, e, ?_, h2, h3⟩
  clear h2 h3 e
  induction Ags generalizing cs with
  | nil => exact h1
  | cons d ds ih =>
    obtain ⟨c, rest, rfl, ⟨As, sc, L, lc, e, p1, p2, p3⟩, hr⟩ := h1
    have h0 := hs 0 (by simp)
    refine ⟨c, rest, rfl, ⟨As, sc, L, lc, e, p1, ?_, ?_⟩, ih (fun i hi => hs (i + 1) (by simpa using hi)) _ hr⟩
    · have := h0.2; simp at this; omega
    · have := h0.1; simp at this; omega
/-- The pieces of bad as they are laid, one behind the other. -/
theorem bad_made {w3 w5 w7 : World} {gjc gac cjc cac gj ga cj ca : Nat} {Js : List Jd} {Ags : List Ad} {csJ csA : List Value} {per cap hold lock : Int} {o : Obj}
    (hj : RowE (JElem0 w3) Js csJ) (ha : RowE (AElem0 w3) Ags csA)
    (h5 : Below (w3.heap.size + 1 + 1) ((w3.alloc o).alloc (.cells #[.slice (some ⟨gjc, 0, none⟩) Js.length cjc, .slice (some ⟨gac, 0, none⟩) Ags.length cac, .int .i64 per, .int .i64 cap, .int .i64 hold, .int .i64 lock] 63)) w5)
    (o5 : w5.ownsRow (w3.heap.size + 1 + 1) 26 3 (.slice (some ⟨gj, 0, none⟩) Js.length cj) Js.length csJ)
    (h7 : Below w5.heap.size (w5.setCell ⟨w3.heap.size + 1, 0, none⟩ (.slice (some ⟨gj, 0, none⟩) Js.length cj)) w7)
    (o7 : w7.ownsRow (w3.heap.size + 1 + 1) 66 8 (.slice (some ⟨ga, 0, none⟩) Ags.length ca) Ags.length csA) (hJ : Js.length ≤ 30) (hA : Ags.length ≤ 30) (hA1 : 1 ≤ Ags.length) :
    BadS w3.heap.size (w7.setCell ⟨w3.heap.size + 1, 1, none⟩ (.slice (some ⟨ga, 0, none⟩) Ags.length ca)) (w3.heap.size + 1) gj ga cj ca Js Ags csJ csA per cap hold lock ∧
      Below w3.heap.size w3 (w7.setCell ⟨w3.heap.size + 1, 1, none⟩ (.slice (some ⟨ga, 0, none⟩) Ags.length ca)) ∧
      (w7.setCell ⟨w3.heap.size + 1, 1, none⟩ (.slice (some ⟨ga, 0, none⟩) Ags.length ca)).heap[w3.heap.size]? = some o := by
  have z0 : ((w3.alloc o).alloc (.cells #[.slice (some ⟨gjc, 0, none⟩) Js.length cjc, .slice (some ⟨gac, 0, none⟩) Ags.length cac, .int .i64 per, .int .i64 cap, .int .i64 hold, .int .i64 lock] 63)).heap.size = w3.heap.size + 1 + 1 := by simp
  have z5 := h5.size
  have z7 := h7.size
  simp only [World.size_setCell] at z7
  obtain ⟨_, q1, curj, q2, q3⟩ := own_at o5
  obtain ⟨_, p1, cura, p2, p3⟩ := own_at o7
  have hB0 : Box ((w3.alloc o).alloc (.cells #[.slice (some ⟨gjc, 0, none⟩) Js.length cjc, .slice (some ⟨gac, 0, none⟩) Ags.length cac, .int .i64 per, .int .i64 cap, .int .i64 hold, .int .i64 lock] 63)) (w3.heap.size + 1) 63 #[.slice (some ⟨gjc, 0, none⟩) Js.length cjc, .slice (some ⟨gac, 0, none⟩) Ags.length cac, .int .i64 per, .int .i64 cap, .int .i64 hold, .int .i64 lock] := by
    have := Box.new (w3.alloc o) 63 #[.slice (some ⟨gjc, 0, none⟩) Js.length cjc, .slice (some ⟨gac, 0, none⟩) Ags.length cac, .int .i64 per, .int .i64 cap, .int .i64 hold, .int .i64 lock]
    rwa [World.size_alloc] at this
  have hB5 : Box w5 (w3.heap.size + 1) 63 #[.slice (some ⟨gjc, 0, none⟩) Js.length cjc, .slice (some ⟨gac, 0, none⟩) Ags.length cac, .int .i64 per, .int .i64 cap, .int .i64 hold, .int .i64 lock] := hB0.below h5 (by omega)
  have hB6 : Box (w5.setCell ⟨w3.heap.size + 1, 0, none⟩ (.slice (some ⟨gj, 0, none⟩) Js.length cj)) (w3.heap.size + 1) 63 #[.slice (some ⟨gj, 0, none⟩) Js.length cj, .slice (some ⟨gac, 0, none⟩) Ags.length cac, .int .i64 per, .int .i64 cap, .int .i64 hold, .int .i64 lock] := hB5.put_eq (by simp)
  have hB7 := hB6.below h7 (by have := q2.lt; omega)
  have o6 : (w5.setCell ⟨w3.heap.size + 1, 0, none⟩ (.slice (some ⟨gj, 0, none⟩) Js.length cj)).ownsRow (w3.heap.size + 1 + 1) 26 3 (.slice (some ⟨gj, 0, none⟩) Js.length cj) Js.length csJ := own_put_far o5 (fun q cap' hv e => by injection hv with hv; injection hv with hv; injection hv with hv; dsimp only at e; omega) _
  have h7' : Below (w5.setCell ⟨w3.heap.size + 1, 0, none⟩ (.slice (some ⟨gj, 0, none⟩) Js.length cj)).heap.size (w5.setCell ⟨w3.heap.size + 1, 0, none⟩ (.slice (some ⟨gj, 0, none⟩) Js.length cj)) w7 := by simpa using h7
  have o7j := own_below o6 h7'
  have b3 : Below w3.heap.size w3 (w7.setCell ⟨w3.heap.size + 1, 1, none⟩ (.slice (some ⟨ga, 0, none⟩) Ags.length ca)) := by
    have a1 : Below w3.heap.size w3 w5 := (((Below.refl _ _).alloc (Nat.le_refl _) o).alloc (by simp) _).trans (h5.mono (by omega))
    have a2 := a1.setCell (p := ⟨w3.heap.size + 1, 0, none⟩) (by simp) (.slice (some ⟨gj, 0, none⟩) Js.length cj)
    exact (a2.trans (h7.mono (by omega))).setCell (by simp) _
  have lower : ∀ {e : TypeId} {size : Nat} {v : Value} {n : Nat} {xs : List Value} {w : World}, w.ownsRow (w3.heap.size + 1 + 1) e size v n xs → w.ownsRow w3.heap.size e size v n xs := by
    rintro e size v n xs w ⟨a, b⟩
    refine ⟨a, ?_⟩
    rcases b with b | ⟨g, cap, cur, hv, hg, r⟩
    · exact .inl b
    · exact .inr ⟨g, cap, cur, hv, by omega, r⟩
  refine ⟨⟨hB7.put_eq (by simp), lower (own_put_far o7j (fun q cap' hv e => by injection hv with hv; injection hv with hv; injection hv with hv; dsimp only at e; omega) _), lower (own_put_far o7 (fun q cap' hv e => by injection hv with hv; injection hv with hv; injection hv with hv; dsimp only at e; omega) _), hj.mono fun c d h => h.elem.below b3, ha.mono fun c d h => h.elem.below b3, by omega, hJ, hA, hA1⟩, b3, ?_⟩
  have e0 : ((w3.alloc o).alloc (.cells #[.slice (some ⟨gjc, 0, none⟩) Js.length cjc, .slice (some ⟨gac, 0, none⟩) Ags.length cac, .int .i64 per, .int .i64 cap, .int .i64 hold, .int .i64 lock] 63)).heap[w3.heap.size]? = some o := (Below.heap_alloc _ _ _ (by simp)).trans (heap_alloc_new w3 o)
  rw [Below.heap_setCell _ _ _ _ (by simp), h7.block _ (by omega), Below.heap_setCell _ _ _ _ (by simp), h5.block _ (by omega)]
  exact e0

/-- What stands behind the preparation. -/
structure CfgW (B : Nat) (w W : World) (N gj ga gjc gac cjc cac cj ca : Nat) (Js : List Jd) (Ags : List Ad) (csJ csA : List Value) (per cap hold lock : Int) : Prop where
  bad : BadS B W (B + 1) gj ga cj ca Js Ags csJ csA per cap hold lock
  box : Box W B 63 #[.slice (some ⟨gjc, 0, none⟩) Js.length cjc, .slice (some ⟨gac, 0, none⟩) Ags.length cac, .int .i64 per, .int .i64 cap, .int .i64 hold, .int .i64 lock]
  cj : ∀ (j : Nat) (u : Value), csJ[j]? = some u → W.cell? ⟨gjc, j, none⟩ = some u
  ca : ∀ (j : Nat) (u : Value), csA[j]? = some u → W.cell? ⟨gac, j, none⟩ = some u
  gj : gjc < B
  ga : gac < B
  first : ∃ d Js', Js = d :: Js' ∧ ∃ gp cp gc cc, csJ.take 3 = [.slice (some ⟨gp, 0, none⟩) d.P.length cp, .slice (some ⟨gc, 0, none⟩) d.C.length cc, .int .i64 d.s] ∧ Phs W B (some ⟨gp, 0, none⟩) d.P ∧ Ints W B (some ⟨gc, 0, none⟩) d.C ∧ 1 ≤ d.P.length ∧ d.P.length ≤ 15 ∧ d.C.length ≤ 15
  ok : cfgOk Js Ags per cap hold lock = true
  nJ : 1 ≤ Js.length ∧ Js.length ≤ 2
  nA : 1 ≤ Ags.length ∧ Ags.length ≤ 3
  wB : w.heap.size ≤ B ∧ N ≤ B
  bw : Below w.heap.size w W

theorem bad_news {X w5 : World} {gj gc B : Nat} {l : List Value} (hg : X.grownBy w5 (some gj)) (hN : ∀ j u, l[j]? = some u → X.cell? ((⟨gc, 0, none⟩ : Addr).add j) = some u) (hgc : gc < B) (hB : B ≤ gj ∧ B ≤ X.heap.size) : ∀ j u, l[j]? = some u → w5.cell? ((⟨gc, 0, none⟩ : Addr).add j) = some u := by
  intro j u hu
  have := hN j u hu
  rw [Addr.add_lit] at this ⊢
  exact (World.cell?_of_block (w := X) (w' := w5) (a := ⟨gc, 0 + j, none⟩) (hg.block gc (by omega) (fun e => by injection e with e; omega))).trans this
theorem CfgW.ne {B : Nat} {w W : World} {N gj ga gjc gac cjc cac cj ca : Nat} {Js : List Jd} {Ags : List Ad} {csJ csA : List Value} {per cap hold lock : Int} (h : CfgW B w W N gj ga gjc gac cjc cac cj ca Js Ags csJ csA per cap hold lock) : B ≠ gj ∧ B ≠ ga := by
  obtain ⟨_, _, cur, h1, _⟩ := own_at h.bad.rj
  obtain ⟨_, _, cur2, h2, _⟩ := own_at h.bad.ra
  exact ⟨boxNe h.box h1 (by decide), boxNe h.box h2 (by decide)⟩
theorem BadS.below {B : Nat} {W X : World} {gb gj ga cj ca : Nat} {Js : List Jd} {Ags : List Ad} {csJ csA : List Value} {per cap hold lock : Int} (h : BadS B W gb gj ga cj ca Js Ags csJ csA per cap hold lock) (hb : Below W.heap.size W X) : BadS B X gb gj ga cj ca Js Ags csJ csA per cap hold lock := by
  obtain ⟨n1, n2, n3, b1, b2, l0, l1, l2⟩ := h.ne
  exact ⟨h.box.below hb l0, own_below h.rj hb, own_below h.ra hb, h.ej.mono fun c d h => h.below (hb.mono (by omega)), h.ea.mono fun c d h => h.below (hb.mono (by omega)), h.gb0, h.nJ, h.nA, h.nA1⟩
theorem CfgW.below {B : Nat} {w W X : World} {N gj ga gjc gac cjc cac cj ca : Nat} {Js : List Jd} {Ags : List Ad} {csJ csA : List Value} {per cap hold lock : Int} (h : CfgW B w W N gj ga gjc gac cjc cac cj ca Js Ags csJ csA per cap hold lock) (hb : Below W.heap.size W X) : CfgW B w X N gj ga gjc gac cjc cac cj ca Js Ags csJ csA per cap hold lock := by
  obtain ⟨n1, n2, n3, b1, b2, l0, l1, l2⟩ := h.bad.ne
  have hB : B ≤ W.heap.size := by omega
  have h1 := h.gj
  have h2 := h.ga
  refine ⟨h.bad.below hb, h.box.below hb (h.box.lt), fun j u hu => (hb.cell (p := ⟨gjc, j, none⟩) (by dsimp only; omega)).trans (h.cj j u hu), fun j u hu => (hb.cell (p := ⟨gac, j, none⟩) (by dsimp only; omega)).trans (h.ca j u hu), h.gj, h.ga, ?_, h.ok, h.nJ, h.nA, h.wB, h.bw.trans (hb.mono (by have := h.wB.1; omega))⟩
  obtain ⟨d, Js', e, gp, cp, gc, cc, e2, hP, hC, r⟩ := h.first
  exact ⟨d, Js', e, gp, cp, gc, cc, e2, hP.below (hb.mono hB), hC.below (hb.mono hB), r⟩

set_option maxRecDepth 100000 in
set_option maxHeartbeats 8000000 in
theorem cfgs_core (vJ vA : Value) (RJs : List Jd) (RAgs : List Ad) (rper rcap rhold rlock : Int) (As AL : Option Addr) (asc alc : Nat) (da : Ad) (A : Option Addr) (len cap0 : Nat) (zs : List Int) (which byv : Int) (w : World)
    (hJ : SlE (JElem 9223372036854775807) w w.heap.size vJ RJs) (hJm : RJs.length ≤ 9223372036854775807) (hA : SlE (AElem 9223372036854775807) w w.heap.size vA RAgs) (hAm : RAgs.length ≤ 9223372036854775807)
    (hL : Ints w w.heap.size AL da.lims) (hLm : da.lims.length ≤ 9223372036854775807) (hSm : da.sl ≤ 9223372036854775807) (hl : IsRow w A len cap0 zs) :
    Calls Try.prog 12 #[.agg #[vJ, vA, .int .i64 rper, .int .i64 rcap, .int .i64 rhold, .int .i64 rlock], .agg #[.slice As da.sl asc, .int .i64 da.ri, .int .i64 da.cls, .slice AL da.lims.length alc, .int .i64 da.rq, .int .i64 da.se, .int .i64 da.ra, .int .i64 da.bu], .slice A len cap0, .int .i64 which, .int .i64 byv] w fun e w' => e = .returned (.bool true) ∧ Below w.heap.size w w' := by
  obtain ⟨A1, c1, ecs1, rfl, hJ1, hJ2, hJ3⟩ := hJ
  obtain ⟨A2, c2, ecs2, rfl, hA1, hA2, hA3⟩ := hA
  have HJ : Hid (SlE (JElem 9223372036854775807) w w.heap.size (.slice A1 RJs.length c1) RJs) := ⟨A1, c1, ecs1, rfl, hJ1, hJ2, hJ3⟩
  have HA : Hid (SlE (AElem 9223372036854775807) w w.heap.size (.slice A2 RAgs.length c2) RAgs) := ⟨A2, c2, ecs2, rfl, hA1, hA2, hA3⟩
  clear hJ1 hJ2 hJ3 hA1 hA2 hA3
  obtain ⟨xs, rfl, hI, hm⟩ := hl.opened
  have HI := Lib.hid hI
  have HL := Lib.hid hL
  clear hI hl hL
  go_enter Try.func12, Try.ntmps12
  go_wp2_with fail
  have hb0 : Hid (Below w.heap.size w ((w.alloc (.cells #[.slice A1 RJs.length c1, .slice A2 RAgs.length c2, .int .i64 rper, .int .i64 rcap, .int .i64 rhold, .int .i64 rlock] 63)).alloc (.cells #[.slice As da.sl asc, .int .i64 da.ri, .int .i64 da.cls, .slice AL da.lims.length alc, .int .i64 da.rq, .int .i64 da.se, .int .i64 da.ra, .int .i64 da.bu] 66))) := Lib.hid (((Below.refl _ _).alloc (Nat.le_refl _) _).alloc (by simp) _)
  have hX5 : Hid (Box ((w.alloc (.cells #[.slice A1 RJs.length c1, .slice A2 RAgs.length c2, .int .i64 rper, .int .i64 rcap, .int .i64 rhold, .int .i64 rlock] 63)).alloc (.cells #[.slice As da.sl asc, .int .i64 da.ri, .int .i64 da.cls, .slice AL da.lims.length alc, .int .i64 da.rq, .int .i64 da.se, .int .i64 da.ra, .int .i64 da.bu] 66)) w.heap.size 63 #[.slice A1 RJs.length c1, .slice A2 RAgs.length c2, .int .i64 rper, .int .i64 rcap, .int .i64 rhold, .int .i64 rlock]) := (Box.new w _ _).alloc _
  have hX6 : Hid (Box ((w.alloc (.cells #[.slice A1 RJs.length c1, .slice A2 RAgs.length c2, .int .i64 rper, .int .i64 rcap, .int .i64 rhold, .int .i64 rlock] 63)).alloc (.cells #[.slice As da.sl asc, .int .i64 da.ri, .int .i64 da.cls, .slice AL da.lims.length alc, .int .i64 da.rq, .int .i64 da.se, .int .i64 da.ra, .int .i64 da.bu] 66)) (w.heap.size + 1) 66 #[.slice As da.sl asc, .int .i64 da.ri, .int .i64 da.cls, .slice AL da.lims.length alc, .int .i64 da.rq, .int .i64 da.se, .int .i64 da.ra, .int .i64 da.bu]) := Lib.hid (by
    have := Box.new (w.alloc (.cells #[.slice A1 RJs.length c1, .slice A2 RAgs.length c2, .int .i64 rper, .int .i64 rcap, .int .i64 rhold, .int .i64 rlock] 63)) 66 #[.slice As da.sl asc, .int .i64 da.ri, .int .i64 da.cls, .slice AL da.lims.length alc, .int .i64 da.rq, .int .i64 da.se, .int .i64 da.ra, .int .i64 da.bu]
    rwa [World.size_alloc] at this)
  have hz0 : ((w.alloc (.cells #[.slice A1 RJs.length c1, .slice A2 RAgs.length c2, .int .i64 rper, .int .i64 rcap, .int .i64 rhold, .int .i64 rlock] 63)).alloc (.cells #[.slice As da.sl asc, .int .i64 da.ri, .int .i64 da.cls, .slice AL da.lims.length alc, .int .i64 da.rq, .int .i64 da.se, .int .i64 da.ra, .int .i64 da.bu] 66)).heap.size = w.heap.size + 1 + 1 := by simp
  generalize ((w.alloc (.cells #[.slice A1 RJs.length c1, .slice A2 RAgs.length c2, .int .i64 rper, .int .i64 rcap, .int .i64 rhold, .int .i64 rlock] 63)).alloc (.cells #[.slice As da.sl asc, .int .i64 da.ri, .int .i64 da.cls, .slice AL da.lims.length alc, .int .i64 da.rq, .int .i64 da.se, .int .i64 da.ra, .int .i64 da.bu] 66)) = W0 at hb0 hX5 hX6 hz0 ⊢
  have hz00 : w.heap.size + 1 < W0.heap.size := by omega
  have hJ0 : Hid (SlE (JElem 9223372036854775807) W0 W0.heap.size (.slice A1 RJs.length c1) RJs) := slJ_more (slJ_below HJ.out hb0.out) hb0.out.size
  have hA0 : Hid (SlE (AElem 9223372036854775807) W0 W0.heap.size (.slice A2 RAgs.length c2) RAgs) := slA_more (slA_below HA.out hb0.out) hb0.out.size
  clear hz0
  refine (right_any _ _ RJs RAgs rper rcap rhold rlock W0 hJ0.out hA0.out hJm hAm).mono ?_; rintro e w1 ⟨b, rfl, hsm, hb1⟩
  have hsmH := Lib.hid hsm
  have hb1H := Lib.hid hb1
  have hz1 := hb1.size
  have hX61 := hX6.out.below hb1 hz00
  have k0 := hX61.cell 0
  have k1 := hX61.cell 1
  have k2 := hX61.cell 2
  have k3 := hX61.cell 3
  have k4 := hX61.cell 4
  have k5 := hX61.cell 5
  have k6 := hX61.cell 6
  have k7 := hX61.cell 7
  simp at k0 k1 k2 k3 k4 k5 k6 k7
  have hz01 : w.heap.size + 1 < w1.heap.size := by omega
  have hbw1 : Hid (Below w.heap.size w w1) := hb0.out.trans (hb1.mono hb0.out.size)
  have hzw1 : w.heap.size ≤ w1.heap.size := hbw1.out.size
  clear hsm hb1 hX61
  cases b
  · go_wp2_with fail
    refine (awake7_any _).mono ?_; rintro e w4 ⟨rfl, hb4⟩
    go_wp2_with fail
    go_ret
    exact ⟨rfl, hbw1.out.trans (hb4.mono hzw1)⟩
  by_cases hs40 : 40 < da.sl
  · have hs40i : (40 : Int) < (da.sl : Int) := by omega
    go_wp2_with fail
    refine (awake7_any _).mono ?_; rintro e w4 ⟨rfl, hb4⟩
    go_wp2_with fail
    go_ret
    exact ⟨rfl, hbw1.out.trans (hb4.mono hzw1)⟩
  have hs40i : ¬ (40 : Int) < (da.sl : Int) := by omega
  by_cases hl12 : 12 < da.lims.length
  · have hl12i : (12 : Int) < (da.lims.length : Int) := by omega
    go_wp2_with fail
    refine (awake7_any _).mono ?_; rintro e w4 ⟨rfl, hb4⟩
    go_wp2_with fail
    go_ret
    exact ⟨rfl, hbw1.out.trans (hb4.mono hzw1)⟩
  have hl12i : ¬ (12 : Int) < (da.lims.length : Int) := by omega
  have hSmall := Lib.hid (hsmH.out rfl)
  clear hsmH
  go_wp2_with fail
  have hI1 : Hid (Ints w1 w1.heap.size A xs) := (HI.out.below hbw1.out).more hzw1
  refine (mknew_any A cap0 xs w1 hI1.out hm).mono ?_; rintro e w2 ⟨rfl, hd, hb2, hz2⟩
  have hdH : Hid (HasDeck w2 w1.heap.size) := ⟨_, hd⟩
  have hb2H := Lib.hid hb2
  clear hd hb2 hz2
  go_wp2_with fail
  refine (dconfig_any w1.heap.size 63 w2 hdH.out (by omega) (by omega)).mono ?_; rintro e w3 ⟨gjc, cjc, gac, cac, csJ, csA, Js, Ags, per, cap, hold, lock, rfl, hcj, hej, hca, hea, hgj, hga, nj1, nj2, na1, na2, hok, hg3⟩
  have hbw3 : Hid (Below w.heap.size w w3) := hbw1.out.trans ((after_rows hb2H.out hg3).mono hzw1)
  have hz13 := (after_rows hb2H.out hg3).size
  have hb03 : Hid (Below W0.heap.size W0 w3) := hb1H.out.trans ((after_rows hb2H.out hg3).mono hz1)
  have hcjH := Lib.hid hcj
  have hcaH := Lib.hid hca
  have hejH := Lib.hid hej
  have heaH := Lib.hid hea
  have hokH := Lib.hid hok
  clear hcj hca hej hea hok hg3 k0 k1 k2 k3 k4 k5 k6 k7 hdH hb2H hI1 hb1H
  have hWW : Hid (Below w3.heap.size w3 ((w3.alloc (.cells #[.slice (some ⟨gjc, 0, none⟩) Js.length cjc, .slice (some ⟨gac, 0, none⟩) Ags.length cac, .int .i64 per, .int .i64 cap, .int .i64 hold, .int .i64 lock] 63)).alloc (.cells #[.slice (some ⟨gjc, 0, none⟩) Js.length cjc, .slice (some ⟨gac, 0, none⟩) Ags.length cac, .int .i64 per, .int .i64 cap, .int .i64 hold, .int .i64 lock] 63))) := Lib.hid (((Below.refl _ _).alloc (Nat.le_refl _) _).alloc (by simp) _)
  have hlenJ := Lib.hid (hejH.out.length (k := 3) fun c d h => h.elem.len)
  have hlenA := Lib.hid (heaH.out.length (k := 8) fun c d h => h.elem.len)
  have honeJ := Lib.hid (hejH.out.one' (k := 3) fun c d h => h.elem.one)
  have honeA := Lib.hid (heaH.out.one' (k := 8) fun c d h => h.elem.one)
  obtain ⟨j0, hj0, jz0, jz1, jz2⟩ := info_parts jn_info
  obtain ⟨a0, ha0, az0, az1, az2⟩ := info_parts ag_info
  go_wp2_with (at_builtin; refine wpList_append_own _ rfl (.const (.slice none 0 0)) (.tmp 38) 57 rfl (w3.heap.size + 1 + 1) 26 j0 (.agg #[.slice none 0 0, .slice none 0 0, .int .i64 0]) 3 56 Try.underlying57 hj0 jz0 jz1 jz2 rfl (by decide) _ _ _ rfl (World.ownsRow_nil _ _ _ _) ⟨gjc, 0, none⟩ Js.length cjc csJ rfl ?c1 ?c2 ?c3 ?c4 ?c5 ?c6 ?_)
  case c1 => exact hlenJ.out
  case c2 =>
    intro j u hu
    rw [Addr.add_lit, Nat.zero_add]
    exact (hWW.out.cell (p := ⟨gjc, j, none⟩) hgj).trans (hcjH.out j u hu)
  case c3 => exact honeJ.out
  case c4 => unfold maxLen; omega
  case c5 => omega
  case c6 => simp
  intro vj w5 hown5 hg5 _
  obtain ⟨gj, cj, hvj⟩ := Joins.ownsRow_form hown5 (by omega)
  subst hvj
  have hown5H := Lib.hid hown5
  have hb5 : Hid (Below (w3.heap.size + 1 + 1) ((w3.alloc (.cells #[.slice (some ⟨gjc, 0, none⟩) Js.length cjc, .slice (some ⟨gac, 0, none⟩) Ags.length cac, .int .i64 per, .int .i64 cap, .int .i64 hold, .int .i64 lock] 63)).alloc (.cells #[.slice (some ⟨gjc, 0, none⟩) Js.length cjc, .slice (some ⟨gac, 0, none⟩) Ags.length cac, .int .i64 per, .int .i64 cap, .int .i64 hold, .int .i64 lock] 63)) w5) := Lib.hid ((Below.refl _ _).grown hg5 (by simp) (fun q hq => by simp [Value.ownBlock] at hq))
  have hB0 : Box ((w3.alloc (.cells #[.slice (some ⟨gjc, 0, none⟩) Js.length cjc, .slice (some ⟨gac, 0, none⟩) Ags.length cac, .int .i64 per, .int .i64 cap, .int .i64 hold, .int .i64 lock] 63)).alloc (.cells #[.slice (some ⟨gjc, 0, none⟩) Js.length cjc, .slice (some ⟨gac, 0, none⟩) Ags.length cac, .int .i64 per, .int .i64 cap, .int .i64 hold, .int .i64 lock] 63)) w3.heap.size 63 #[.slice (some ⟨gjc, 0, none⟩) Js.length cjc, .slice (some ⟨gac, 0, none⟩) Ags.length cac, .int .i64 per, .int .i64 cap, .int .i64 hold, .int .i64 lock] := (Box.new w3 _ _).alloc _
  have hB5 : Hid (Box w5 w3.heap.size 63 #[.slice (some ⟨gjc, 0, none⟩) Js.length cjc, .slice (some ⟨gac, 0, none⟩) Ags.length cac, .int .i64 per, .int .i64 cap, .int .i64 hold, .int .i64 lock]) := hB0.below hb5.out (by omega)
  have hD0 : Box ((w3.alloc (.cells #[.slice (some ⟨gjc, 0, none⟩) Js.length cjc, .slice (some ⟨gac, 0, none⟩) Ags.length cac, .int .i64 per, .int .i64 cap, .int .i64 hold, .int .i64 lock] 63)).alloc (.cells #[.slice (some ⟨gjc, 0, none⟩) Js.length cjc, .slice (some ⟨gac, 0, none⟩) Ags.length cac, .int .i64 per, .int .i64 cap, .int .i64 hold, .int .i64 lock] 63)) (w3.heap.size + 1) 63 #[.slice (some ⟨gjc, 0, none⟩) Js.length cjc, .slice (some ⟨gac, 0, none⟩) Ags.length cac, .int .i64 per, .int .i64 cap, .int .i64 hold, .int .i64 lock] := by
    have := Box.new (w3.alloc (.cells #[.slice (some ⟨gjc, 0, none⟩) Js.length cjc, .slice (some ⟨gac, 0, none⟩) Ags.length cac, .int .i64 per, .int .i64 cap, .int .i64 hold, .int .i64 lock] 63)) 63 #[.slice (some ⟨gjc, 0, none⟩) Js.length cjc, .slice (some ⟨gac, 0, none⟩) Ags.length cac, .int .i64 per, .int .i64 cap, .int .i64 hold, .int .i64 lock]
    rwa [World.size_alloc] at this
  have hD5 : Hid (Box w5 (w3.heap.size + 1) 63 #[.slice (some ⟨gjc, 0, none⟩) Js.length cjc, .slice (some ⟨gac, 0, none⟩) Ags.length cac, .int .i64 per, .int .i64 cap, .int .i64 hold, .int .i64 lock]) := hD0.below hb5.out (by omega)
  have d0 := hD5.out.cell 0
  have d1 := hD5.out.cell 1
  have df := hD5.out.frozen
  have e1 := hB5.out.cell 1
  have hzD := hD5.out.lt
  simp at d0 d1 e1
  clear hown5 hg5 hB0 hD0
  have hlow5 : Hid (Below w3.heap.size w3 w5) := hWW.out.trans (hb5.out.mono (by omega))
  go_wp2_with (at_builtin; refine wpList_append_own _ rfl (.const (.slice none 0 0)) (.tmp 42) 61 rfl (w3.heap.size + 1 + 1) 66 a0 (.agg #[.slice none 0 0, .int .i64 0, .int .i64 0, .slice none 0 0, .int .i64 0, .int .i64 0, .int .i64 0, .int .i64 0]) 8 96 Try.underlying61 ha0 az0 az1 az2 rfl (by decide) _ _ _ rfl (World.ownsRow_nil _ _ _ _) ⟨gac, 0, none⟩ Ags.length cac csA rfl ?d1 ?d2 ?d3 ?d4 ?d5 ?d6 ?_)
  case d1 => exact hlenA.out
  case d2 =>
    intro j u hu
    rw [Addr.add_lit, Nat.zero_add]
    exact ((hlow5.out.setCell (p := ⟨w3.heap.size + 1, 0, none⟩) (by simp) _).cell (p := ⟨gac, j, none⟩) hga).trans (hcaH.out j u hu)
  case d3 => exact honeA.out
  case d4 => unfold maxLen; omega
  case d5 => omega
  case d6 => simp; omega
  intro va w7 hown7 hg7 _
  obtain ⟨ga, ca, hva⟩ := Joins.ownsRow_form hown7 (by omega)
  subst hva
  have hb7 : Below w5.heap.size (w5.setCell ⟨w3.heap.size + 1, 0, none⟩ (.slice (some ⟨gj, 0, none⟩) Js.length cj)) w7 := (Below.refl _ _).grown hg7 (by simp) (fun q hq => by simp [Value.ownBlock] at hq)
  have hmade := bad_made hejH.out heaH.out hb5.out hown5H.out hb7 hown7 (by omega) (by omega) na1
  have hD7 : Hid (Box w7 (w3.heap.size + 1) 63 #[.slice (some ⟨gj, 0, none⟩) Js.length cj, .slice (some ⟨gac, 0, none⟩) Ags.length cac, .int .i64 per, .int .i64 cap, .int .i64 hold, .int .i64 lock]) := (hD5.out.put_eq (i := 0) (by simp)).below hb7 hzD
  clear hown7 hg7 hb7 d0 d1 df e1
  have d1 := hD7.out.cell 1
  have df := hD7.out.frozen
  have hzD7 := hD7.out.lt
  simp at d1
  obtain ⟨hbad, hbl, hbx⟩ := hmade
  have hfirst : ∃ d Js', Js = d :: Js' ∧ ∃ gp cp gc cc, csJ.take 3 = [.slice (some ⟨gp, 0, none⟩) d.P.length cp, .slice (some ⟨gc, 0, none⟩) d.C.length cc, .int .i64 d.s] ∧ Phs (w7.setCell ⟨w3.heap.size + 1, 1, none⟩ (.slice (some ⟨ga, 0, none⟩) Ags.length ca)) w3.heap.size (some ⟨gp, 0, none⟩) d.P ∧ Ints (w7.setCell ⟨w3.heap.size + 1, 1, none⟩ (.slice (some ⟨ga, 0, none⟩) Ags.length ca)) w3.heap.size (some ⟨gc, 0, none⟩) d.C ∧ 1 ≤ d.P.length ∧ d.P.length ≤ 15 ∧ d.C.length ≤ 15 := by
    have h := hejH.out
    match Js, nj1 with
    | d :: Js', _ =>
      obtain ⟨c, rest, hc, ⟨gp, cp, gc, cc, rfl, hP, hC, p1, p2, p3, p4⟩, _⟩ := h
      exact ⟨d, Js', rfl, gp, cp, gc, cc, by rw [hc]; rfl, hP.below hbl, hC.below hbl, p1, p3, p4⟩
  have hCW : Hid (CfgW w3.heap.size w (w7.setCell ⟨w3.heap.size + 1, 1, none⟩ (.slice (some ⟨ga, 0, none⟩) Ags.length ca)) (w.heap.size + 1 + 1) gj ga gjc gac cjc cac cj ca Js Ags csJ csA per cap hold lock) :=
    ⟨hbad, hbx, fun j u hu => (hbl.cell (p := ⟨gjc, j, none⟩) hgj).trans (hcjH.out j u hu), fun j u hu => (hbl.cell (p := ⟨gac, j, none⟩) hga).trans (hcaH.out j u hu), hgj, hga, hfirst, hokH.out, ⟨nj1, nj2⟩, ⟨na1, na2⟩, ⟨by omega, by omega⟩, hbw3.out.trans (hbl.mono (by omega))⟩
  clear hbad hbx hfirst hcjH hcaH hejH heaH hokH hlow5 hb5 hWW hown5H hlenJ hlenA honeJ honeA hB5 hD5
  have hR5 : Hid (Box (w7.setCell ⟨w3.heap.size + 1, 1, none⟩ (.slice (some ⟨ga, 0, none⟩) Ags.length ca)) w.heap.size 63 #[.slice A1 RJs.length c1, .slice A2 RAgs.length c2, .int .i64 rper, .int .i64 rcap, .int .i64 rhold, .int .i64 rlock]) := (hX5.out.below hb03.out (by omega)).below hbl (by have := hb03.out.size; omega)
  have hR6 : Hid (Box (w7.setCell ⟨w3.heap.size + 1, 1, none⟩ (.slice (some ⟨ga, 0, none⟩) Ags.length ca)) (w.heap.size + 1) 66 #[.slice As da.sl asc, .int .i64 da.ri, .int .i64 da.cls, .slice AL da.lims.length alc, .int .i64 da.rq, .int .i64 da.se, .int .i64 da.ra, .int .i64 da.bu]) := (hX6.out.below hb03.out (by omega)).below hbl (by have := hb03.out.size; omega)
  clear hbl hb03
  go_upto_region 7 with fail
  have hz31 : w.heap.size + 1 + 1 ≤ w3.heap.size := by have := hCW.out.wB.2; omega
  clear hD7 d1 df hzD7 hzD hgj hga hz13
  generalize (w7.setCell ⟨w3.heap.size + 1, 1, none⟩ (.slice (some ⟨ga, 0, none⟩) Ags.length ca)) = W at hCW hR5 hR6 ⊢
  generalize w3.heap.size = B at hCW hz31 ⊢
  obtain ⟨ne1, ne2, ne3, bj, ba, lb, lj, la⟩ := hCW.out.bad.ne
  have hYb := Lib.hid hCW.out.bad.box
  have y0 := hYb.out.cell 0
  have y1 := hYb.out.cell 1
  have y2 := hYb.out.cell 2
  have y3 := hYb.out.cell 3
  have y4 := hYb.out.cell 4
  have y5 := hYb.out.cell 5
  have yf := hYb.out.frozen
  simp at y0 y1 y2 y3 y4 y5
  obtain ⟨i, hi⟩ : ∃ i : Nat, byv % (Ags.length : Int) = (i : Int) := ⟨(byv % (Ags.length : Int)).toNat, (Int.toNat_of_nonneg (Int.emod_nonneg _ (by omega))).symm⟩
  have hil : i < Ags.length := by
    have := Int.emod_lt_of_pos byv (b := (Ags.length : Int)) (by omega)
    omega
  have hili : (i : Int) < (Ags.length : Int) := by omega
  have hmod : Hid (∀ w, Calls Try.prog 16 #[.int .i64 byv, .int .i64 (Ags.length : Int)] w fun e w' => e = .returned (.int .i64 (i : Int)) ∧ w' = w) := Lib.hid fun w => by
    rw [← hi]; exact mod_right _ _ _ (by omega) (by omega)
  clear hi
  go_quiet ((go_at_call 16; exact Calls.quiet_of_same (hmod.out _)))
  go_wp2_with fail
  refine (mod_any _ _ _ (by omega) (by omega)).mono ?_; rintro e w' ⟨rfl, rfl⟩
  obtain ⟨q, hq⟩ : ∃ q : Nat, wrap64 (byv.tdiv 4) % 13 = (q : Int) := ⟨(wrap64 (byv.tdiv 4) % 13).toNat, (Int.toNat_of_nonneg (Int.emod_nonneg _ (by omega))).symm⟩
  have hq13 : q < 13 := by
    have := Int.emod_lt_of_pos (wrap64 (byv.tdiv 4)) (b := 13) (by omega)
    omega
  have hq13i : (q : Int) < 13 := by omega
  have hXX : Hid (CfgW B w ((W.drewN nq).alloc (.cells #[.int .i64 (-1), .int .i64 0, .int .i64 1, .int .i64 2, .int .i64 3, .int .i64 4, .int .i64 5, .int .i64 9, .int .i64 63, .int .i64 64, .int .i64 101, .int .i64 601, .int .i64 1001] 3)) (w.heap.size + 1 + 1) gj ga gjc gac cjc cac cj ca Js Ags csJ csA per cap hold lock) := hCW.out.below ((below_drewN (Below.refl _ _) nq).alloc (by simp) _)
  obtain ⟨v, hvc⟩ : ∃ v : Int, ((W.drewN nq).alloc (.cells #[.int .i64 (-1), .int .i64 0, .int .i64 1, .int .i64 2, .int .i64 3, .int .i64 4, .int .i64 5, .int .i64 9, .int .i64 63, .int .i64 64, .int .i64 101, .int .i64 601, .int .i64 1001] 3)).cell? ⟨W.heap.size, q, none⟩ = some (.int .i64 v) := by
    have hb := (Box.new (W.drewN nq) 3 #[.int .i64 (-1), .int .i64 0, .int .i64 1, .int .i64 2, .int .i64 3, .int .i64 4, .int .i64 5, .int .i64 9, .int .i64 63, .int .i64 64, .int .i64 101, .int .i64 601, .int .i64 1001]).cell q
    rw [show W.heap.size = (W.drewN nq).heap.size by simp, hb]
    match q, hq13 with
    | 0, _ => exact ⟨_, rfl⟩
    | 1, _ => exact ⟨_, rfl⟩
    | 2, _ => exact ⟨_, rfl⟩
    | 3, _ => exact ⟨_, rfl⟩
    | 4, _ => exact ⟨_, rfl⟩
    | 5, _ => exact ⟨_, rfl⟩
    | 6, _ => exact ⟨_, rfl⟩
    | 7, _ => exact ⟨_, rfl⟩
    | 8, _ => exact ⟨_, rfl⟩
    | 9, _ => exact ⟨_, rfl⟩
    | 10, _ => exact ⟨_, rfl⟩
    | 11, _ => exact ⟨_, rfl⟩
    | 12, _ => exact ⟨_, rfl⟩
  rw [hq]
  have hzX : ((W.drewN nq).alloc (.cells #[.int .i64 (-1), .int .i64 0, .int .i64 1, .int .i64 2, .int .i64 3, .int .i64 4, .int .i64 5, .int .i64 9, .int .i64 63, .int .i64 64, .int .i64 101, .int .i64 601, .int .i64 1001] 3)).heap.size = W.heap.size + 1 := by simp
  clear hq y0 y1 y2 y3 y4 y5 yf
  go_wp2_with fail
  clear hvc
  have hQ5 : Hid (Box ((W.drewN nq).alloc (.cells #[.int .i64 (-1), .int .i64 0, .int .i64 1, .int .i64 2, .int .i64 3, .int .i64 4, .int .i64 5, .int .i64 9, .int .i64 63, .int .i64 64, .int .i64 101, .int .i64 601, .int .i64 1001] 3)) w.heap.size 63 #[.slice A1 RJs.length c1, .slice A2 RAgs.length c2, .int .i64 rper, .int .i64 rcap, .int .i64 rhold, .int .i64 rlock]) := hR5.out.below ((below_drewN (Below.refl _ _) nq).alloc (by simp) _) hR5.out.lt
  have hQ6 : Hid (Box ((W.drewN nq).alloc (.cells #[.int .i64 (-1), .int .i64 0, .int .i64 1, .int .i64 2, .int .i64 3, .int .i64 4, .int .i64 5, .int .i64 9, .int .i64 63, .int .i64 64, .int .i64 101, .int .i64 601, .int .i64 1001] 3)) (w.heap.size + 1) 66 #[.slice As da.sl asc, .int .i64 da.ri, .int .i64 da.cls, .slice AL da.lims.length alc, .int .i64 da.rq, .int .i64 da.se, .int .i64 da.ra, .int .i64 da.bu]) := hR6.out.below ((below_drewN (Below.refl _ _) nq).alloc (by simp) _) hR6.out.lt
  clear hR5 hR6
  generalize ((W.drewN nq).alloc (.cells #[.int .i64 (-1), .int .i64 0, .int .i64 1, .int .i64 2, .int .i64 3, .int .i64 4, .int .i64 5, .int .i64 9, .int .i64 63, .int .i64 64, .int .i64 101, .int .i64 601, .int .i64 1001] 3)) = X at hXX hzX hQ5 hQ6 ⊢
  have hzXW : W.heap.size < X.heap.size := by omega
  clear hzX hCW hYb hmod ne1 ne2 ne3 bj ba lb lj la
  obtain ⟨ne1, ne2, ne3, bj, ba, lb, lj, la⟩ := hXX.out.bad.ne
  refine (mod_any _ _ _ (by omega) (by omega)).mono ?_; rintro e w' ⟨rfl, rfl⟩
  obtain ⟨m, hm16⟩ : ∃ m : Nat, which % 16 = (m : Int) := ⟨(which % 16).toNat, (Int.toNat_of_nonneg (Int.emod_nonneg _ (by omega))).symm⟩
  have hml : m < 16 := by
    have := Int.emod_lt_of_pos which (b := 16) (by omega)
    omega
  rw [hm16]
  clear hm16
  go_upto_block 0 with fail
  go_cut [] (fun wx => BadC B X (B + 1) gj ga wx)
  case first =>
    have hBb := Lib.hid hXX.out.bad.box
    have hBC := Lib.hid hXX.out.box
    obtain ⟨fA, fJ⟩ := hXX.out.bad.free
    obtain ⟨nB1, nB2⟩ := hXX.out.ne
    have y0 := hBb.out.cell 0
    have y1 := hBb.out.cell 1
    have y2 := hBb.out.cell 2
    have y3 := hBb.out.cell 3
    have y4 := hBb.out.cell 4
    have y5 := hBb.out.cell 5
    have yf := hBb.out.frozen
    have x0 := hBC.out.cell 0
    have x1 := hBC.out.cell 1
    simp at y0 y1 y2 y3 y4 y5 x0 x1
    match m, hml with
    | 0, _ => as_aux_lemma =>
      obtain ⟨u, hu⟩ := hXX.out.bad.agcell i 1 hil (by omega)
      have hend : Hid (BadC B X (B + 1) gj ga (X.setCell ⟨ga, i * 8 + 1, none⟩ (.int .i64 v))) := hXX.out.bad.agnum i 1 _ hil (by omega) rfl v
      go_wp2_with fail
      go_meet
      exact hend.out
    | 1, _ => as_aux_lemma =>
      obtain ⟨u, hu⟩ := hXX.out.bad.agcell i 2 hil (by omega)
      have hend : Hid (BadC B X (B + 1) gj ga (X.setCell ⟨ga, i * 8 + 2, none⟩ (.int .i64 v))) := hXX.out.bad.agnum i 2 _ hil (by omega) rfl v
      go_wp2_with fail
      go_meet
      exact hend.out
    | 2, _ => as_aux_lemma =>
      obtain ⟨u, hu⟩ := hXX.out.bad.agcell i 4 hil (by omega)
      have hend : Hid (BadC B X (B + 1) gj ga (X.setCell ⟨ga, i * 8 + 4, none⟩ (.int .i64 v))) := hXX.out.bad.agnum i 4 _ hil (by omega) rfl v
      go_wp2_with fail
      go_meet
      exact hend.out
    | 3, _ => as_aux_lemma =>
      obtain ⟨u, hu⟩ := hXX.out.bad.agcell i 5 hil (by omega)
      have hend : Hid (BadC B X (B + 1) gj ga (X.setCell ⟨ga, i * 8 + 5, none⟩ (.int .i64 v))) := hXX.out.bad.agnum i 5 _ hil (by omega) rfl v
      go_wp2_with fail
      go_meet
      exact hend.out
    | 4, _ => as_aux_lemma =>
      obtain ⟨u, hu⟩ := hXX.out.bad.agcell i 6 hil (by omega)
      have hend : Hid (BadC B X (B + 1) gj ga (X.setCell ⟨ga, i * 8 + 6, none⟩ (.int .i64 v))) := hXX.out.bad.agnum i 6 _ hil (by omega) rfl v
      go_wp2_with fail
      go_meet
      exact hend.out
    | 5, _ => as_aux_lemma =>
      obtain ⟨u, hu⟩ := hXX.out.bad.agcell i 7 hil (by omega)
      have hend : Hid (BadC B X (B + 1) gj ga (X.setCell ⟨ga, i * 8 + 7, none⟩ (.int .i64 v))) := hXX.out.bad.agnum i 7 _ hil (by omega) rfl v
      go_wp2_with fail
      go_meet
      exact hend.out
    | 6, _ => as_aux_lemma =>
      obtain ⟨u, hu⟩ := hXX.out.bad.agcell i 0 hil (by omega)
      have huH := Lib.hid hu
      clear hu
      go_wp2_with fail
      refine (secret_any _ _).mono ?_; rintro e w1 ⟨gs, scp, rfl, hsc, hbs⟩
      have hu := (hbs.cell (p := ⟨ga, i * 8 + 0, none⟩) la).trans huH.out
      have hfa := fun o => (hbs.frozen (p := ⟨ga, o, none⟩) la).trans (fA o)
      simp only [Nat.add_zero] at hu
      have hend : Hid (BadC B X (B + 1) gj ga (w1.setCell ⟨ga, i * 8, none⟩ (.slice (some ⟨gs, 0, none⟩) 7 scp))) := hXX.out.bad.agsec hbs i _ hil rfl _ 7 _ (by omega)
      have hsc7 : 7 ≤ scp := by omega
      have hsc7i : (7 : Int) ≤ (scp : Int) := by omega
      clear hbs
      go_wp2_with fail
      go_meet
      exact hend.out
    | 7, _ => as_aux_lemma =>
      obtain ⟨u, hu⟩ := hXX.out.bad.agcell i 3 hil (by omega)
      have hend : Hid (BadC B X (B + 1) gj ga ((X.setCell ⟨ga, i * 8 + 3, none⟩ (.slice (some ⟨X.heap.size, 0, none⟩) 4 4)).alloc (.cells #[.int .i64 1, .int .i64 2, .int .i64 v, .int .i64 0] 3))) := by
        have h := hXX.out.bad.aglim [1, 2, v, 0] (by simp) i _ 4 hil rfl rfl 4 rfl
        rwa [World.setCell_alloc_past _ _ _ _ la] at h
      go_wp2_with fail
      go_meet
      exact hend.out
    | 8, _ => as_aux_lemma =>
      obtain ⟨u, hu⟩ := hXX.out.bad.agcell i 3 hil (by omega)
      have hend : Hid (BadC B X (B + 1) gj ga ((X.setCell ⟨ga, i * 8 + 3, none⟩ (.slice (some ⟨X.heap.size, 0, none⟩) 3 3)).alloc (.cells #[.int .i64 1, .int .i64 2, .int .i64 3] 3))) := by
        have h := hXX.out.bad.aglim [1, 2, 3] (by simp) i _ 3 hil rfl rfl 3 rfl
        rwa [World.setCell_alloc_past _ _ _ _ la] at h
      go_wp2_with fail
      go_meet
      exact hend.out
    | 9, _ => as_aux_lemma =>
      have hend : Hid (BadC B X (B + 1) gj ga (X.setCell ⟨B + 1, 2, none⟩ (.int .i64 v))) := hXX.out.bad.num 2 (by omega) v
      go_wp2_with fail
      go_meet
      exact hend.out
    | 10, _ => as_aux_lemma =>
      have hend : Hid (BadC B X (B + 1) gj ga (X.setCell ⟨B + 1, 3, none⟩ (.int .i64 v))) := hXX.out.bad.num 3 (by omega) v
      go_wp2_with fail
      go_meet
      exact hend.out
    | 11, _ => as_aux_lemma =>
      have hend : Hid (BadC B X (B + 1) gj ga (X.setCell ⟨B + 1, 4, none⟩ (.int .i64 v))) := hXX.out.bad.num 4 (by omega) v
      go_wp2_with fail
      go_meet
      exact hend.out
    | 12, _ => as_aux_lemma =>
      have hend : Hid (BadC B X (B + 1) gj ga (X.setCell ⟨B + 1, 5, none⟩ (.int .i64 v))) := hXX.out.bad.num 5 (by omega) v
      go_wp2_with fail
      go_meet
      exact hend.out
    | 13, _ => as_aux_lemma =>
      have hOwn := Lib.hid hXX.out.bad.rj
      have hNew : Hid (∀ j u, csJ[j]? = some u → X.cell? ((⟨gjc, 0, none⟩ : Addr).add j) = some u) := Lib.hid fun j u hu => by rw [Addr.add_lit, Nat.zero_add]; exact hXX.out.cj j u hu
      have hLen := Lib.hid (hXX.out.bad.ej.length fun c d h => h.len)
      have hOne := Lib.hid (hXX.out.bad.ej.one' (k := 3) fun c d h => h.one)
      have hPos : Hid (0 < Js.length) := Lib.hid (by omega)
      have hM1 : Hid (Js.length + Js.length ≤ maxLen) := Lib.hid (by unfold maxLen; omega)
      have hM2 : Hid (Js.length + Js.length + Js.length ≤ maxLen) := Lib.hid (by unfold maxLen; omega)
      have hY1 : Hid ((Js.length + Js.length) * 56 ≤ 140737488355328) := Lib.hid (by omega)
      have hY2 : Hid ((Js.length + Js.length + Js.length) * 56 ≤ 140737488355328) := Lib.hid (by omega)
      have hBX : Hid (B ≤ X.heap.size) := Lib.hid (by omega)
      have hgcB : Hid (gjc < B) := Lib.hid hXX.out.gj
      go_wp2_with fail
      go_region_law (first
        | (refine step_append_lies _ rfl (.tmp 149) (.tmp 151) 57 rfl B 26 j0 (.agg #[.slice none 0 0, .slice none 0 0, .int .i64 0]) 3 56 Try.underlying57 hj0 jz0 jz1 jz2 rfl (by decide) (.slice (some ⟨gj, 0, none⟩) Js.length cj) Js.length csJ rfl hOwn.out ⟨gjc, 0, none⟩ Js.length cjc csJ rfl hLen.out hNew.out hOne.out hPos.out hM1.out hY1.out hBX.out X.heap.size rfl ?_; intro g1 k1 w5 hown5 hg5 hg1e hg1z; have hg5' : Hid (X.grownBy w5 (some gj)) := only_of_drew hg5; have jc5 := (hBC.out.grown hg5'.out (fun e => by injection e with e; omega)).cell 0; simp at jc5)
        | (refine step_append_lies _ rfl (.tmp 152) (.tmp 154) 57 rfl B 26 j0 (.agg #[.slice none 0 0, .slice none 0 0, .int .i64 0]) 3 56 Try.underlying57 hj0 jz0 jz1 jz2 rfl (by decide) (.slice (some ⟨g1, 0, none⟩) (Js.length + Js.length) k1) (Js.length + Js.length) (csJ ++ csJ) rfl hown5 ⟨gjc, 0, none⟩ Js.length cjc csJ rfl hLen.out (bad_news hg5'.out hNew.out hgcB.out (by omega)) hOne.out hPos.out hM2.out hY2.out (Nat.le_trans hBX.out hg5'.out.size) w5.heap.size rfl ?_; intro g2 k2 w6 hown6 hg6 hg2e hg2z; have hta := Lib.hid (two_app hg5'.out hg6 hg1e rfl hBX.out bj); have jd := hBb.out; have hB6 : Hid (Box w6 (B + 1) 63 _) := Lib.hid ((hta.out.2.2 (B + 1) lb (by omega)).trans hBb.out); have jb0 := hB6.out.cell 0; have jbf := hB6.out.frozen; have jbz := hB6.out.lt; simp at jb0))
      all_goals
        have hend : Hid (BadC B X (B + 1) gj ga (w6.setCell ⟨B + 1, 0, none⟩ (.slice (some ⟨g2, 0, none⟩) (Js.length + Js.length + Js.length) k2))) := hXX.out.bad.appJ hta.out hown6 ((hXX.out.bad.ej.append hXX.out.bad.ej).append hXX.out.bad.ej) (by simp; omega) (by omega)
        clear hown5 hg5 hg1e hg1z hown6 hg6 hg2e hg2z hta
        go_wp2_with fail
        go_meet
        exact hend.out
    | 14, _ => as_aux_lemma =>
      have hOwn := Lib.hid hXX.out.bad.ra
      have hNew : Hid (∀ j u, csA[j]? = some u → X.cell? ((⟨gac, 0, none⟩ : Addr).add j) = some u) := Lib.hid fun j u hu => by rw [Addr.add_lit, Nat.zero_add]; exact hXX.out.ca j u hu
      have hLen := Lib.hid (hXX.out.bad.ea.length fun c d h => h.len)
      have hOne := Lib.hid (hXX.out.bad.ea.one' (k := 8) fun c d h => h.one)
      have hPos : Hid (0 < Ags.length) := Lib.hid (by omega)
      have hM1 : Hid (Ags.length + Ags.length ≤ maxLen) := Lib.hid (by unfold maxLen; omega)
      have hM2 : Hid (Ags.length + Ags.length + Ags.length ≤ maxLen) := Lib.hid (by unfold maxLen; omega)
      have hY1 : Hid ((Ags.length + Ags.length) * 96 ≤ 140737488355328) := Lib.hid (by omega)
      have hY2 : Hid ((Ags.length + Ags.length + Ags.length) * 96 ≤ 140737488355328) := Lib.hid (by omega)
      have hBX : Hid (B ≤ X.heap.size) := Lib.hid (by omega)
      have hgcB : Hid (gac < B) := Lib.hid hXX.out.ga
      go_wp2_with fail
      go_region_law (first
        | (refine step_append_lies _ rfl (.tmp 160) (.tmp 162) 61 rfl B 66 a0 (.agg #[.slice none 0 0, .int .i64 0, .int .i64 0, .slice none 0 0, .int .i64 0, .int .i64 0, .int .i64 0, .int .i64 0]) 8 96 Try.underlying61 ha0 az0 az1 az2 rfl (by decide) (.slice (some ⟨ga, 0, none⟩) Ags.length ca) Ags.length csA rfl hOwn.out ⟨gac, 0, none⟩ Ags.length cac csA rfl hLen.out hNew.out hOne.out hPos.out hM1.out hY1.out hBX.out X.heap.size rfl ?_; intro g1 k1 w5 hown5 hg5 hg1e hg1z; have hg5' : Hid (X.grownBy w5 (some ga)) := only_of_drew hg5; have jc5 := (hBC.out.grown hg5'.out (fun e => by injection e with e; omega)).cell 1; simp at jc5)
        | (refine step_append_lies _ rfl (.tmp 163) (.tmp 165) 61 rfl B 66 a0 (.agg #[.slice none 0 0, .int .i64 0, .int .i64 0, .slice none 0 0, .int .i64 0, .int .i64 0, .int .i64 0, .int .i64 0]) 8 96 Try.underlying61 ha0 az0 az1 az2 rfl (by decide) (.slice (some ⟨g1, 0, none⟩) (Ags.length + Ags.length) k1) (Ags.length + Ags.length) (csA ++ csA) rfl hown5 ⟨gac, 0, none⟩ Ags.length cac csA rfl hLen.out (bad_news hg5'.out hNew.out hgcB.out (by omega)) hOne.out hPos.out hM2.out hY2.out (Nat.le_trans hBX.out hg5'.out.size) w5.heap.size rfl ?_; intro g2 k2 w6 hown6 hg6 hg2e hg2z; have hta := Lib.hid (two_app hg5'.out hg6 hg1e rfl hBX.out ba); have jd := hBb.out; have hB6 : Hid (Box w6 (B + 1) 63 _) := Lib.hid ((hta.out.2.2 (B + 1) lb (by omega)).trans hBb.out); have jb0 := hB6.out.cell 1; have jbf := hB6.out.frozen; have jbz := hB6.out.lt; simp at jb0))
      all_goals
        have hend : Hid (BadC B X (B + 1) gj ga (w6.setCell ⟨B + 1, 1, none⟩ (.slice (some ⟨g2, 0, none⟩) (Ags.length + Ags.length + Ags.length) k2))) := hXX.out.bad.appA hta.out hown6 ((hXX.out.bad.ea.append hXX.out.bad.ea).append hXX.out.bad.ea) (by simp; omega) (by omega) (by omega)
        clear hown5 hg5 hg1e hg1z hown6 hg6 hg2e hg2z hta
        go_wp2_with fail
        go_meet
        exact hend.out
    | 15, _ => as_aux_lemma =>
      obtain ⟨d, Js', hJs, gp, cp, gc, cc, htk, hPh, hCh, dp1, dp2, dp3⟩ := hXX.out.first
      have t0 : X.cell? ⟨gjc, 0, none⟩ = some (.slice (some ⟨gp, 0, none⟩) d.P.length cp) := hXX.out.cj 0 _ (by have := congrArg (fun l => l[0]?) htk; simpa using this)
      have t1 : X.cell? ⟨gjc, 1, none⟩ = some (.slice (some ⟨gc, 0, none⟩) d.C.length cc) := hXX.out.cj 1 _ (by have := congrArg (fun l => l[1]?) htk; simpa [List.getElem?_take] using this)
      have t2 : X.cell? ⟨gjc, 2, none⟩ = some (.int .i64 d.s) := hXX.out.cj 2 _ (by have := congrArg (fun l => l[2]?) htk; simpa [List.getElem?_take] using this)
      have hPd : Hid (Phs X.drew X.drew.heap.size (some ⟨gp, 0, none⟩) d.P) := Lib.hid ((hPh.below ((Below.refl _ _).drew)).more (by simp; omega))
      have hCd : Hid (Ints X.drew X.drew.heap.size (some ⟨gc, 0, none⟩) d.C) := Lib.hid ((hCh.below ((Below.refl _ _).drew)).more (by simp; omega))
      have hJpos : 0 < Js.length := by omega
      have hJposi : (0 : Int) < (Js.length : Int) := by omega
      obtain ⟨r0, hr0⟩ := hXX.out.bad.jcell hJpos 0 (by omega)
      obtain ⟨r1, hr1⟩ := hXX.out.bad.jcell hJpos 1 (by omega)
      obtain ⟨r2, hr2⟩ := hXX.out.bad.jcell hJpos 2 (by omega)
      have hr0H := Lib.hid hr0
      have hr1H := Lib.hid hr1
      have hr2H := Lib.hid hr2
      have dp1H := Lib.hid dp1
      have dp2H := Lib.hid dp2
      have dp3H := Lib.hid dp3
      clear hJs htk hPh hCh hr0 hr1 hr2 dp1 dp2 dp3
      go_wp2_with fail
      go_region_law (first
        | (go_simp; go_at_call 33; refine (bent_new gp gc cp cc _ _ d _ _ _ hPd.out hCd.out dp1H.out dp2H.out dp3H.out rfl rfl).mono ?_; rintro e w7 ⟨g1, n1, k1, A9, n2, k2, s1, rfl, hjn, hb7⟩; have hb7' : Hid (Below X.heap.size X w7) := Lib.hid (((Below.refl _ _).drew).trans hb7); have jc7 := (hBb.out.below hb7'.out lb).cell 0; have q0 := (hb7'.out.cell (p := ⟨gj, 0, none⟩) lj).trans hr0H.out; have q1 := (hb7'.out.cell (p := ⟨gj, 1, none⟩) lj).trans hr1H.out; have q2 := (hb7'.out.cell (p := ⟨gj, 2, none⟩) lj).trans hr2H.out; have hfj := fun o => (hb7'.out.frozen (p := ⟨gj, o, none⟩) lj).trans (fJ o); have hjz := Nat.lt_of_lt_of_le lj hb7'.out.size; simp at jc7))
      all_goals
        have hend : Hid (BadC B X (B + 1) gj ga (((w7.setCell ⟨gj, 0, none⟩ (.slice (some ⟨g1, 0, none⟩) n1 k1)).setCell ⟨gj, 1, none⟩ (.slice A9 n2 k2)).setCell ⟨gj, 2, none⟩ (.int .i64 s1))) := hXX.out.bad.bent hb7'.out hJpos hjn.out
        clear hb7 hjn
        go_wp2_with fail
        go_meet
        exact hend.out
    | k + 16, h => exact absurd h (by omega)
  case rest =>
    obtain ⟨hbl, hsz, hoth, vJ', vA', JsB, AgB, per2, cap2, hold2, lock2, hbB, hsJ, hsA, hl1, hl2, hl3⟩ := hcut
    obtain ⟨AB, cB, csB, rfl, hrB, hnB, hcB⟩ := hsA
    obtain ⟨AJ, cJ, csJB, rfl, hrJ, hnJ, hcJ⟩ := hsJ
    have hblH := Lib.hid hbl
    have hsJH : Hid (SlE (JElem 60) wc wc.heap.size (.slice AJ JsB.length cJ) JsB) := ⟨AJ, cJ, csJB, rfl, hrJ, hnJ, hcJ⟩
    have hsAH : Hid (SlE (AElem 60) wc wc.heap.size (.slice AB AgB.length cB) AgB) := ⟨AB, cB, csB, rfl, hrB, hnB, hcB⟩
    have hbBH := Lib.hid hbB
    obtain ⟨ad, had⟩ : ∃ ad, AB = some ad := by
      cases AB with
      | none => have := (hnB rfl).1; omega
      | some ad => exact ⟨ad, rfl⟩
    subst had
    have hcBH := Lib.hid (fun j u hu => (hcB ad rfl j u hu).2)
    have hrBH := Lib.hid hrB
    obtain ⟨nB1, nB2⟩ := hXX.out.ne
    have hCc : Hid (Box wc B 63 #[.slice (some ⟨gjc, 0, none⟩) Js.length cjc, .slice (some ⟨gac, 0, none⟩) Ags.length cac, .int .i64 per, .int .i64 cap, .int .i64 hold, .int .i64 lock]) := Lib.hid ((hoth B (by omega) (by omega) nB1 nB2).trans hXX.out.box)
    have h6c := Lib.hid (hQ6.out.below hbl (by omega))
    have h5c := Lib.hid (hQ5.out.below hbl (by omega))
    have hbwc : Hid (Below w.heap.size w wc) := hXX.out.bw.trans (hbl.mono (by omega))
    have hzB : B + 1 < wc.heap.size := by omega
    clear hbl hoth hbB hrJ hnJ hcJ hrB hnB hcB hQ5 hQ6
    have k0 := h6c.out.cell 0
    have k1 := h6c.out.cell 1
    have k2 := h6c.out.cell 2
    have k3 := h6c.out.cell 3
    have k4 := h6c.out.cell 4
    have k5 := h6c.out.cell 5
    have k6 := h6c.out.cell 6
    have k7 := h6c.out.cell 7
    have b1 := hbBH.out.cell 1
    simp at k0 k1 k2 k3 k4 k5 k6 k7 b1
    have hlB := Lib.hid (hrBH.out.length (k := 8) fun c d h => h.len)
    have honeB := Lib.hid (hrBH.out.one' (k := 8) fun c d h => h.one)
    go_wp2_with (at_builtin; refine wpList_append_own _ rfl (.tmp 169) (.tmp 171) 61 rfl wc.heap.size 66 a0 (.agg #[.slice none 0 0, .int .i64 0, .int .i64 0, .slice none 0 0, .int .i64 0, .int .i64 0, .int .i64 0, .int .i64 0]) 8 96 Try.underlying61 ha0 az0 az1 az2 rfl (by decide) _ _ _ rfl (World.ownsRow_lit wc #[.slice As da.sl asc, .int .i64 da.ri, .int .i64 da.cls, .slice AL da.lims.length alc, .int .i64 da.rq, .int .i64 da.se, .int .i64 da.ra, .int .i64 da.bu] 1 (Nat.le_refl _) (by decide) rfl) ad AgB.length cB csB rfl ?e1 ?e2 ?e3 ?e4 ?e5 ?e6 ?_)
    case e1 => exact hlB.out
    case e2 => exact fun j u hu => (World.cell?_alloc_lt _ _ _ (World.block_lt_of_cell? _ _ (hcBH.out j u hu))).trans (hcBH.out j u hu)
    case e3 => exact honeB.out
    case e4 => unfold maxLen; omega
    case e5 => omega
    case e6 => simp
    intro v9 w9 hown9 hg9 _
    obtain ⟨g9, c9, hv9⟩ := Joins.ownsRow_form hown9 (by omega)
    subst hv9
    have hb9 : Below wc.heap.size wc w9 := ((Below.refl _ _).alloc (Nat.le_refl _) _).grown hg9 (by simp) (fun q hq => by simp [Value.ownBlock] at hq; omega)
    have hz9 := hb9.size
    have hLw : Ints wc wc.heap.size AL da.lims := (HL.out.below hbwc.out).more hbwc.out.size
    have hS9 : Hid (SlE (AElem 60) w9 w9.heap.size (.slice (some ⟨g9, 0, none⟩) (1 + AgB.length) c9) (da :: AgB)) := Lib.hid (by
      obtain ⟨_, _, cur, q2, q3⟩ := own_at hown9
      refine sl_of_cells (cs := [.slice As da.sl asc, .int .i64 da.ri, .int .i64 da.cls, .slice AL da.lims.length alc, .int .i64 da.rq, .int .i64 da.se, .int .i64 da.ra, .int .i64 da.bu] ++ csB) q2.lt (fun j u hu => by rw [q2.cell j]; exact q3 j u hu) ⟨_, _, rfl, ?_, hrBH.out.mono fun c d h => (h.below hb9).more hz9⟩ (by simp; omega)
      exact ⟨As, asc, AL, alc, rfl, (hLw.below hb9).more hz9, by omega, by omega⟩)
    have hb9H := Lib.hid hb9
    clear hown9 hg9 hb9 k0 k1 k2 k3 k4 k5 k6 k7 b1 hLw
    go_wp2_with fail
    go_loopw [174] (fun v174 wr => ∃ k : Nat, k ≤ 1 + AgB.length ∧ v174 = .int .i64 k ∧ Below w9.heap.size w9 wr) (fun v174 _ => 1 + AgB.length - (intOf v174).toNat)
    case atStart => exact ⟨0, by omega, rfl, Below.refl _ _⟩
    case round =>
      obtain ⟨k, hk, rfl, hb⟩ := hrel
      have hbH := Lib.hid hb
      have hzr := hb.size
      clear hb
      by_cases hlt : k < 1 + AgB.length
      · have hki : (k : Int) < 1 + (AgB.length : Int) := by omega
        obtain ⟨b0, off0, cp0, c, hv, hbz, hc, hcell⟩ := (slA_below hS9.out hbH.out).at (k := 8) (by omega) (fun c d h => h.len) k (by simp; omega)
        injection hv with hv1 hv2 hv3
        injection hv1 with hv1
        injection hv1 with hv11 hv12
        subst hv11 hv12 hv3
        clear hv2
        generalize (da :: AgB)[k]'(by simp; omega) = dk at hc
        obtain ⟨As', sc', L', lc', rfl, hLi, p2, p3⟩ := hc
        have e0 := hcell 0 (by omega)
        have e1 := hcell 1 (by omega)
        have e2 := hcell 2 (by omega)
        have e3 := hcell 3 (by omega)
        have e4 := hcell 4 (by omega)
        have e5 := hcell 5 (by omega)
        have e6 := hcell 6 (by omega)
        have e7 := hcell 7 (by omega)
        simp only [Nat.zero_add, Nat.add_zero, List.getElem?_cons_zero, List.getElem?_cons_succ] at e0 e1 e2 e3 e4 e5 e6 e7
        have hLiH := Lib.hid (hLi.more hzr)
        have hbzr : g9 < wr.heap.size := by omega
        clear hcell hLi
        go_wp2_with fail
        have hbX : Below wr.heap.size wr (wr.alloc (.cells #[.slice As' dk.sl sc', .int .i64 dk.ri, .int .i64 dk.cls, .slice L' dk.lims.length lc', .int .i64 dk.rq, .int .i64 dk.se, .int .i64 dk.ra, .int .i64 dk.bu] 66)) := (Below.refl _ _).alloc (Nat.le_refl _) _
        have hLX : Hid (Ints (wr.alloc (.cells #[.slice As' dk.sl sc', .int .i64 dk.ri, .int .i64 dk.cls, .slice L' dk.lims.length lc', .int .i64 dk.rq, .int .i64 dk.se, .int .i64 dk.ra, .int .i64 dk.bu] 66)) (wr.alloc (.cells #[.slice As' dk.sl sc', .int .i64 dk.ri, .int .i64 dk.cls, .slice L' dk.lims.length lc', .int .i64 dk.rq, .int .i64 dk.se, .int .i64 dk.ra, .int .i64 dk.bu] 66)).heap.size L' dk.lims) := (hLiH.out.below hbX).more hbX.size
        have hBX : Hid (Box (wr.alloc (.cells #[.slice As' dk.sl sc', .int .i64 dk.ri, .int .i64 dk.cls, .slice L' dk.lims.length lc', .int .i64 dk.rq, .int .i64 dk.se, .int .i64 dk.ra, .int .i64 dk.bu] 66)) wr.heap.size 66 #[.slice As' dk.sl sc', .int .i64 dk.ri, .int .i64 dk.cls, .slice L' dk.lims.length lc', .int .i64 dk.rq, .int .i64 dk.se, .int .i64 dk.ra, .int .i64 dk.bu]) := Box.new _ _ _
        have hzY : (wr.alloc (.cells #[.slice As' dk.sl sc', .int .i64 dk.ri, .int .i64 dk.cls, .slice L' dk.lims.length lc', .int .i64 dk.rq, .int .i64 dk.se, .int .i64 dk.ra, .int .i64 dk.bu] 66)).heap.size = wr.heap.size + 1 := World.size_alloc _ _
        generalize (wr.alloc (.cells #[.slice As' dk.sl sc', .int .i64 dk.ri, .int .i64 dk.cls, .slice L' dk.lims.length lc', .int .i64 dk.rq, .int .i64 dk.se, .int .i64 dk.ra, .int .i64 dk.bu] 66)) = Y at hbX hLX hBX hzY ⊢
        have hzY1 : wr.heap.size < Y.heap.size := by omega
        have hbXH := Lib.hid hbX
        have f0 := hBX.out.cell 0
        have f1 := hBX.out.cell 1
        have f2 := hBX.out.cell 2
        have f3 := hBX.out.cell 3
        have f4 := hBX.out.cell 4
        have f5 := hBX.out.cell 5
        have f6 := hBX.out.cell 6
        have f7 := hBX.out.cell 7
        simp at f0 f1 f2 f3 f4 f5 f6 f7
        clear hbX hzY e0 e1 e2 e3 e4 e5 e6 e7
        obtain ⟨bb, hbb⟩ : ∃ bb, agOk dk = bb := ⟨_, rfl⟩
        have hbbH := Lib.hid hbb
        have p2H := Lib.hid p2
        have p3H := Lib.hid p3
        clear hbb p2 p3
        go_region_held3 (fun w' => Below Y.heap.size Y w' ∧ ∀ b o, b < Y.heap.size → w'.cell? ⟨b, o, none⟩ = Y.cell? ⟨b, o, none⟩) (first | exact held_start _ | exact held_step (by assumption) (by assumption))
          (first
            | (go_at_call 42; refine (agp_held dk As' L' sc' lc' bb Y _ (by with_reducible assumption) hLX.out p2H.out p3H.out hbbH.out).mono ?_; rintro e w' ⟨rfl, hb⟩)
            | (go_at_call 43; refine (agr_held dk As' L' sc' lc' bb Y _ (by with_reducible assumption) hLX.out p2H.out p3H.out hbbH.out).mono ?_; rintro e w' ⟨rfl, hb⟩))
        have hS7 : Below Y.heap.size Y w' := And.left ‹Below Y.heap.size Y w' ∧ _›
        have hW7 : Hid (Below w9.heap.size w9 w') := hbH.out.trans ((hbXH.out.mono hzr).trans (hS7.mono (by omega)))
        clear hS7
        have hnn : (bb != bb) = false := by simp
        go_wp2_with fail
        go_roundw
        case rel => exact ⟨k + 1, by omega, by go_num, hW7.out⟩
        case measure => simp [intOf]; omega
      · have hki : ¬ (k : Int) < 1 + (AgB.length : Int) := by omega
        have hbcr : Below wc.heap.size wc wr := hb9H.out.trans (hbH.out.mono hz9)
        have hzcr := hbcr.size
        have hbXr : Below B X wr := hblH.out.trans (hbcr.mono (by omega))
        have hbwr : Hid (Below w.heap.size w wr) := hbwc.out.trans (hbcr.mono (by have := hbwc.out.size; omega))
        have hs1 := Lib.hid (slJ_more (slJ_below (slJ_weak HJ.out hSmall.out.2.2.1) hbwr.out) hbwr.out.size)
        have hs2 := Lib.hid (slA_more (slA_below (slA_weak HA.out hSmall.out.2.2.2) hbwr.out) hbwr.out.size)
        have hs3 : Hid (SlE (JElem 60) wr wr.heap.size (.slice (some ⟨gjc, 0, none⟩) Js.length cjc) Js) := sl_of_cells (by have := hXX.out.gj; omega) (fun j u hu => (hbXr.cell (p := ⟨gjc, j, none⟩) hXX.out.gj).trans (hXX.out.cj j u hu)) (hXX.out.bad.ej.mono fun c d h => h.keep hbXr (by omega)) rfl
        have hs4 : Hid (SlE (AElem 60) wr wr.heap.size (.slice (some ⟨gac, 0, none⟩) Ags.length cac) Ags) := sl_of_cells (by have := hXX.out.ga; omega) (fun j u hu => (hbXr.cell (p := ⟨gac, j, none⟩) hXX.out.ga).trans (hXX.out.ca j u hu)) (hXX.out.bad.ea.mono fun c d h => h.keep hbXr (by omega)) rfl
        have hs5 := Lib.hid (slJ_more (slJ_below hsJH.out hbcr) hzcr)
        have hs6 := Lib.hid (slA_more (slA_below hsAH.out hbcr) hzcr)
        have hx5 := h5c.out.below hbcr (by omega)
        have hxc := hCc.out.below hbcr (by omega)
        have hxb := hbBH.out.below hbcr (by omega)
        have a00 := hx5.cell 0
        have a01 := hx5.cell 1
        have a02 := hx5.cell 2
        have a03 := hx5.cell 3
        have a04 := hx5.cell 4
        have a05 := hx5.cell 5
        have c00 := hxc.cell 0
        have c01 := hxc.cell 1
        have c02 := hxc.cell 2
        have c03 := hxc.cell 3
        have c04 := hxc.cell 4
        have c05 := hxc.cell 5
        have b00 := hxb.cell 0
        have b01 := hxb.cell 1
        have b02 := hxb.cell 2
        have b03 := hxb.cell 3
        have b04 := hxb.cell 4
        have b05 := hxb.cell 5
        simp at a00 a01 a02 a03 a04 a05 c00 c01 c02 c03 c04 c05 b00 b01 b02 b03 b04 b05
        have hok := Lib.hid hXX.out.ok
        have hsm1 : Hid (RJs.length ≤ 100) := Lib.hid (by have := hSmall.out.1; omega)
        have hsm2 : Hid (RAgs.length ≤ 100) := Lib.hid (by have := hSmall.out.2.1; omega)
        have hsm3 : Hid (Js.length ≤ 100) := Lib.hid (by omega)
        have hsm4 : Hid (Ags.length ≤ 100) := Lib.hid (by omega)
        have hsm5 := Lib.hid hl1
        have hsm6 := Lib.hid hl2
        obtain ⟨br, hbr⟩ : ∃ b, cfgOk RJs RAgs rper rcap rhold rlock = b := ⟨_, rfl⟩
        obtain ⟨bs, hbs⟩ : ∃ b, cfgOk JsB AgB per2 cap2 hold2 lock2 = b := ⟨_, rfl⟩
        have hbrH := Lib.hid hbr
        have hbsH := Lib.hid hbs
        have hn1 : (br == br) = true := by simp
        have hn2 : (bs == bs) = true := by simp
        have hzw0 : w.heap.size < wr.heap.size := by omega
        have hzB0 : B < wr.heap.size := by omega
        have hzB1 : B + 1 < wr.heap.size := by omega
        clear hbr hbs hbcr hbXr hx5 hxc hxb hl1 hl2 hl3 hsJH hsAH hcBH hrBH hlB honeB hS9 hb9H hblH hXX HJ HA HI HL hSmall hbBH hCc h6c h5c nj1 nj2 na1 na2 hs40 hs40i hl12 hl12i
        go_wp2_with fail
        go_region_held3 (fun w' => Below wr.heap.size wr w' ∧ ∀ b o, b < wr.heap.size → w'.cell? ⟨b, o, none⟩ = wr.cell? ⟨b, o, none⟩) (first | exact held_start _ | exact held_step (by assumption) (by assumption))
          (first
            | (go_at_call 44; with_reducible refine (cfp_held (.slice A1 RJs.length c1) (.slice A2 RAgs.length c2) RJs RAgs rper rcap rhold rlock br wr _ (by with_reducible assumption) hs1.out hs2.out hsm1.out hsm2.out hbrH.out).mono ?_; rintro e w' ⟨rfl, hb⟩)
            | (go_at_call 44; with_reducible refine (cfp_held (.slice (some ⟨gjc, 0, none⟩) Js.length cjc) (.slice (some ⟨gac, 0, none⟩) Ags.length cac) Js Ags per cap hold lock true wr _ (by with_reducible assumption) hs3.out hs4.out hsm3.out hsm4.out hok.out).mono ?_; rintro e w' ⟨rfl, hb⟩)
            | (go_at_call 44; with_reducible refine (cfp_held (.slice AJ JsB.length cJ) (.slice (some ad) AgB.length cB) JsB AgB per2 cap2 hold2 lock2 bs wr _ (by with_reducible assumption) hs5.out hs6.out hsm5.out hsm6.out hbsH.out).mono ?_; rintro e w' ⟨rfl, hb⟩)
            | (go_at_call 45; with_reducible refine (cfr_held (.slice A1 RJs.length c1) (.slice A2 RAgs.length c2) RJs RAgs rper rcap rhold rlock br wr _ (by with_reducible assumption) hs1.out hs2.out hsm1.out hsm2.out hbrH.out).mono ?_; rintro e w' ⟨rfl, hb⟩)
            | (go_at_call 45; with_reducible refine (cfr_held (.slice AJ JsB.length cJ) (.slice (some ad) AgB.length cB) JsB AgB per2 cap2 hold2 lock2 bs wr _ (by with_reducible assumption) hs5.out hs6.out hsm5.out hsm6.out hbsH.out).mono ?_; rintro e w' ⟨rfl, hb⟩)
            | (go_at_call 32; refine (awake7_any _).mono ?_; rintro e w' ⟨rfl, hb⟩))
        go_wp2
        go_ret
        exact ⟨rfl, hbwr.out.trans ((And.left ‹Below wr.heap.size wr _ ∧ _›).mono hbwr.out.size)⟩

theorem cfgs_walk (v v1 : Value) (A : Option Addr) (len cap : Nat) (zs : List Int) (which byv : Int) (w : World) (h : Raw w 63 v) (h1 : Raw w 66 v1) (hA : IsRow w A len cap zs) (_ : (Lit.int .i64 which).wf = true) (_ : (Lit.int .i64 byv).wf = true) :
    Calls Try.prog 12 #[v, v1, .slice A len cap, .int .i64 which, .int .i64 byv] w fun e w' => e = .returned (.bool true) ∧ Below w.heap.size w w' := by
  obtain ⟨vJ, vA, Js, Ags, per, cap', hold, lock, rfl, hJ, hJl, hAA, hAl⟩ := raw_cfg h
  obtain ⟨c, d, rfl, As, sc, L, lc, rfl, hL, hl1, hl2⟩ := raw_ag h1
  exact cfgs_core vJ vA Js Ags per cap' hold lock As L sc lc d A len cap zs which byv w hJ hJl hAA hAl hL hl1 hl2 hA

end Go.Proofs.Ytepodpdcillkmaa
