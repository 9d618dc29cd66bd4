/- The reference's Junction. -/
import Derived.Test.YtepodpdcillkmaaOf
namespace Go.Proofs.Ytepodpdcillkmaa
open Go.RowKit
set_option linter.unusedVariables false
set_option linter.unusedSimpArgs false

/-- Is the group below that of phase i there? -/
def belowTo (P : List Ph) (i k : Nat) : Bool := ((P.getD i pz).g == 0) || hasTo P k ((P.getD i pz).g - 1)
theorem belowTo_zero (P : List Ph) (i : Nat) : belowTo P i 0 = ((P.getD i pz).g == 0) := by simp [belowTo, hasTo]
theorem belowTo_succ (P : List Ph) (i k : Nat) : belowTo P i (k + 1) = (belowTo P i k || ((P.getD k pz).g == (P.getD i pz).g - 1)) := by
  unfold belowTo; rw [hasTo_succ, Bool.or_assoc]
theorem hasTo_iff (P : List Ph) (k : Nat) (g : Int) : hasTo P k g = true ↔ ∃ i, i < k ∧ (P.getD i pz).g = g := by
  unfold hasTo
  rw [List.any_eq_true]
  constructor
  · rintro ⟨i, hi, h⟩; exact ⟨i, by simpa using hi, by simpa using h⟩
  · rintro ⟨i, hi, h⟩; exact ⟨i, by simpa using hi, by simpa using h⟩
theorem phOk_g {p : Ph} (h : phOk p = true) : 0 ≤ p.g ∧ p.g ≤ 3 := by
  unfold phOk at h
  simp only [Bool.and_eq_true] at h
  exact wi_yes h.2.1
theorem full_iff (a b c d : Bool) : full a b c d = true ↔ (b = true → a = true) ∧ (c = true → b = true) ∧ (d = true → c = true) := by
  revert a b c d; decide
theorem contig_no {P : List Ph} {i : Nat} (hi : i < P.length) (hg : 0 ≤ (P.getD i pz).g ∧ (P.getD i pz).g ≤ 3) (h : belowTo P i P.length = false) : contig P = false := by
  cases hc : contig P
  · rfl
  · unfold contig at hc
    rw [full_iff] at hc
    unfold belowTo at h
    rw [Bool.or_eq_false_iff] at h
    have h0 : (P.getD i pz).g ≠ 0 := by simpa using h.1
    have key : hasTo P P.length ((P.getD i pz).g - 1) = true := by
      have hin : hasTo P P.length (P.getD i pz).g = true := (hasTo_iff _ _ _).2 ⟨i, hi, rfl⟩
      have : (P.getD i pz).g = 1 ∨ (P.getD i pz).g = 2 ∨ (P.getD i pz).g = 3 := by omega
      rcases this with e | e | e <;> rw [e] at hin ⊢
      · exact hc.1 hin
      · exact hc.2.1 hin
      · exact hc.2.2 hin
    rw [key] at h
    exact absurd h.2 (by decide)
theorem contig_yes {P : List Ph} (h : ∀ i, i < P.length → belowTo P i P.length = true) : contig P = true := by
  unfold contig
  rw [full_iff]
  have key : ∀ g : Int, g ≠ 0 → hasTo P P.length g = true → hasTo P P.length (g - 1) = true := by
    intro g hg hh
    obtain ⟨i, hi, e⟩ := (hasTo_iff _ _ _).1 hh
    have := h i hi
    unfold belowTo at this
    rw [e, Bool.or_eq_true] at this
    rcases this with a | a
    · exact absurd (by simpa using a) hg
    · exact a
  exact ⟨key 1 (by omega), key 2 (by omega), key 3 (by omega)⟩

set_option maxRecDepth 100000 in
set_option maxHeartbeats 4000000 in
theorem rplanJ_any (A A2 : Option Addr) (cap cap2 : Nat) (P : List Ph) (C : List Int) (s : Int) (w : World) (hA : Phs w w.heap.size A P) (hm : P.length ≤ 60) (hA2 : Ints w w.heap.size A2 C) (hn : C.length ≤ 60) :
    Calls Try.prog 34 #[.agg #[.slice A P.length cap, .slice A2 C.length cap2, .int .i64 s]] w fun e w' => e = .returned (.bool (planJ P C s)) ∧ Below w.heap.size w w' := by
  have HA := Lib.hid hA
  have HA2 := Lib.hid hA2
  clear hA hA2
  go_enter Try.func34, Try.ntmps34
  by_cases hsz : 1 ≤ P.length ∧ P.length ≤ 8 ∧ C.length = P.length
  rotate_left
  · have hE : Hid (planJ P C s = false) := Lib.hid (planJ_size hsz)
    by_cases h1 : 1 ≤ P.length
    · by_cases h8 : P.length ≤ 8
      · have hne : ((C.length : Int) != (P.length : Int)) = true := by simp; omega
        clear hsz
        go_wp2_with fail
        go_ret
        exact ⟨by rw [hE.out]; rfl, by go_grown⟩
      · clear hsz
        go_wp2_with fail
        go_ret
        exact ⟨by rw [hE.out]; rfl, by go_grown⟩
    · clear hsz
      go_wp2_with fail
      go_ret
      exact ⟨by rw [hE.out]; rfl, by go_grown⟩
  have hszH := Lib.hid hsz
  obtain ⟨h1, h8, hl⟩ := hsz
  have hne : ((C.length : Int) != (P.length : Int)) = false := by simp [hl]
  clear hl
  have hI1 : Hid (Ints (w.alloc (.cells #[.slice A P.length cap, .slice A2 C.length cap2, .int .i64 s] 26)) w.heap.size A2 C) := HA2.out.below ((Below.refl _ _).alloc (Nat.le_refl _) _)
  have hP1 : Hid (Phs (w.alloc (.cells #[.slice A P.length cap, .slice A2 C.length cap2, .int .i64 s] 26)) w.heap.size A P) := HA.out.below ((Below.refl _ _).alloc (Nat.le_refl _) _)
  go_wp2_with fail
  refine (rvalid_any _ _ _ _ _ hI1.out hn).mono ?_; rintro e w2 ⟨rfl, rfl⟩
  cases hv : validM C
  · have hE : Hid (planJ P C s = false) := Lib.hid (planJ_valid hv)
    clear hv
    go_wp2_with fail
    go_ret
    exact ⟨by rw [hE.out]; rfl, by go_grown⟩
  have hvH := Lib.hid hv
  clear hv
  go_wp2_with fail
  refine (rwithin_any _ _ _ _).mono ?_; rintro e w' ⟨rfl, rfl⟩
  cases hs : wi s 0 60
  · have hE : Hid (planJ P C s = false) := Lib.hid (planJ_start hs)
    clear hs
    go_wp2_with fail
    go_ret
    exact ⟨by rw [hE.out]; rfl, by go_grown⟩
  have hsH := Lib.hid hs
  clear hs
  go_wp2_with fail
  have hW : Hid (Below w.heap.size w ((w.alloc (.cells #[.slice A P.length cap, .slice A2 C.length cap2, .int .i64 s] 26)))) := (Below.refl _ _).alloc (Nat.le_refl _) _
  have j0 : Box ((w.alloc (.cells #[.slice A P.length cap, .slice A2 C.length cap2, .int .i64 s] 26))) w.heap.size 26 #[.slice A P.length cap, .slice A2 C.length cap2, .int .i64 s] := Box.new w _ _
  have hWz : ((w.alloc (.cells #[.slice A P.length cap, .slice A2 C.length cap2, .int .i64 s] 26))).heap.size = w.heap.size + 1 := World.size_alloc _ _
  generalize ((w.alloc (.cells #[.slice A P.length cap, .slice A2 C.length cap2, .int .i64 s] 26))) = W at hW j0 hWz ⊢
  have j0H := Lib.hid j0
  have hWz1 : w.heap.size + 1 ≤ W.heap.size := by omega
  have hWz2 : W.heap.size ≤ w.heap.size + 1 := by omega
  clear hWz j0 hI1 hP1
  go_loopw [44] (fun v44 wr => ∃ k : Nat, k ≤ P.length ∧ v44 = .int .i64 k ∧ (∀ i, i < k → phOk (P.getD i pz) = true) ∧ Below (w.heap.size + 1) W wr) (fun v44 _ => P.length - (intOf v44).toNat)
  case atStart => exact ⟨0, by omega, rfl, by simp, Below.refl _ _⟩
  case round =>
    obtain ⟨k, hk, rfl, hok, hb⟩ := hrel
    have hokH := Lib.hid hok
    clear hok
    by_cases hlt : k < P.length
    · have hkl : (k : Int) < (P.length : Int) := by omega
      obtain ⟨b, off, rfl, hbl, hat⟩ := (HA.out.below (hW.out.trans (hb.mono (by omega)))) k hlt
      have c0 := hat.c0
      have c1 := hat.c1
      have c2 := hat.c2
      have c3 := hat.c3
      have c4 := hat.c4
      have c5 := hat.c5
      have c6 := hat.c6
      have c7 := hat.c7
      clear hat
      generalize hph : P.getD k pz = ph at c0 c1 c2 c3 c4 c5 c6 c7
      have hphH := Lib.hid hph
      have hz := hb.size
      have hbz : b < wr.heap.size := by omega
      have hwz : w.heap.size < wr.heap.size := by omega
      have hbH := Lib.hid hb
      clear hph hb hz
      go_wp2_with fail
      refine (rphase_any ph _).mono ?_; rintro e w9 ⟨rfl, hb9⟩
      rw [phOkR_eq]
      have hb9w : Hid (Below wr.heap.size wr w9) := ((Below.refl _ _).alloc (Nat.le_refl _) _).trans (hb9.mono (by simp))
      have hz9 := hb9w.out.size
      clear hb9 c0 c1 c2 c3 c4 c5 c6 c7
      cases hp : phOk ph
      · have hE : Hid (planJ P C s = false) := Lib.hid (planJ_ph hlt (by rw [hphH.out]; exact hp))
        clear hp
        go_wp2_with fail
        go_ret
        exact ⟨by rw [hE.out]; rfl, hW.out.trans ((hbH.out.mono (by omega)).trans (hb9w.out.mono (by omega)))⟩
      · have hpH := Lib.hid hp
        clear hp
        go_wp2_with fail
        go_roundw
        case rel =>
          refine ⟨k + 1, by omega, by go_num, fun i hi => ?_, hbH.out.trans (hb9w.out.mono (by omega))⟩
          by_cases hik : i < k
          · exact hokH.out i hik
          · obtain rfl : i = k := by omega
            rw [hphH.out]; exact hpH.out
        case measure => simp [intOf]; omega
    · have hkl : ¬ (k : Int) < (P.length : Int) := by omega
      obtain rfl : k = P.length := by omega
      have hrest := Lib.hid (planJ_rest hszH.out hvH.out hsH.out hokH.out)
      have hj := j0H.out.below hb (by omega)
      have hz := hb.size
      have hzw : w.heap.size < wr.heap.size := by omega
      have hbw : Hid (Below w.heap.size w wr) := hW.out.trans (hb.mono (by omega))
      have hjH := Lib.hid hj
      have i0 := hj.cell 0
      have i1 := hj.cell 1
      simp at i0 i1
      clear hj hb hz
      obtain ⟨w4, hw4⟩ : ∃ x, x = wr := ⟨wr, rfl⟩
      subst hw4
      go_wp2_with fail
      go_loopw [55] (fun v55 wr => ∃ p : Nat, p ≤ P.length ∧ v55 = .int .i64 p ∧ (∀ r s, r < p → s < P.length → hitA P C r s = false) ∧ (∀ r, r < p → belowTo P r P.length = true) ∧ Below w4.heap.size w4 wr) (fun v55 _ => P.length - (intOf v55).toNat)
      case atStart => exact ⟨0, by omega, rfl, by simp, by simp, Below.refl _ _⟩
      case round =>
        obtain ⟨p, hp, rfl, hno, hbe, hb⟩ := hrel
        have hnoH := Lib.hid hno
        have hbeH := Lib.hid hbe
        have hbH := Lib.hid hb
        have hz := hb.size
        clear hno hbe
        by_cases hlt : p < P.length
        · have hpl : (p : Int) < (P.length : Int) := by omega
          have hPr := HA.out.below (hbw.out.trans (hb.mono (by omega)))
          obtain ⟨b, off, rfl, hbl, hat⟩ := hPr p hlt
          have c0 := hat.c0
          have c1 := hat.c1
          have c2 := hat.c2
          have c3 := hat.c3
          have c4 := hat.c4
          have c5 := hat.c5
          have c6 := hat.c6
          have c7 := hat.c7
          have hpg := phOk_g (hokH.out p hlt)
          clear hat hPr
          have hb0 := Lib.hid (belowTo_zero P p)
          have hbS := Lib.hid (belowTo_succ P p)
          have hcn := Lib.hid (fun h => contig_no hlt (phOk_g (hokH.out p hlt)) h)
          generalize hph : P.getD p pz = ph at c0 c1 c2 c3 c4 c5 c6 c7 hpg hb0 hbS
          have hphH := Lib.hid hph
          obtain ⟨g0, g1⟩ := hpg
          have hbz : b < wr.heap.size := by omega
          have hzz : w.heap.size < wr.heap.size := by omega
          have k0 := (hb.cell (p := ⟨w.heap.size, 0, none⟩) (by dsimp only; omega)).trans i0
          have k1 := (hb.cell (p := ⟨w.heap.size, 1, none⟩) (by dsimp only; omega)).trans i1
          clear hph hb
          obtain ⟨w8, hw8⟩ : ∃ x, x = wr := ⟨wr, rfl⟩
          subst hw8
          go_wp2_with fail
          have hWb : Hid (Below w8.heap.size w8 (w8.alloc (.cells #[.int .i64 ph.r, .int .i64 ph.g, .int .i64 ph.mn, .int .i64 ph.mx, .int .i64 ph.ye, .int .i64 ph.re, .int .i64 ph.wa, .int .i64 ph.cl] 55))) := (Below.refl _ _).alloc (Nat.le_refl _) _
          have e0 : (w8.alloc (.cells #[.int .i64 ph.r, .int .i64 ph.g, .int .i64 ph.mn, .int .i64 ph.mx, .int .i64 ph.ye, .int .i64 ph.re, .int .i64 ph.wa, .int .i64 ph.cl] 55)).cell? ⟨w8.heap.size, 0, none⟩ = some (.int .i64 ph.r) := (Box.new _ _ _).cell 0
          have e1 : (w8.alloc (.cells #[.int .i64 ph.r, .int .i64 ph.g, .int .i64 ph.mn, .int .i64 ph.mx, .int .i64 ph.ye, .int .i64 ph.re, .int .i64 ph.wa, .int .i64 ph.cl] 55)).cell? ⟨w8.heap.size, 1, none⟩ = some (.int .i64 ph.g) := (Box.new _ _ _).cell 1
          have hXz : (w8.alloc (.cells #[.int .i64 ph.r, .int .i64 ph.g, .int .i64 ph.mn, .int .i64 ph.mx, .int .i64 ph.ye, .int .i64 ph.re, .int .i64 ph.wa, .int .i64 ph.cl] 55)).heap.size = w8.heap.size + 1 := World.size_alloc _ _
          generalize (w8.alloc (.cells #[.int .i64 ph.r, .int .i64 ph.g, .int .i64 ph.mn, .int .i64 ph.mx, .int .i64 ph.ye, .int .i64 ph.re, .int .i64 ph.wa, .int .i64 ph.cl] 55)) = X at hWb e0 e1 hXz ⊢
          have hXz1 : w8.heap.size < X.heap.size := by omega
          have hb4X : Hid (Below w4.heap.size w4 X) := hbH.out.trans (hWb.out.mono (by omega))
          have hbwX : Hid (Below w.heap.size w X) := hbw.out.trans (hb4X.out.mono (by omega))
          clear c0 c1 c2 c3 c4 c5 c6 c7 hXz k0 k1
          go_loopw [63] (fun v63 wx => ∃ q : Nat, q ≤ P.length ∧ v63 = .int .i64 q ∧ (∀ s, s < q → hitA P C p s = false) ∧ Below X.heap.size X wx) (fun v63 _ => P.length - (intOf v63).toNat)
          case atStart => exact ⟨0, by omega, rfl, by simp, Below.refl _ _⟩
          case round =>
            obtain ⟨q, hq, rfl, hno2, hb2⟩ := hrel
            have hnoH2 := Lib.hid hno2
            clear hno2
            have hz2 := hb2.size
            have hb2H := Lib.hid hb2
            by_cases hqt : q < P.length
            · have hql : (q : Int) < (P.length : Int) := by omega
              have hfinH : Hid (hitA P C p q = false → ∀ s, s < q + 1 → hitA P C p s = false) := Lib.hid (by
                intro h s hs
                by_cases hsq : s < q
                · exact hnoH2.out s hsq
                · obtain rfl : s = q := by omega
                  exact h)
              have hP8 := HA.out.below (hbwX.out.trans (hb2.mono (by omega)))
              obtain ⟨_, hat⟩ := phs_at' hP8 hqt
              have c0 := hat.c0
              have c1 := hat.c1
              have c2 := hat.c2
              have c3 := hat.c3
              have c4 := hat.c4
              have c5 := hat.c5
              have c6 := hat.c6
              have c7 := hat.c7
              clear hat hP8
              generalize hqh : P.getD q pz = qh at c0 c1 c2 c3 c4 c5 c6 c7
              have hqhH := Lib.hid hqh
              clear hqh
              have d0 := (hb2.cell (p := ⟨w8.heap.size, 0, none⟩) (by dsimp only; omega)).trans e0
              have d1 := (hb2.cell (p := ⟨w8.heap.size, 1, none⟩) (by dsimp only; omega)).trans e1
              have hall2 : Below w4.heap.size w4 wr := hb4X.out.trans (hb2.mono (by omega))
              have k0 := (hall2.cell (p := ⟨w.heap.size, 0, none⟩) (by dsimp only; omega)).trans i0
              have k1 := (hall2.cell (p := ⟨w.heap.size, 1, none⟩) (by dsimp only; omega)).trans i1
              have hC8 : Hid (Ints (wr.alloc (.cells #[.int .i64 qh.r, .int .i64 qh.g, .int .i64 qh.mn, .int .i64 qh.mx, .int .i64 qh.ye, .int .i64 qh.re, .int .i64 qh.wa, .int .i64 qh.cl] 55)) w.heap.size A2 C) := HA2.out.below ((hbwX.out.trans (hb2.mono (by omega))).alloc (by omega) _)
              have hzx : w8.heap.size < wr.heap.size := by omega
              have hbx : b < wr.heap.size := by omega
              have hwx : w.heap.size < wr.heap.size := by omega
              have hallH : Hid (Below w.heap.size w wr) := hbwX.out.trans (hb2.mono (by omega))
              clear hb2 hall2
              by_cases hik : p = q
              · have bn : ((p : Int) != (q : Int)) = false := by simp [hik]
                have hnd := Lib.hid (need_self (P := P) hik)
                clear hik
                go_wp2_with fail
                go_roundw
                case rel => exact ⟨q + 1, by omega, by go_num, hfinH.out (hitA_need hnd.out), hb2H.out.alloc (by omega) _⟩
                case measure => simp [intOf]; omega
              · have bn : ((p : Int) != (q : Int)) = true := by simp; omega
                by_cases hr : ph.r = qh.r
                · have br : (ph.r == qh.r) = true := by simp [hr]
                  have hnd := Lib.hid (need_ring (P := P) (p := p) (q := q) hik (by rw [hphH.out, hqhH.out, hr]))
                  clear hr
                  go_wp2_with fail
                  refine (rconflict_any _ _ _ _ _ _ _ hC8.out hn).mono ?_; rintro e w' ⟨rfl, rfl⟩
                  cases hcf : cf C p q
                  · have hE : Hid (planJ P C s = false) := Lib.hid (by rw [hrest.out, apart_no hlt hqt (hitA_yes hnd.out hcf), Bool.and_false])
                    clear hcf
                    go_wp2_with fail
                    go_ret
                    exact ⟨by rw [hE.out]; rfl, hallH.out.alloc (by omega) _⟩
                  · have hE := Lib.hid (hfinH.out (hitA_cf hcf))
                    clear hcf
                    go_wp2_with fail
                    go_roundw
                    case rel => exact ⟨q + 1, by omega, by go_num, hE.out, hb2H.out.alloc (by omega) _⟩
                    case measure => simp [intOf]; omega
                · have br : (ph.r == qh.r) = false := by simpa using hr
                  by_cases hg : ph.g = qh.g
                  · have bg : (ph.g != qh.g) = false := by simp [hg]
                    have hnd := Lib.hid (need_rest (P := P) (p := p) (q := q) (by rw [hphH.out, hqhH.out]; exact hr) (by rw [hphH.out, hqhH.out, hg]))
                    clear hr hg
                    go_wp2_with fail
                    go_roundw
                    case rel => exact ⟨q + 1, by omega, by go_num, hfinH.out (hitA_need hnd.out), hb2H.out.alloc (by omega) _⟩
                    case measure => simp [intOf]; omega
                  · have bg : (ph.g != qh.g) = true := by simpa using hg
                    have hnd := Lib.hid (need_group (P := P) (p := p) (q := q) hik (by rw [hphH.out, hqhH.out]; exact hg))
                    clear hr hg
                    go_wp2_with fail
                    refine (rconflict_any _ _ _ _ _ _ _ hC8.out hn).mono ?_; rintro e w' ⟨rfl, rfl⟩
                    cases hcf : cf C p q
                    · have hE : Hid (planJ P C s = false) := Lib.hid (by rw [hrest.out, apart_no hlt hqt (hitA_yes hnd.out hcf), Bool.and_false])
                      clear hcf
                      go_wp2_with fail
                      go_ret
                      exact ⟨by rw [hE.out]; rfl, hallH.out.alloc (by omega) _⟩
                    · have hE := Lib.hid (hfinH.out (hitA_cf hcf))
                      clear hcf
                      go_wp2_with fail
                      go_roundw
                      case rel => exact ⟨q + 1, by omega, by go_num, hE.out, hb2H.out.alloc (by omega) _⟩
                      case measure => simp [intOf]; omega
            · have hql : ¬ (q : Int) < (P.length : Int) := by omega
              obtain rfl : q = P.length := by omega
              have d1 := (hb2.cell (p := ⟨w8.heap.size, 1, none⟩) (by dsimp only; omega)).trans e1
              have hzx : w8.heap.size < wr.heap.size := by omega
              have hall2 : Below w4.heap.size w4 wr := hb4X.out.trans (hb2.mono (by omega))
              have k0 := (hall2.cell (p := ⟨w.heap.size, 0, none⟩) (by dsimp only; omega)).trans i0
              have hwx : w.heap.size < wr.heap.size := by omega
              have hall2H := Lib.hid hall2
              clear hb2 hall2
              obtain ⟨w6, hw6⟩ : ∃ x, x = wr := ⟨wr, rfl⟩
              subst hw6
              go_wp2_with fail
              rw [← hb0.out]
              go_loopw [10, 100] (fun v10 v100 wx => ∃ q : Nat, q ≤ P.length ∧ v100 = .int .i64 q ∧ v10 = .bool (belowTo P p q) ∧ Below w6.heap.size w6 wx) (fun _ v100 _ => P.length - (intOf v100).toNat)
              case atStart => exact ⟨0, by omega, rfl, rfl, Below.refl _ _⟩
              case round =>
                obtain ⟨q, hq, rfl, rfl, hb5⟩ := hrel
                have hz5 := hb5.size
                have hb5H := Lib.hid hb5
                by_cases hqt : q < P.length
                · have hql : (q : Int) < (P.length : Int) := by omega
                  have hallx : Below w.heap.size w wr := hbw.out.trans ((hall2H.out.mono (by omega)).trans (hb5.mono (by omega)))
                  obtain ⟨_, hat⟩ := phs_at' (HA.out.below hallx) hqt
                  have c0 := hat.c0
                  have c1 := hat.c1
                  have c2 := hat.c2
                  have c3 := hat.c3
                  have c4 := hat.c4
                  have c5 := hat.c5
                  have c6 := hat.c6
                  have c7 := hat.c7
                  have hbq := Lib.hid (hbS.out q)
                  clear hat hallx
                  generalize hqh : P.getD q pz = qh at c0 c1 c2 c3 c4 c5 c6 c7 hbq
                  clear hqh
                  have dd1 := (hb5.cell (p := ⟨w8.heap.size, 1, none⟩) (by dsimp only; omega)).trans d1
                  have hzx5 : w8.heap.size < wr.heap.size := by omega
                  have hbz5 : b < wr.heap.size := by omega
                  clear hb5
                  cases hbt : belowTo P p q
                  · rw [hbt, Bool.false_or] at hbq
                    go_wp2_with fail
                    go_roundw
                    case rel => exact ⟨q + 1, by omega, by go_num, by rw [hbq.out], hb5H.out.alloc (by omega) _⟩
                    case measure => simp [intOf]; omega
                  · rw [hbt, Bool.true_or] at hbq
                    go_wp2_with fail
                    go_roundw
                    case rel => exact ⟨q + 1, by omega, by go_num, by rw [hbq.out], hb5H.out.alloc (by omega) _⟩
                    case measure => simp [intOf]; omega
                · have hql : ¬ (q : Int) < (P.length : Int) := by omega
                  obtain rfl : q = P.length := by omega
                  cases hbt : belowTo P p P.length
                  · have hE : Hid (planJ P C s = false) := Lib.hid (by rw [hrest.out, hcn.out hbt, Bool.false_and])
                    go_wp2_with fail
                    go_ret
                    exact ⟨by rw [hE.out]; rfl, hbw.out.trans ((hall2H.out.mono (by omega)).trans (hb5.mono (by omega)))⟩
                  · have hbtH := Lib.hid hbt
                    clear hbt
                    go_wp2_with fail
                    go_roundw
                    case rel =>
                      refine ⟨p + 1, by omega, by go_num, fun r s hr hs => ?_, fun r hr => ?_, hall2H.out.trans (hb5.mono (by omega))⟩
                      · by_cases hrp : r < p
                        · exact hnoH.out r s hrp hs
                        · obtain rfl : r = p := by omega
                          exact hnoH2.out s (by omega)
                      · by_cases hrp : r < p
                        · exact hbeH.out r hrp
                        · obtain rfl : r = p := by omega
                          exact hbtH.out
                    case measure => simp [intOf]; omega
        · have hpl : ¬ (p : Int) < (P.length : Int) := by omega
          obtain rfl : p = P.length := by omega
          have hE : Hid (planJ P C s = true) := Lib.hid (by rw [hrest.out, contig_yes hbeH.out, apart_yes (fun r s hr hs => hnoH.out r s hr hs)]; rfl)
          go_wp2_with fail
          go_ret
          exact ⟨by rw [hE.out]; rfl, hbw.out.trans (hb.mono (by omega))⟩

end Go.Proofs.Ytepodpdcillkmaa
