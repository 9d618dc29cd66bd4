/- plan.apart. -/
import Derived.Test.YtepodpdcillkmaaPlanA
import Derived.Test.YtepodpdcillkmaaJunc
import Derived.WalkMore
namespace Go.Proofs.Ytepodpdcillkmaa
open Go.RowKit
set_option linter.unusedVariables false
set_option linter.unusedSimpArgs false

/-- Two phases that must conflict and do not. -/
def need (P : List Ph) (p q : Nat) : Bool := !(p == q) && ((P.getD p pz).r == (P.getD q pz).r || !((P.getD p pz).g == (P.getD q pz).g))
def hitA (P : List Ph) (C : List Int) (p q : Nat) : Bool := need P p q && !cf C p q
def apart (P : List Ph) (C : List Int) : Bool := (firstHit P.length (hitA P C)).isNone
theorem apart_no {P : List Ph} {C : List Int} {p q : Nat} (hp : p < P.length) (hq : q < P.length) (h : hitA P C p q = true) : apart P C = false := by
  unfold apart
  rcases hf : firstHit P.length (hitA P C) with _ | x
  · rw [firstHit_none] at hf
    rw [hf p q hp hq] at h
    cases h
  · rfl
theorem apart_yes {P : List Ph} {C : List Int} (h : ∀ p q, p < P.length → q < P.length → hitA P C p q = false) : apart P C = true := by
  unfold apart
  rw [(firstHit_none _ _).2 h]; rfl
theorem need_self {P : List Ph} {p q : Nat} (h : p = q) : need P p q = false := by subst h; simp [need]
theorem need_ring {P : List Ph} {p q : Nat} (h : p ≠ q) (hr : (P.getD p pz).r = (P.getD q pz).r) : need P p q = true := by unfold need; rw [hr]; simp [h]
theorem need_group {P : List Ph} {p q : Nat} (h : p ≠ q) (hg : (P.getD p pz).g ≠ (P.getD q pz).g) : need P p q = true := by
  unfold need
  have e : ((P.getD p pz).g == (P.getD q pz).g) = false := by rw [beq_eq_false_iff_ne]; exact hg
  rw [e]; simp [h]
theorem need_rest {P : List Ph} {p q : Nat} (hr : (P.getD p pz).r ≠ (P.getD q pz).r) (hg : (P.getD p pz).g = (P.getD q pz).g) : need P p q = false := by
  unfold need
  have e : ((P.getD p pz).r == (P.getD q pz).r) = false := by rw [beq_eq_false_iff_ne]; exact hr
  rw [e, hg]; simp
theorem hitA_need {P : List Ph} {C : List Int} {p q : Nat} (h : need P p q = false) : hitA P C p q = false := by unfold hitA; rw [h]; rfl
theorem hitA_cf {P : List Ph} {C : List Int} {p q : Nat} (h : cf C p q = true) : hitA P C p q = false := by unfold hitA; rw [h]; simp
theorem hitA_yes {P : List Ph} {C : List Int} {p q : Nat} (h : need P p q = true) (h2 : cf C p q = false) : hitA P C p q = true := by unfold hitA; rw [h, h2]; rfl

theorem phs_at' {w : World} {B b off : Nat} {P : List Ph} (h : Phs w B (some ⟨b, off, none⟩) P) {i : Nat} (hi : i < P.length) : b < B ∧ PhAt w b (off + i * 8) (P.getD i pz) := by
  obtain ⟨b', off', e, hlt, hc⟩ := h i hi
  injection e with e
  injection e with e1 e2
  subst e1 e2
  exact ⟨hlt, hc⟩

set_option maxHeartbeats 2000000 in
theorem apart_any (A A2 : Option Addr) (cap cap2 : Nat) (P : List Ph) (C : List Int) (s : Int) (w : World) (hA : Phs w w.heap.size A P) (hm : P.length ≤ 1000) (hA2 : Ints w w.heap.size A2 C) (hn : C.length ≤ 60) :
    Calls Try.prog 58 #[.agg #[.slice A P.length cap, .slice A2 C.length cap2, .int .i64 s]] w fun e w' => e = .returned (.bool (apart P C)) ∧ Below w.heap.size w w' := by
  have HA := Lib.hid hA
  have HA2 := Lib.hid hA2
  clear hA hA2
  go_enter Try.func58, Try.ntmps58
  go_wp2_with fail
  go_step3
  go_wp2_with fail
  go_step3
  go_wp2_with fail
  have hW : Hid (Below w.heap.size w (w.alloc (.cells #[.slice A P.length cap, .slice A2 C.length cap2, .int .i64 s] 26))) := (Below.refl _ _).alloc (Nat.le_refl _) _
  have j0 : (w.alloc (.cells #[.slice A P.length cap, .slice A2 C.length cap2, .int .i64 s] 26)).cell? ⟨w.heap.size, 0, none⟩ = some (.slice A P.length cap) := (Box.new _ _ _).cell 0
  have j1 : (w.alloc (.cells #[.slice A P.length cap, .slice A2 C.length cap2, .int .i64 s] 26)).cell? ⟨w.heap.size, 1, none⟩ = some (.slice A2 C.length cap2) := (Box.new _ _ _).cell 1
  have hWz : (w.alloc (.cells #[.slice A P.length cap, .slice A2 C.length cap2, .int .i64 s] 26)).heap.size = w.heap.size + 1 := World.size_alloc _ _
  generalize (w.alloc (.cells #[.slice A P.length cap, .slice A2 C.length cap2, .int .i64 s] 26)) = W at hW j0 j1 hWz ⊢
  have hWz1 : w.heap.size + 1 ≤ W.heap.size := by omega
  have hWz2 : W.heap.size ≤ w.heap.size + 1 := by omega
  clear hWz
  go_loopw [3, 11] (fun v3 v11 wr => ∃ p : Nat, p ≤ P.length ∧ v11 = .int .i64 p ∧ v3 = .bool true ∧ (∀ r s, r < p → s < P.length → hitA P C r s = false) ∧ Below (w.heap.size + 1) W wr) (fun _ v11 _ => P.length - (intOf v11).toNat)
  case atStart => exact ⟨0, by omega, rfl, rfl, by simp, Below.refl _ _⟩
  case round =>
    obtain ⟨p, hp, rfl, rfl, hno, hb⟩ := hrel
    have hnoH := Lib.hid hno
    clear hno
    by_cases hlt : p < P.length
    · have hpl : (p : Int) < (P.length : Int) := by omega
      have hPr := HA.out.below (hW.out.trans (hb.mono (by omega)))
      obtain ⟨b, off, rfl, hbl, hat⟩ := hPr p hlt
      have c0 := hat.c0
      have c1 := hat.c1
      have c2 := hat.c2
      have c3 := hat.c3
      have c4 := hat.c4
      have c5 := hat.c5
      have c6 := hat.c6
      have c7 := hat.c7
      clear hat
      generalize hph : P.getD p pz = ph at c0 c1 c2 c3 c4 c5 c6 c7
      have hphH := Lib.hid hph
      have hz := hb.size
      have hzz : w.heap.size < wr.heap.size := by omega
      have hbz : b < wr.heap.size := by omega
      have k0 := (hb.cell (p := ⟨w.heap.size, 0, none⟩) (by dsimp only; omega)).trans j0
      have k1 := (hb.cell (p := ⟨w.heap.size, 1, none⟩) (by dsimp only; omega)).trans j1
      have hbH := Lib.hid hb
      have hPrH := Lib.hid hPr
      clear hph hb hPr hz
      obtain ⟨w8, hw8⟩ : ∃ x, x = wr := ⟨wr, rfl⟩
      subst hw8
      go_wp2_with fail
      have hWb : Hid (Below w8.heap.size w8 (w8.alloc (.cells #[.int .i64 ph.r, .int .i64 ph.g, .int .i64 ph.mn, .int .i64 ph.mx, .int .i64 ph.ye, .int .i64 ph.re, .int .i64 ph.wa, .int .i64 ph.cl] 55))) := (Below.refl _ _).alloc (Nat.le_refl _) _
      have e0 : (w8.alloc (.cells #[.int .i64 ph.r, .int .i64 ph.g, .int .i64 ph.mn, .int .i64 ph.mx, .int .i64 ph.ye, .int .i64 ph.re, .int .i64 ph.wa, .int .i64 ph.cl] 55)).cell? ⟨w8.heap.size, 0, none⟩ = some (.int .i64 ph.r) := (Box.new _ _ _).cell 0
      have e1 : (w8.alloc (.cells #[.int .i64 ph.r, .int .i64 ph.g, .int .i64 ph.mn, .int .i64 ph.mx, .int .i64 ph.ye, .int .i64 ph.re, .int .i64 ph.wa, .int .i64 ph.cl] 55)).cell? ⟨w8.heap.size, 1, none⟩ = some (.int .i64 ph.g) := (Box.new _ _ _).cell 1
      have hXz : (w8.alloc (.cells #[.int .i64 ph.r, .int .i64 ph.g, .int .i64 ph.mn, .int .i64 ph.mx, .int .i64 ph.ye, .int .i64 ph.re, .int .i64 ph.wa, .int .i64 ph.cl] 55)).heap.size = w8.heap.size + 1 := World.size_alloc _ _
      generalize (w8.alloc (.cells #[.int .i64 ph.r, .int .i64 ph.g, .int .i64 ph.mn, .int .i64 ph.mx, .int .i64 ph.ye, .int .i64 ph.re, .int .i64 ph.wa, .int .i64 ph.cl] 55)) = X at hWb e0 e1 hXz ⊢
      have hXz1 : w8.heap.size < X.heap.size := by omega
      have hbW8 : Hid (Below (w.heap.size + 1) W X) := hbH.out.trans (hWb.out.mono (by omega))
      have hbw : Hid (Below w.heap.size w X) := hW.out.trans (hbW8.out.mono (by omega))
      clear c0 c1 c2 c3 c4 c5 c6 c7 hXz k0 k1
      go_loopw [3, 19] (fun v3 v19 wx => ∃ q : Nat, q ≤ P.length ∧ v19 = .int .i64 q ∧ v3 = .bool true ∧ (∀ s, s < q → hitA P C p s = false) ∧ Below X.heap.size X wx) (fun _ v19 _ => P.length - (intOf v19).toNat)
      case atStart => exact ⟨0, by omega, rfl, rfl, by simp, Below.refl _ _⟩
      case round =>
        obtain ⟨q, hq, rfl, rfl, hno2, hb2⟩ := hrel
        have hnoH2 := Lib.hid hno2
        clear hno2
        have hz2 := hb2.size
        by_cases hqt : q < P.length
        · have hql : (q : Int) < (P.length : Int) := by omega
          have hfin : hitA P C p q = false → ∀ s, s < q + 1 → hitA P C p s = false := by
            intro h s hs
            by_cases hsq : s < q
            · exact hnoH2.out s hsq
            · obtain rfl : s = q := by omega
              exact h
          have hfinH := Lib.hid hfin
          clear hfin
          have hP8 := HA.out.below (hbw.out.trans (hb2.mono (by omega)))
          obtain ⟨_, hat⟩ := phs_at' hP8 hqt
          have c0 := hat.c0
          have c1 := hat.c1
          have c2 := hat.c2
          have c3 := hat.c3
          have c4 := hat.c4
          have c5 := hat.c5
          have c6 := hat.c6
          have c7 := hat.c7
          clear hat hP8
          generalize hqh : P.getD q pz = qh at c0 c1 c2 c3 c4 c5 c6 c7
          have hqhH := Lib.hid hqh
          clear hqh
          have d0 := (hb2.cell (p := ⟨w8.heap.size, 0, none⟩) (by dsimp only; omega)).trans e0
          have d1 := (hb2.cell (p := ⟨w8.heap.size, 1, none⟩) (by dsimp only; omega)).trans e1
          have hbWr : Below (w.heap.size + 1) W wr := hbW8.out.trans (hb2.mono (by omega))
          have k0 := (hbWr.cell (p := ⟨w.heap.size, 0, none⟩) (by dsimp only; omega)).trans j0
          have k1 := (hbWr.cell (p := ⟨w.heap.size, 1, none⟩) (by dsimp only; omega)).trans j1
          have hC8 : Hid (Ints (wr.alloc (.cells #[.int .i64 qh.r, .int .i64 qh.g, .int .i64 qh.mn, .int .i64 qh.mx, .int .i64 qh.ye, .int .i64 qh.re, .int .i64 qh.wa, .int .i64 qh.cl] 55)) w.heap.size A2 C) := HA2.out.below ((hbw.out.trans (hb2.mono (by omega))).alloc (by omega) _)
          have hzx : w8.heap.size < wr.heap.size := by omega
          have hbx : b < wr.heap.size := by omega
          have hwx : w.heap.size < wr.heap.size := by omega
          have hb2H := Lib.hid hb2
          clear hb2 hbWr hz2
          by_cases hik : p = q
          · have bn : ((p : Int) != (q : Int)) = false := by simp [hik]
            have hnd := Lib.hid (need_self (P := P) hik)
            clear hik
            go_wp2_with fail
            go_roundw
            case rel => exact ⟨q + 1, by omega, by go_num, rfl, hfinH.out (hitA_need hnd.out), by have := hb2H.out; have := this.size; go_grown⟩
            case measure => simp [intOf]; omega
          · have bn : ((p : Int) != (q : Int)) = true := by simp; omega
            by_cases hr : ph.r = qh.r
            · have br : (ph.r == qh.r) = true := by simp [hr]
              have hnd := Lib.hid (need_ring (P := P) (p := p) (q := q) hik (by rw [hphH.out, hqhH.out, hr]))
              clear hr
              go_wp2_with fail
              refine (conflict_any _ _ _ _ _ _ _ hC8.out hn).mono ?_; rintro e w' ⟨rfl, rfl⟩
              cases hcf : cf C p q
              · have hE := Lib.hid (apart_no hlt hqt (hitA_yes hnd.out hcf))
                clear hcf
                go_wp2_with fail
                try rw [Exit.noGoto_ret]
                go_ret
                exact ⟨by rw [hE.out]; rfl, by have := hbw.out; have := hb2H.out; have := hb2H.out.size; have := hbw.out.size; exact (hbw.out.trans (hb2H.out.mono (by omega))).alloc (by omega) _⟩
              · have hE := Lib.hid (hfinH.out (hitA_cf hcf))
                clear hcf
                go_wp2_with fail
                go_roundw
                case rel => exact ⟨q + 1, by omega, by go_num, rfl, hE.out, by have := hb2H.out; have := this.size; go_grown⟩
                case measure => simp [intOf]; omega
            · have br : (ph.r == qh.r) = false := by simpa using hr
              by_cases hg : ph.g = qh.g
              · have bg : (ph.g != qh.g) = false := by simp [hg]
                have hnd := Lib.hid (need_rest (P := P) (p := p) (q := q) (by rw [hphH.out, hqhH.out]; exact hr) (by rw [hphH.out, hqhH.out, hg]))
                clear hr hg
                go_wp2_with fail
                go_roundw
                case rel => exact ⟨q + 1, by omega, by go_num, rfl, hfinH.out (hitA_need hnd.out), by have := hb2H.out; have := this.size; go_grown⟩
                case measure => simp [intOf]; omega
              · have bg : (ph.g != qh.g) = true := by simpa using hg
                have hnd := Lib.hid (need_group (P := P) (p := p) (q := q) hik (by rw [hphH.out, hqhH.out]; exact hg))
                clear hr hg
                go_wp2_with fail
                refine (conflict_any _ _ _ _ _ _ _ hC8.out hn).mono ?_; rintro e w' ⟨rfl, rfl⟩
                cases hcf : cf C p q
                · have hE := Lib.hid (apart_no hlt hqt (hitA_yes hnd.out hcf))
                  clear hcf
                  go_wp2_with fail
                  try rw [Exit.noGoto_ret]
                  go_ret
                  exact ⟨by rw [hE.out]; rfl, by have := hbw.out; have := hb2H.out; have := hb2H.out.size; have := hbw.out.size; exact (hbw.out.trans (hb2H.out.mono (by omega))).alloc (by omega) _⟩
                · have hE := Lib.hid (hfinH.out (hitA_cf hcf))
                  clear hcf
                  go_wp2_with fail
                  go_roundw
                  case rel => exact ⟨q + 1, by omega, by go_num, rfl, hE.out, by have := hb2H.out; have := this.size; go_grown⟩
                  case measure => simp [intOf]; omega
        · have hql : ¬ (q : Int) < (P.length : Int) := by omega
          go_wp2_with fail
          go_roundw
          case rel =>
            refine ⟨p + 1, by omega, by go_num, rfl, fun r s hr hs => ?_, hbW8.out.trans (hb2.mono (by omega))⟩
            by_cases hrp : r < p
            · exact hnoH.out r s hrp hs
            · obtain rfl : r = p := by omega
              exact hnoH2.out s (by omega)
          case measure => simp [intOf]; omega
    · have hpl : ¬ (p : Int) < (P.length : Int) := by omega
      go_wp2_with fail
      try rw [Exit.noGoto_ret]
      go_ret
      exact ⟨by rw [apart_yes (fun r s hr hs => hnoH.out r s (by omega) hs)]; rfl, by have := hb.size; exact hW.out.trans (hb.mono (by omega))⟩

end Go.Proofs.Ytepodpdcillkmaa
