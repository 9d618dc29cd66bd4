/- The walk of signalbrokerlaw16.RateFills. -/
import Derived.Test.YtihpoacilccldaaRateA
namespace Go.Proofs.Ytihpoacilccldaa
open Go.RowKit

/-- The level after k ticks. -/
def fillsTo (L R B : Int) (k : Nat) : Int := min (L + k * R) B
theorem fillsTo_zero (L R B : Int) (h : L ≤ B) : fillsTo L R B 0 = L := by unfold fillsTo; simp; omega
theorem fillsTo_lo (L R B : Int) (k : Nat) (h : 0 ≤ L) (hR : 0 ≤ R) (hB : 0 ≤ B) : 0 ≤ fillsTo L R B k := by
  unfold fillsTo
  have := Int.mul_nonneg (Int.natCast_nonneg k) hR
  omega
theorem fillsTo_hi (L R B : Int) (k : Nat) : fillsTo L R B k ≤ B := by unfold fillsTo; omega
theorem fillsTo_succ (L R B : Int) (k : Nat) (hR : 0 ≤ R) : min (fillsTo L R B k + R) B = fillsTo L R B (k + 1) := by
  unfold fillsTo
  have e : ((k + 1 : Nat) : Int) * R = k * R + R := by rw [Int.natCast_add, Int.add_mul]; simp
  rw [e]; omega

theorem fillsTo_still (L R B : Int) (k : Nat) (h : L ≤ B) (h0 : R = 0) : fillsTo L R B k = L := by
  unfold fillsTo; rw [h0]; simp; omega
theorem fillsTo_full (L R B : Int) (k : Nat) (h : 0 ≤ L) (hk : B ≤ k) (h0 : 1 ≤ R) : fillsTo L R B k = B := by
  unfold fillsTo
  have : (k : Int) * 1 ≤ k * R := Int.mul_le_mul_of_nonneg_left h0 (by omega)
  omega
theorem fillsTo_up (L R B : Int) (k : Nat) (hR : 0 ≤ R) : fillsTo L R B k ≤ fillsTo L R B (k + 1) := by
  have h1 := fillsTo_succ L R B k hR
  have h2 := fillsTo_hi L R B k
  omega
theorem fillsTo_by (L R B : Int) (k : Nat) (hR : 0 ≤ R) : fillsTo L R B (k + 1) - fillsTo L R B k ≤ R := by
  have h1 := fillsTo_succ L R B k hR
  omega

set_option maxHeartbeats 400000 in
theorem fills_walk (r burst level : Int) (w : World) (_ : (Lit.int .i64 r).wf = true) (_ : (Lit.int .i64 burst).wf = true) (_ : (Lit.int .i64 level).wf = true) :
    Calls Try.prog 3 #[.int .i64 r, .int .i64 burst, .int .i64 level] w fun e w' => e = .returned (.bool true) ∧ Below w.heap.size w w' := by
  have b0 : 0 ≤ burst % 40 := Int.emod_nonneg _ (by omega)
  have b1 : burst % 40 < 40 := Int.emod_lt_of_pos _ (by omega)
  obtain ⟨B, hB⟩ : ∃ B, B = burst % 40 := ⟨_, rfl⟩
  rw [← hB] at b0 b1
  have r0 : 0 ≤ r % (B + 1) := Int.emod_nonneg _ (by omega)
  have r1 : r % (B + 1) < B + 1 := Int.emod_lt_of_pos _ (by omega)
  obtain ⟨R, hR⟩ : ∃ R, R = r % (B + 1) := ⟨_, rfl⟩
  rw [← hR] at r0 r1
  have l0 : 0 ≤ level % (B + 1) := Int.emod_nonneg _ (by omega)
  have l1 : level % (B + 1) < B + 1 := Int.emod_lt_of_pos _ (by omega)
  obtain ⟨L, hL⟩ : ∃ L, L = level % (B + 1) := ⟨_, rfl⟩
  rw [← hL] at l0 l1
  have HB := Lib.hid hB; clear hB
  have HR := Lib.hid hR; clear hR
  have HL := Lib.hid hL; clear hL
  go_enter Try.func3, Try.ntmps3
  go_wp2_with fail
  refine (mod_any _ _ _ (by omega) (by omega)).mono ?_; rintro e w' ⟨rfl, rfl⟩
  rw [← HB.out]
  go_wp2_with fail
  refine (mod_any _ _ _ (by omega) (by omega)).mono ?_; rintro e w' ⟨rfl, rfl⟩
  rw [← HR.out]
  go_wp2_with fail
  refine (mod_any _ _ _ (by omega) (by omega)).mono ?_; rintro e w' ⟨rfl, rfl⟩
  rw [← HL.out]
  go_wp2_with fail
  go_loopw [25] (fun v25 wr => ∃ k : Nat, (k : Int) ≤ B ∧ v25 = .int .i64 k ∧ Box wr w.heap.size 24 #[.int .i64 L, .int .i64 R, .int .i64 B] ∧
      Box wr (w.heap.size + 1) 24 #[.int .i64 (fillsTo L R B k), .int .i64 R, .int .i64 B] ∧ Below w.heap.size w wr) (fun v25 _ => (B - intOf v25).toNat)
  case atStart => exact ⟨0, by omega, rfl, (Box.new _ _ _).alloc _, by rw [fillsTo_zero _ _ _ (by omega)]; exact boxNew2 _ _ _ _, by go_grown⟩
  case round =>
    obtain ⟨k, hk, rfl, hb0, hb1, hbel⟩ := hrel
    have c0 := hb1.cell 0
    have c1 := hb1.cell 1
    have c2 := hb1.cell 2
    simp at c0 c1 c2
    have f0 := hb1.frozen 0
    have f1 := hb1.frozen 1
    have f2 := hb1.frozen 2
    have hz := hb1.lt
    have x0 := fillsTo_lo L R B k (by omega) (by omega) (by omega)
    have x1 := fillsTo_hi L R B k
    by_cases hlt : (k : Int) < B
    · have HS := Lib.hid (fillsTo_succ L R B k r0)
      have y0 := fillsTo_up L R B k r0
      have y1 := fillsTo_by L R B k r0
      have y2 := fillsTo_hi L R B (k + 1)
      go_wp2_with fail
      refine (tick_any _ _ _ _ (by omega) (by omega) (by omega) (by omega)).mono ?_; rintro e w1 ⟨rfl, hb⟩
      rw [HS.out]
      have d0 := (hb1.below hb hz).cell 0
      have d1 := (hb1.below hb hz).cell 1
      have d2 := (hb1.below hb hz).cell 2
      simp at d0 d1 d2
      have g0 := (hb1.below hb hz).frozen 0
      have g1 := (hb1.below hb hz).frozen 1
      have g2 := (hb1.below hb hz).frozen 2
      have hz1 := (hb1.below hb hz).lt
      clear c0 c1 c2 f0 f1 f2
      go_wp2_with fail
      go_round
      case rel =>
        go_light
        exact ⟨k + 1, by omega, by go_num, (((hb0.below hb (by omega)).far (by simp) _).far (by simp) _ |>.far (by simp) _).alloc _,
          (Box.put_eq (Box.put_eq (Box.put_eq (hb1.below hb hz) rfl) rfl) rfl).alloc _,
          (((((hbel.trans (hb.mono (by omega))).setCell (by simp) _).setCell (by simp) _).setCell (by simp) _).alloc (by simp; omega) _)⟩
      case measure => simp [intOf]; omega
    · obtain rfl : (k : Int) = B := by omega
      have e0 := hb0.cell 0
      have e1 := hb0.cell 1
      have e2 := hb0.cell 2
      simp at e0 e1 e2
      by_cases h0 : R = 0
      · have hx := fillsTo_still L R k k (by omega) h0
        have hq : (R == 0) = true := by simp [h0]
        have hq2 : (fillsTo L R k k == L) = true := by rw [hx]; simp
        clear hx h0
        go_wp2_with fail
        refine (awake_any _).mono ?_; rintro e w1 ⟨rfl, hb⟩
        go_wp2_with fail
        go_ret
        exact ⟨rfl, hbel.trans (hb.mono (by omega))⟩
      · have hx := fillsTo_full L R k k (by omega) (by omega) (by omega)
        have hq : (R == 0) = false := by simp [h0]
        have hq1 : decide (0 < R) = true := by simp; omega
        have hq2 : (fillsTo L R k k == (k : Int)) = true := by rw [hx]; simp
        clear hx h0
        go_wp2_with fail
        refine (awake_any _).mono ?_; rintro e w1 ⟨rfl, hb⟩
        go_wp2_with fail
        go_ret
        exact ⟨rfl, hbel.trans (hb.mono (by omega))⟩

end Go.Proofs.Ytihpoacilccldaa
