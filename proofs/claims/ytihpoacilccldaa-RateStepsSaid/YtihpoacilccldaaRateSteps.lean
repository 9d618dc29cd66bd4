/- The walk of signalbrokerlaw16.RateSteps. -/
import Derived.Test.YtihpoacilccldaaRateA
import Derived.Lib.SmallJoins
import Derived.ProofKit
namespace Go.Proofs.Ytihpoacilccldaa
open Go.RowKit Go.ChangeShapes Go.WideShapes

set_option maxHeartbeats 1000000 in
theorem steps_core (x y z r burst level : Int) (w : World) :
    Calls Try.prog 4 #[bkt x y z, .int .i64 r, .int .i64 burst, .int .i64 level] w fun e w' => e = .returned (.bool true) ∧ Below w.heap.size w w' := by
  have b0 : 0 ≤ burst % 12 := Int.emod_nonneg _ (by omega)
  have b1 : burst % 12 < 12 := Int.emod_lt_of_pos _ (by omega)
  obtain ⟨B, hB⟩ : ∃ B, B = burst % 12 := ⟨_, rfl⟩
  rw [← hB] at b0 b1
  have r0 : 0 ≤ r % (B + 1) := Int.emod_nonneg _ (by omega)
  have r1 : r % (B + 1) < B + 1 := Int.emod_lt_of_pos _ (by omega)
  obtain ⟨R, hR⟩ : ∃ R, R = r % (B + 1) := ⟨_, rfl⟩
  rw [← hR] at r0 r1
  have l0 : 0 ≤ level % (B + 1) := Int.emod_nonneg _ (by omega)
  have l1 : level % (B + 1) < B + 1 := Int.emod_lt_of_pos _ (by omega)
  obtain ⟨L, hL⟩ : ∃ L, L = level % (B + 1) := ⟨_, rfl⟩
  rw [← hL] at l0 l1
  have n0 : 0 ≤ B % 2 := Int.emod_nonneg _ (by omega)
  have n1 : B % 2 < 2 := Int.emod_lt_of_pos _ (by omega)
  have m0 : 0 ≤ r % 9 := Int.emod_nonneg _ (by omega)
  have m1 : r % 9 < 9 := Int.emod_lt_of_pos _ (by omega)
  have k0 : 0 ≤ level % 9 := Int.emod_nonneg _ (by omega)
  have k1 : level % 9 < 9 := Int.emod_lt_of_pos _ (by omega)
  have HB := Lib.hid hB; clear hB
  have HR := Lib.hid hR; clear hR
  have HL := Lib.hid hL; clear hL
  obtain ⟨x1, o1, HT⟩ : ∃ (v : Int) (b : Bool), Hid (took L R B = .tuple #[bkt v R B, .bool b]) := by
    unfold took; split
    · exact ⟨_, _, rfl⟩
    · exact ⟨_, _, rfl⟩
  go_enter Try.func4, Try.ntmps4
  go_wp2_with fail
  refine (mod_any _ _ _ (by omega) (by omega)).mono ?_; rintro e w' ⟨rfl, rfl⟩
  rw [← HB.out]
  go_wp2_with fail
  refine (mod_any _ _ _ (by omega) (by omega)).mono ?_; rintro e w' ⟨rfl, rfl⟩
  rw [← HR.out]
  go_wp2_with fail
  refine (mod_any _ _ _ (by omega) (by omega)).mono ?_; rintro e w' ⟨rfl, rfl⟩
  rw [← HL.out]
  go_wp2_with fail
  refine (take_any _ _ _ _ (by omega) (by omega)).mono ?_; rintro e w1 ⟨rfl, hb1⟩
  rw [HT.out]
  have z1 := hb1.size
  simp at z1
  have y1 : w.heap.size + 1 < w1.heap.size := by omega
  have y0 : w.heap.size < w1.heap.size := by omega
  have c0 := hb1.cell (p := ⟨w.heap.size, 0, none⟩) (by simp; omega)
  have c1 := hb1.cell (p := ⟨w.heap.size, 1, none⟩) (by simp; omega)
  have c2 := hb1.cell (p := ⟨w.heap.size, 2, none⟩) (by simp; omega)
  have d0 := hb1.cell (p := ⟨w.heap.size + 1, 0, none⟩) (by simp)
  have d1 := hb1.cell (p := ⟨w.heap.size + 1, 1, none⟩) (by simp)
  have d2 := hb1.cell (p := ⟨w.heap.size + 1, 2, none⟩) (by simp)
  simp [go_sem] at c0 c1 c2 d0 d1 d2
  go_wp2_with fail
  refine (rtake_any _ _ _ _ (by omega) (by omega)).mono ?_; rintro e w2 ⟨rfl, hb2⟩
  rw [HT.out]
  have z2 := hb2.size
  simp at z2
  have e0 := hb2.cell (p := ⟨w.heap.size, 0, none⟩) (by simp; omega)
  have e1 := hb2.cell (p := ⟨w.heap.size, 1, none⟩) (by simp; omega)
  have e2 := hb2.cell (p := ⟨w.heap.size, 2, none⟩) (by simp; omega)
  have f0 := hb2.cell (p := ⟨w.heap.size + 1, 0, none⟩) (by simp; omega)
  have f1 := hb2.cell (p := ⟨w.heap.size + 1, 1, none⟩) (by simp; omega)
  have f2 := hb2.cell (p := ⟨w.heap.size + 1, 2, none⟩) (by simp; omega)
  have g0 := hb2.cell (p := ⟨w1.heap.size, 0, none⟩) (by simp)
  have g1 := hb2.cell (p := ⟨w1.heap.size, 1, none⟩) (by simp)
  have g2 := hb2.cell (p := ⟨w1.heap.size, 2, none⟩) (by simp)
  simp [go_sem, y1, y0, c0, c1, c2, d0, d1, d2] at e0 e1 e2 f0 f1 f2 g0 g1 g2
  clear c0 c1 c2 d0 d1 d2
  have y2 : w.heap.size + 1 < w2.heap.size := by omega
  have y3 : w.heap.size < w2.heap.size := by omega
  have y4 : w1.heap.size < w2.heap.size := by omega
  go_wp2_with fail
  refine (mod_any _ _ _ (by omega) (by omega)).mono ?_; rintro e w' ⟨rfl, rfl⟩
  go_wp2_with fail
  refine (mod_any _ _ _ (by omega) (by omega)).mono ?_; rintro e w' ⟨rfl, rfl⟩
  go_wp2_with fail
  refine (mod_any _ _ _ (by omega) (by omega)).mono ?_; rintro e w' ⟨rfl, rfl⟩
  go_wp2_with fail
  have hv : validB L R B = true := by unfold validB; simp; omega
  have hbel : Below w.heap.size w ((w2.alloc (.cells #[.int .i64 x1, .int .i64 R, .int .i64 B] 24)).alloc
      (.cells #[.int .i64 (level % 9 - 1), .int .i64 (r % 9 - 1), .int .i64 (1000 + B % 2)] 24)) :=
    ((((((Below.refl _ w).alloc (Nat.le_refl _) _).alloc (by simp) _).trans (hb1.mono (by simp; omega))).alloc (by omega) _).trans (hb2.mono (by simp; omega)) |>.alloc (by omega) _).alloc (by simp; omega) _
  generalize hW : World.alloc (World.alloc w2 _) _ = W at hbel ⊢
  have s0 : w.heap.size < W.heap.size := by rw [← hW]; simp; omega
  have s1 : w.heap.size + 1 < W.heap.size := by rw [← hW]; simp; omega
  have s2 : w1.heap.size < W.heap.size := by rw [← hW]; simp; omega
  have s3 : w2.heap.size < W.heap.size := by rw [← hW]; simp; omega
  have s4 : w2.heap.size + 1 < W.heap.size := by rw [← hW]; simp
  have p0 : W.cell? ⟨w.heap.size, 0, none⟩ = some (.int .i64 x) := by rw [← hW]; simp [go_sem, y2, y3, y4, e0]
  have p1 : W.cell? ⟨w.heap.size, 1, none⟩ = some (.int .i64 y) := by rw [← hW]; simp [go_sem, y2, y3, y4, e1]
  have p2 : W.cell? ⟨w.heap.size, 2, none⟩ = some (.int .i64 z) := by rw [← hW]; simp [go_sem, y2, y3, y4, e2]
  have p3 : W.cell? ⟨w.heap.size + 1, 0, none⟩ = some (.int .i64 L) := by rw [← hW]; simp [go_sem, y2, y3, y4, f0]
  have p4 : W.cell? ⟨w.heap.size + 1, 1, none⟩ = some (.int .i64 R) := by rw [← hW]; simp [go_sem, y2, y3, y4, f1]
  have p5 : W.cell? ⟨w.heap.size + 1, 2, none⟩ = some (.int .i64 B) := by rw [← hW]; simp [go_sem, y2, y3, y4, f2]
  have p6 : W.cell? ⟨w1.heap.size, 0, none⟩ = some (.int .i64 x1) := by rw [← hW]; simp [go_sem, y2, y3, y4, g0]
  have p7 : W.cell? ⟨w1.heap.size, 1, none⟩ = some (.int .i64 R) := by rw [← hW]; simp [go_sem, y2, y3, y4, g1]
  have p8 : W.cell? ⟨w1.heap.size, 2, none⟩ = some (.int .i64 B) := by rw [← hW]; simp [go_sem, y2, y3, y4, g2]
  have q0 : W.cell? ⟨w2.heap.size, 0, none⟩ = some (.int .i64 x1) := by rw [← hW]; simp [go_sem]
  have q1 : W.cell? ⟨w2.heap.size, 1, none⟩ = some (.int .i64 R) := by rw [← hW]; simp [go_sem]
  have q2 : W.cell? ⟨w2.heap.size, 2, none⟩ = some (.int .i64 B) := by rw [← hW]; simp [go_sem]
  have q3 : W.cell? ⟨w2.heap.size + 1, 0, none⟩ = some (.int .i64 (level % 9 - 1)) := by rw [← hW]; simp [go_sem]
  have q4 : W.cell? ⟨w2.heap.size + 1, 1, none⟩ = some (.int .i64 (r % 9 - 1)) := by rw [← hW]; simp [go_sem]
  have q5 : W.cell? ⟨w2.heap.size + 1, 2, none⟩ = some (.int .i64 (1000 + B % 2)) := by rw [← hW]; simp [go_sem]
  clear hW e0 e1 e2 f0 f1 f2 g0 g1 g2 hb1 hb2 y0 y1 y2 y3 y4 z1 z2
  go_region_held3 (fun w' => Below W.heap.size W w' ∧ ∀ b o, b < W.heap.size → w'.cell? ⟨b, o, none⟩ = W.cell? ⟨b, o, none⟩) (first | exact held_start _ | exact held_step (by assumption) (by assumption))
    (first
      | (go_at_call 11; refine (new_any _ _ _).mono ?_; rintro e w' ⟨rfl, hb⟩)
      | (go_at_call 12; refine (rnew_any _ _ _).mono ?_; rintro e w' ⟨rfl, hb⟩)
      | (go_at_call 13; refine (valid_any _ _ _ _).mono ?_; rintro e w' ⟨rfl, hb⟩)
      | (go_at_call 14; refine (rvalid_any _ _ _ _).mono ?_; rintro e w' ⟨rfl, hb⟩)
      | (go_at_call 7; refine (tick_any _ _ _ _ (by omega) (by omega) (by omega) (by omega)).mono ?_; rintro e w' ⟨rfl, hb⟩)
      | (go_at_call 15; refine (rtick_any _ _ _ _ (by omega) (by omega) (by omega) (by omega)).mono ?_; rintro e w' ⟨rfl, hb⟩)
      | (go_at_call 8; refine (awake_any _).mono ?_; rintro e w' ⟨rfl, hb⟩))
  go_wp2
  go_ret
  exact ⟨rfl, hbel.trans ((And.left ‹Below W.heap.size W _ ∧ _›).mono (by omega))⟩

theorem steps_walk (v : Value) (r burst level : Int) (w : World) (h : Raw w 24 v) (_ : (Lit.int .i64 r).wf = true) (_ : (Lit.int .i64 burst).wf = true) (_ : (Lit.int .i64 level).wf = true) :
    Calls Try.prog 4 #[v, .int .i64 r, .int .i64 burst, .int .i64 level] w fun e w' => e = .returned (.bool true) ∧ Below w.heap.size w w' := by
  obtain ⟨H, enc, base, d, p, hv, ht⟩ := h
  obtain ⟨c0, c1, c2, y0, y1, y2, m, rfl, rfl, rfl, h0, h1, h2⟩ := Joins.open_agg3 Try.underlying24 (by kernel_rfl) (by kernel_rfl) hv ht
  obtain ⟨x, e0, _, _⟩ := DataW.trod_int Try.underlying3 h0
  obtain ⟨y, e1, _, _⟩ := DataW.trod_int Try.underlying3 h1
  obtain ⟨z, e2, _, _⟩ := DataW.trod_int Try.underlying3 h2
  simp at e0 e1 e2
  subst e0 e1 e2
  exact steps_core x y z r burst level w

end Go.Proofs.Ytihpoacilccldaa
