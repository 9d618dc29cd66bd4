/- The example of layer 7. -/
import Derived.Test.YtepodpdcillkmaaPlanN
import Derived.Test.YtepodpdcillkmaaMonOrd
namespace Go.Proofs.Ytepodpdcillkmaa
open Go.RowKit
set_option linter.unusedVariables false
set_option linter.unusedSimpArgs false

abbrev p1 : Ph := ⟨0, 0, 1, 1, 1, 0, 0, 0⟩
theorem ex_planJ1 : planJ [p1, p1] [2, 1] 0 = true := by decide
theorem ex_planJ2 : planJ [p1, p1] [0, 0] 0 = false := by decide
theorem two_phs (W : World) (N : Nat) (h : W.heap.size = N) (p q : Ph) : Phs (W.alloc (.cells (p.cells ++ q.cells).toArray 55)) (N + 1) (some ⟨N, 0, none⟩) [p, q] := by
  subst h
  intro i hi
  have hb := fun j => (Box.new W 55 (p.cells ++ q.cells).toArray).cell j
  match i, hi with
  | 0, _ => exact ⟨_, 0, rfl, by omega, ⟨hb 0, hb 1, hb 2, hb 3, hb 4, hb 5, hb 6, hb 7⟩⟩
  | 1, _ => exact ⟨_, 0, rfl, by omega, ⟨hb 8, hb 9, hb 10, hb 11, hb 12, hb 13, hb 14, hb 15⟩⟩

set_option maxHeartbeats 1000000 in
theorem awake7_any (w : World) :
    Calls Try.prog 32 #[] w fun e w' => e = .returned (.bool true) ∧ Below w.heap.size w w' := by
  go_enter Try.func32, Try.ntmps32
  go_wp2_with fail
  have hP1 : Hid (Phs (((w.alloc (.cells #[.int .i64 0, .int .i64 0, .int .i64 1, .int .i64 1, .int .i64 1, .int .i64 0, .int .i64 0, .int .i64 0] 55)).alloc (.cells #[.int .i64 0, .int .i64 0, .int .i64 1, .int .i64 1, .int .i64 1, .int .i64 0, .int .i64 0, .int .i64 0, .int .i64 0, .int .i64 0, .int .i64 1, .int .i64 1, .int .i64 1, .int .i64 0, .int .i64 0, .int .i64 0] 55)).alloc (.cells #[.int .i64 2, .int .i64 1] 3)) (w.heap.size + 1 + 1) (some ⟨w.heap.size + 1, 0, none⟩) [p1, p1]) :=
    (two_phs _ (w.heap.size + 1) (by simp) p1 p1).below ((Below.refl _ _).alloc (by simp) _)
  have hC1 : Hid (Ints (((w.alloc (.cells #[.int .i64 0, .int .i64 0, .int .i64 1, .int .i64 1, .int .i64 1, .int .i64 0, .int .i64 0, .int .i64 0] 55)).alloc (.cells #[.int .i64 0, .int .i64 0, .int .i64 1, .int .i64 1, .int .i64 1, .int .i64 0, .int .i64 0, .int .i64 0, .int .i64 0, .int .i64 0, .int .i64 1, .int .i64 1, .int .i64 1, .int .i64 0, .int .i64 0, .int .i64 0] 55)).alloc (.cells #[.int .i64 2, .int .i64 1] 3)) (w.heap.size + 1 + 1 + 1) (some ⟨w.heap.size + 1 + 1, 0, none⟩) [2, 1]) :=
    two_ints _ (w.heap.size + 1 + 1) (by simp) 2 1
  have hB1 : Hid (Box (((w.alloc (.cells #[.int .i64 0, .int .i64 0, .int .i64 1, .int .i64 1, .int .i64 1, .int .i64 0, .int .i64 0, .int .i64 0] 55)).alloc (.cells #[.int .i64 0, .int .i64 0, .int .i64 1, .int .i64 1, .int .i64 1, .int .i64 0, .int .i64 0, .int .i64 0, .int .i64 0, .int .i64 0, .int .i64 1, .int .i64 1, .int .i64 1, .int .i64 0, .int .i64 0, .int .i64 0] 55)).alloc (.cells #[.int .i64 2, .int .i64 1] 3)) w.heap.size 55 #[.int .i64 0, .int .i64 0, .int .i64 1, .int .i64 1, .int .i64 1, .int .i64 0, .int .i64 0, .int .i64 0]) := ((Box.new w _ _).alloc _).alloc _
  have hb1 : Hid (Below w.heap.size w (((w.alloc (.cells #[.int .i64 0, .int .i64 0, .int .i64 1, .int .i64 1, .int .i64 1, .int .i64 0, .int .i64 0, .int .i64 0] 55)).alloc (.cells #[.int .i64 0, .int .i64 0, .int .i64 1, .int .i64 1, .int .i64 1, .int .i64 0, .int .i64 0, .int .i64 0, .int .i64 0, .int .i64 0, .int .i64 1, .int .i64 1, .int .i64 1, .int .i64 0, .int .i64 0, .int .i64 0] 55)).alloc (.cells #[.int .i64 2, .int .i64 1] 3))) := Lib.hid (by go_grown)
  have hz1 : (((w.alloc (.cells #[.int .i64 0, .int .i64 0, .int .i64 1, .int .i64 1, .int .i64 1, .int .i64 0, .int .i64 0, .int .i64 0] 55)).alloc (.cells #[.int .i64 0, .int .i64 0, .int .i64 1, .int .i64 1, .int .i64 1, .int .i64 0, .int .i64 0, .int .i64 0, .int .i64 0, .int .i64 0, .int .i64 1, .int .i64 1, .int .i64 1, .int .i64 0, .int .i64 0, .int .i64 0] 55)).alloc (.cells #[.int .i64 2, .int .i64 1] 3)).heap.size = w.heap.size + 1 + 1 + 1 := by simp
  generalize (((w.alloc (.cells #[.int .i64 0, .int .i64 0, .int .i64 1, .int .i64 1, .int .i64 1, .int .i64 0, .int .i64 0, .int .i64 0] 55)).alloc (.cells #[.int .i64 0, .int .i64 0, .int .i64 1, .int .i64 1, .int .i64 1, .int .i64 0, .int .i64 0, .int .i64 0, .int .i64 0, .int .i64 0, .int .i64 1, .int .i64 1, .int .i64 1, .int .i64 0, .int .i64 0, .int .i64 0] 55)).alloc (.cells #[.int .i64 2, .int .i64 1] 3)) = W at hP1 hC1 hB1 hb1 hz1 ⊢
  refine (planJ_any _ _ 2 2 [p1, p1] [2, 1] 0 W (hP1.out.more (by omega)) (by decide) (hC1.out.more (by omega)) (by decide)).mono ?_; rintro e w2 ⟨rfl, hb2⟩
  rw [ex_planJ1]
  have hbx := hB1.out.below hb2 (by omega)
  have hb3 : Hid (Below w.heap.size w w2) := hb1.out.trans (hb2.mono (by omega))
  have q0 := hbx.cell 0
  have q1 := hbx.cell 1
  have q2 := hbx.cell 2
  have q3 := hbx.cell 3
  have q4 := hbx.cell 4
  have q5 := hbx.cell 5
  have q6 := hbx.cell 6
  have q7 := hbx.cell 7
  simp at q0 q1 q2 q3 q4 q5 q6 q7
  have hz2 := hb2.size
  have hz3 : w.heap.size < w2.heap.size := by omega
  have hz4 : w.heap.size ≤ w2.heap.size := by omega
  clear hbx hb2 hz1 hz2
  go_wp2_with fail
  refine (planJ_any _ _ 2 2 [p1, p1] [0, 0] 0 _ (((two_phs w2 w2.heap.size rfl p1 p1).below ((Below.refl _ _).alloc (by simp) _)).more (by simp)) (by decide) ((two_ints _ (w2.heap.size + 1) (by simp) 0 0).more (by simp)) (by decide)).mono ?_; rintro e w4 ⟨rfl, hb4⟩
  rw [ex_planJ2]
  go_wp2_with fail
  go_ret
  exact ⟨rfl, by have := hb3.out; exact ((hb3.out.alloc hz4 _).alloc (by simp; omega) _).trans (hb4.mono (by simp; omega))⟩

end Go.Proofs.Ytepodpdcillkmaa
