/- Phases: plan.within, plan.phase and the document's. Printed by tools/genPlanA.py. -/
import Derived.Test.YtepodpdcillkmaaPhase
namespace Go.Proofs.Ytepodpdcillkmaa
open Go.RowKit
set_option linter.unusedVariables false
set_option linter.unusedSimpArgs false

def wi (n lo hi : Int) : Bool := decide (lo ≤ n) && decide (n ≤ hi)
theorem wi_yes {n lo hi : Int} (h : wi n lo hi = true) : lo ≤ n ∧ n ≤ hi := by unfold wi at h; simpa using h
def phOk (p : Ph) : Bool := wi p.r 0 1 && (wi p.g 0 3 && (wi p.mn 1 60 && (wi p.mx 1 60 && (wi p.ye 1 60 && (wi p.re 0 60 && (wi p.wa 0 60 && (wi p.cl 0 60 && (decide (p.mn ≤ p.mx) && (decide (p.wa + p.cl ≤ p.mx) && ((p.wa == 0) == (p.cl == 0)))))))))))
def phOkR (p : Ph) : Bool := wi p.r 0 1 && (wi p.g 0 3 && (wi p.mn 1 60 && (wi p.mx p.mn 60 && (wi p.ye 1 60 && (wi p.re 0 60 && (wi p.wa 0 60 && (wi p.cl 0 60 && (decide (p.wa + p.cl ≤ p.mx) && ((p.wa == 0) == (p.cl == 0))))))))))
theorem phOkR_eq (p : Ph) : phOkR p = phOk p := by
  rw [Bool.eq_iff_iff]
  simp only [phOkR, phOk, wi, Bool.and_eq_true, decide_eq_true_eq]
  constructor
  · rintro ⟨a, b, c, d, e, f, g, h, i, j⟩
    exact ⟨a, b, c, ⟨by omega, by omega⟩, e, f, g, h, by omega, i, j⟩
  · rintro ⟨a, b, c, d, e, f, g, h, i, j, k⟩
    exact ⟨a, b, c, ⟨by omega, by omega⟩, e, f, g, h, j, k⟩

theorem within_any (n lo hi : Int) (w : World) :
    Calls Try.prog 56 #[.int .i64 n, .int .i64 lo, .int .i64 hi] w fun e w' => e = .returned (.bool (wi n lo hi)) ∧ w = w' := by
  go_enter Try.func56, Try.ntmps56
  by_cases h1 : lo ≤ n
  · have hE : Hid (wi n lo hi = decide (n ≤ hi)) := Lib.hid (by unfold wi; simp [h1])
    go_wp2_with fail
    go_ret
    exact ⟨by rw [hE.out]; rfl, rfl⟩
  · have hE : Hid (wi n lo hi = false) := Lib.hid (by unfold wi; simp [h1])
    go_wp2_with fail
    go_ret
    exact ⟨by rw [hE.out]; rfl, rfl⟩

theorem rwithin_any (n lo hi : Int) (w : World) :
    Calls Try.prog 59 #[.int .i64 n, .int .i64 lo, .int .i64 hi] w fun e w' => e = .returned (.bool (wi n lo hi)) ∧ w = w' := by
  go_enter Try.func59, Try.ntmps59
  by_cases h1 : lo ≤ n
  · have hE : Hid (wi n lo hi = decide (n ≤ hi)) := Lib.hid (by unfold wi; simp [h1])
    go_wp2_with fail
    go_ret
    exact ⟨by rw [hE.out]; rfl, rfl⟩
  · have hE : Hid (wi n lo hi = false) := Lib.hid (by unfold wi; simp [h1])
    go_wp2_with fail
    go_ret
    exact ⟨by rw [hE.out]; rfl, rfl⟩

set_option maxHeartbeats 2000000 in
theorem phase_any (p : Ph) (w : World) :
    Calls Try.prog 57 #[p.val] w fun e w' => e = .returned (.bool (phOk p)) ∧ Below w.heap.size w w' := by
  go_enter Try.func57, Try.ntmps57
  go_wp2_with fail
  refine (within_any _ _ _ _).mono ?_; rintro e w' ⟨rfl, rfl⟩
  cases h0 : wi p.r 0 1
  · have hE : Hid (phOk p = false) := Lib.hid (by simp [phOk, h0])
    go_wp2_with fail
    go_ret
    exact ⟨by rw [hE.out]; rfl, by go_grown⟩
  go_wp2_with fail
  refine (within_any _ _ _ _).mono ?_; rintro e w' ⟨rfl, rfl⟩
  cases h1 : wi p.g 0 3
  · have hE : Hid (phOk p = false) := Lib.hid (by simp [phOk, h0, h1])
    go_wp2_with fail
    go_ret
    exact ⟨by rw [hE.out]; rfl, by go_grown⟩
  go_wp2_with fail
  refine (within_any _ _ _ _).mono ?_; rintro e w' ⟨rfl, rfl⟩
  cases h2 : wi p.mn 1 60
  · have hE : Hid (phOk p = false) := Lib.hid (by simp [phOk, h0, h1, h2])
    go_wp2_with fail
    go_ret
    exact ⟨by rw [hE.out]; rfl, by go_grown⟩
  go_wp2_with fail
  refine (within_any _ _ _ _).mono ?_; rintro e w' ⟨rfl, rfl⟩
  cases h3 : wi p.mx 1 60
  · have hE : Hid (phOk p = false) := Lib.hid (by simp [phOk, h0, h1, h2, h3])
    go_wp2_with fail
    go_ret
    exact ⟨by rw [hE.out]; rfl, by go_grown⟩
  go_wp2_with fail
  refine (within_any _ _ _ _).mono ?_; rintro e w' ⟨rfl, rfl⟩
  cases h4 : wi p.ye 1 60
  · have hE : Hid (phOk p = false) := Lib.hid (by simp [phOk, h0, h1, h2, h3, h4])
    go_wp2_with fail
    go_ret
    exact ⟨by rw [hE.out]; rfl, by go_grown⟩
  go_wp2_with fail
  refine (within_any _ _ _ _).mono ?_; rintro e w' ⟨rfl, rfl⟩
  cases h5 : wi p.re 0 60
  · have hE : Hid (phOk p = false) := Lib.hid (by simp [phOk, h0, h1, h2, h3, h4, h5])
    go_wp2_with fail
    go_ret
    exact ⟨by rw [hE.out]; rfl, by go_grown⟩
  go_wp2_with fail
  refine (within_any _ _ _ _).mono ?_; rintro e w' ⟨rfl, rfl⟩
  cases h6 : wi p.wa 0 60
  · have hE : Hid (phOk p = false) := Lib.hid (by simp [phOk, h0, h1, h2, h3, h4, h5, h6])
    go_wp2_with fail
    go_ret
    exact ⟨by rw [hE.out]; rfl, by go_grown⟩
  go_wp2_with fail
  refine (within_any _ _ _ _).mono ?_; rintro e w' ⟨rfl, rfl⟩
  cases h7 : wi p.cl 0 60
  · have hE : Hid (phOk p = false) := Lib.hid (by simp [phOk, h0, h1, h2, h3, h4, h5, h6, h7])
    go_wp2_with fail
    go_ret
    exact ⟨by rw [hE.out]; rfl, by go_grown⟩
  have b6 := wi_yes h6
  have b7 := wi_yes h7
  have b3 := wi_yes h3
  have hE : Hid (phOk p = (decide (p.mn ≤ p.mx) && (decide (p.wa + p.cl ≤ p.mx) && ((p.wa == 0) == (p.cl == 0))))) := Lib.hid (by simp [phOk, h0, h1, h2, h3, h4, h5, h6, h7])
  clear h0 h1 h2 h3 h4 h5 h6 h7
  go_wp2_with fail
  all_goals
    go_ret
    refine ⟨?_, by go_grown⟩
    rw [hE.out]
    apply ret_bool
    show _ = _
    simp_all
    try (intros; exfalso; omega)

set_option maxHeartbeats 2000000 in
theorem rphase_any (p : Ph) (w : World) :
    Calls Try.prog 60 #[p.val] w fun e w' => e = .returned (.bool (phOkR p)) ∧ Below w.heap.size w w' := by
  go_enter Try.func60, Try.ntmps60
  go_wp2_with fail
  refine (rwithin_any _ _ _ _).mono ?_; rintro e w' ⟨rfl, rfl⟩
  cases h0 : wi p.r 0 1
  · have hE : Hid (phOkR p = false) := Lib.hid (by simp [phOkR, h0])
    go_wp2_with fail
    go_ret
    exact ⟨by rw [hE.out]; rfl, by go_grown⟩
  go_wp2_with fail
  refine (rwithin_any _ _ _ _).mono ?_; rintro e w' ⟨rfl, rfl⟩
  cases h1 : wi p.g 0 3
  · have hE : Hid (phOkR p = false) := Lib.hid (by simp [phOkR, h0, h1])
    go_wp2_with fail
    go_ret
    exact ⟨by rw [hE.out]; rfl, by go_grown⟩
  go_wp2_with fail
  refine (rwithin_any _ _ _ _).mono ?_; rintro e w' ⟨rfl, rfl⟩
  cases h2 : wi p.mn 1 60
  · have hE : Hid (phOkR p = false) := Lib.hid (by simp [phOkR, h0, h1, h2])
    go_wp2_with fail
    go_ret
    exact ⟨by rw [hE.out]; rfl, by go_grown⟩
  go_wp2_with fail
  refine (rwithin_any _ _ _ _).mono ?_; rintro e w' ⟨rfl, rfl⟩
  cases h3 : wi p.mx p.mn 60
  · have hE : Hid (phOkR p = false) := Lib.hid (by simp [phOkR, h0, h1, h2, h3])
    go_wp2_with fail
    go_ret
    exact ⟨by rw [hE.out]; rfl, by go_grown⟩
  go_wp2_with fail
  refine (rwithin_any _ _ _ _).mono ?_; rintro e w' ⟨rfl, rfl⟩
  cases h4 : wi p.ye 1 60
  · have hE : Hid (phOkR p = false) := Lib.hid (by simp [phOkR, h0, h1, h2, h3, h4])
    go_wp2_with fail
    go_ret
    exact ⟨by rw [hE.out]; rfl, by go_grown⟩
  go_wp2_with fail
  refine (rwithin_any _ _ _ _).mono ?_; rintro e w' ⟨rfl, rfl⟩
  cases h5 : wi p.re 0 60
  · have hE : Hid (phOkR p = false) := Lib.hid (by simp [phOkR, h0, h1, h2, h3, h4, h5])
    go_wp2_with fail
    go_ret
    exact ⟨by rw [hE.out]; rfl, by go_grown⟩
  go_wp2_with fail
  refine (rwithin_any _ _ _ _).mono ?_; rintro e w' ⟨rfl, rfl⟩
  cases h6 : wi p.wa 0 60
  · have hE : Hid (phOkR p = false) := Lib.hid (by simp [phOkR, h0, h1, h2, h3, h4, h5, h6])
    go_wp2_with fail
    go_ret
    exact ⟨by rw [hE.out]; rfl, by go_grown⟩
  go_wp2_with fail
  refine (rwithin_any _ _ _ _).mono ?_; rintro e w' ⟨rfl, rfl⟩
  cases h7 : wi p.cl 0 60
  · have hE : Hid (phOkR p = false) := Lib.hid (by simp [phOkR, h0, h1, h2, h3, h4, h5, h6, h7])
    go_wp2_with fail
    go_ret
    exact ⟨by rw [hE.out]; rfl, by go_grown⟩
  have b6 := wi_yes h6
  have b7 := wi_yes h7
  have b3 := wi_yes h3
  have hE : Hid (phOkR p = ((decide (p.wa + p.cl ≤ p.mx) && ((p.wa == 0) == (p.cl == 0))))) := Lib.hid (by simp [phOkR, h0, h1, h2, h3, h4, h5, h6, h7])
  clear h0 h1 h2 h3 h4 h5 h6 h7
  go_wp2_with fail
  all_goals
    go_ret
    refine ⟨?_, by go_grown⟩
    rw [hE.out]
    apply ret_bool
    show _ = _
    simp_all
    try (intros; exfalso; omega)

end Go.Proofs.Ytepodpdcillkmaa
