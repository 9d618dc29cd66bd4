/- Contracts of the functions of signalbroker/rate, of the reference of layer 16, and of signalbrokermake.Mod. -/
import Derived.Test.YtihpoacilccldaaBase
namespace Go.Proofs.Ytihpoacilccldaa
open Go.RowKit

theorem tmod_emod (v n : Int) (h1 : 1 ≤ n) : (if v.tmod n < 0 then v.tmod n + n else v.tmod n) = v % n := by
  have h2 : 0 ≤ v % n := Int.emod_nonneg _ (by omega)
  have h3 : v % n < n := Int.emod_lt_of_pos _ (by omega)
  rcases Int.le_total 0 v with h | h
  · rw [Int.tmod_eq_emod_of_nonneg h, if_neg (by omega)]
  · rw [Int.tmod_eq_emod]
    split <;> split <;> rename_i a b <;> simp_all <;> omega

set_option maxHeartbeats 400000 in
theorem mod_any (v n : Int) (w : World) (h1 : 1 ≤ n) (h2 : n ≤ 9223372036854775807) :
    Calls Try.prog 6 #[.int .i64 v, .int .i64 n] w fun e w' => e = .returned (.int .i64 (v % n)) ∧ w = w' := by
  have g1 : v.tmod n < n := Int.tmod_lt_of_pos _ (by omega)
  have g2 : -n < v.tmod n := by
    have := Int.lt_tmod_of_pos v (show 0 < n by omega)
    omega
  have HE := Lib.hid (tmod_emod v n h1)
  go_enter Try.func6, Try.ntmps6
  go_wp2
  · go_ret
    have h : v.tmod n < 0 := by assumption
    exact ⟨ret_i64 (by rw [← HE.out, if_pos h]), rfl⟩
  · go_ret
    have h : 0 ≤ v.tmod n := by assumption
    exact ⟨ret_i64 (by rw [← HE.out, if_neg (by omega)]), rfl⟩

/-- A bucket as a value. -/
abbrev bkt (l r b : Int) : Value := .agg #[.int .i64 l, .int .i64 r, .int .i64 b]

theorem ret_bkt {l r b l' r' b' : Int} (h1 : l = l') (h2 : r = r') (h3 : b = b') : Ending.returned (bkt l r b) = .returned (bkt l' r' b') := by rw [h1, h2, h3]

set_option maxHeartbeats 400000 in
theorem tick_any (l r b : Int) (w : World) (h1 : -100000 ≤ l) (h2 : l ≤ 100000) (h3 : -100000 ≤ r) (h4 : r ≤ 100000) :
    Calls Try.prog 7 #[bkt l r b] w fun e w' => e = .returned (bkt (min (l + r) b) r b) ∧ Below w.heap.size w w' := by
  go_enter Try.func7, Try.ntmps7
  go_wp2
  all_goals
    go_returns
    exact ⟨ret_bkt (by omega) rfl rfl, by go_grown⟩

set_option maxHeartbeats 400000 in
theorem rtick_any (l r b : Int) (w : World) (h1 : -100000 ≤ l) (h2 : l ≤ 100000) (h3 : -100000 ≤ r) (h4 : r ≤ 100000) :
    Calls Try.prog 15 #[bkt l r b] w fun e w' => e = .returned (bkt (min (l + r) b) r b) ∧ Below w.heap.size w w' := by
  go_enter Try.func15, Try.ntmps15
  go_wp2
  all_goals
    go_returns
    exact ⟨ret_bkt (by omega) rfl rfl, by go_grown⟩

/-- What Take returns. -/
def took (l r b : Int) : Value := if l ≤ 0 then .tuple #[bkt l r b, .bool false] else .tuple #[bkt (l - 1) r b, .bool true]

set_option maxHeartbeats 400000 in
theorem take_any (l r b : Int) (w : World) (h1 : -100000 ≤ l) (h2 : l ≤ 100000) :
    Calls Try.prog 9 #[bkt l r b] w fun e w' => e = .returned (took l r b) ∧ Below w.heap.size w w' := by
  by_cases h : l ≤ 0
  · have HE : Hid (took l r b = .tuple #[bkt l r b, .bool false]) := if_pos h
    go_enter Try.func9, Try.ntmps9
    go_wp2
    all_goals
      go_returns
      exact ⟨by rw [HE.out], by go_grown⟩
  · have HE : Hid (took l r b = .tuple #[bkt (l - 1) r b, .bool true]) := if_neg h
    go_enter Try.func9, Try.ntmps9
    go_wp2
    all_goals
      go_returns
      exact ⟨by rw [HE.out], by go_grown⟩

set_option maxHeartbeats 400000 in
theorem rtake_any (l r b : Int) (w : World) (h1 : -100000 ≤ l) (h2 : l ≤ 100000) :
    Calls Try.prog 10 #[bkt l r b] w fun e w' => e = .returned (took l r b) ∧ Below w.heap.size w w' := by
  by_cases h : l ≤ 0
  · have HE : Hid (took l r b = .tuple #[bkt l r b, .bool false]) := if_pos h
    go_enter Try.func10, Try.ntmps10
    go_wp2
    all_goals
      go_returns
      exact ⟨by rw [HE.out], by go_grown⟩
  · have HE : Hid (took l r b = .tuple #[bkt (l - 1) r b, .bool true]) := if_neg h
    go_enter Try.func10, Try.ntmps10
    go_wp2
    all_goals
      go_returns
      exact ⟨by rw [HE.out], by go_grown⟩

theorem new_any (r b : Int) (w : World) :
    Calls Try.prog 11 #[.int .i64 r, .int .i64 b] w fun e w' => e = .returned (bkt b r b) ∧ Below w.heap.size w w' := by
  go_enter Try.func11, Try.ntmps11
  go_wp2
  go_returns
  exact ⟨rfl, by go_grown⟩

theorem rnew_any (r b : Int) (w : World) :
    Calls Try.prog 12 #[.int .i64 r, .int .i64 b] w fun e w' => e = .returned (bkt b r b) ∧ Below w.heap.size w w' := by
  go_enter Try.func12, Try.ntmps12
  go_wp2
  go_returns
  exact ⟨rfl, by go_grown⟩

/-- The valid buckets. -/
def validB (l r b : Int) : Bool := decide (0 ≤ b ∧ b ≤ 1000 ∧ 0 ≤ r ∧ r ≤ b ∧ 0 ≤ l ∧ l ≤ b)

set_option maxHeartbeats 400000 in
theorem valid_any (l r b : Int) (w : World) :
    Calls Try.prog 13 #[bkt l r b] w fun e w' => e = .returned (.bool (validB l r b)) ∧ Below w.heap.size w w' := by
  go_enter Try.func13, Try.ntmps13
  go_wp2
  all_goals
    go_returns
    exact ⟨ret_bool (by unfold validB; first | (rw [decide_eq_decide]; omega) | (symm; rw [decide_eq_false_iff_not]; omega)), by go_grown⟩

set_option maxHeartbeats 400000 in
theorem rvalid_any (l r b : Int) (w : World) :
    Calls Try.prog 14 #[bkt l r b] w fun e w' => e = .returned (.bool (validB l r b)) ∧ Below w.heap.size w w' := by
  go_enter Try.func14, Try.ntmps14
  go_wp2
  all_goals
    go_returns
    exact ⟨ret_bool (by unfold validB; first | (rw [decide_eq_decide]; omega) | (symm; rw [decide_eq_false_iff_not]; omega)), by go_grown⟩

set_option maxHeartbeats 400000 in
theorem awake_any (w : World) :
    Calls Try.prog 8 #[] w fun e w' => e = .returned (.bool true) ∧ Below w.heap.size w w' := by
  go_enter Try.func8, Try.ntmps8
  go_wp2
  go_returns
  exact ⟨rfl, by go_grown⟩

end Go.Proofs.Ytihpoacilccldaa
