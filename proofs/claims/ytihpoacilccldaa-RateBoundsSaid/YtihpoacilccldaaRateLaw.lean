/- The plain law of RateBounds: how many units can be taken between two ticks. No program in sight. -/
import Derived.Test.YtihpoacilccldaaBase
namespace Go.Proofs.Ytihpoacilccldaa

/-- The sum of the first k elements. -/
def sums (T : List Int) (k : Nat) : Int := (T.take k).sum
/-- The sum of the elements from i on to k. -/
def seg (T : List Int) (i k : Nat) : Int := sums T k - sums T i

theorem sums_snoc_le (T : List Int) (x : Int) (k : Nat) (h : k ≤ T.length) : sums (T ++ [x]) k = sums T k := by
  unfold sums; rw [List.take_append_of_le_length h]
theorem sums_snoc (T : List Int) (x : Int) : sums (T ++ [x]) (T.length + 1) = sums T T.length + x := by
  unfold sums; rw [List.take_of_length_le (by simp), List.take_length, List.sum_append]; simp
theorem sums_succ (T : List Int) (k : Nat) (h : k < T.length) : sums T (k + 1) = sums T k + T.getD k 0 := by
  unfold sums
  rw [List.take_succ_eq_append_getElem h, List.sum_append]
  simp [List.getD, h]
theorem seg_self (T : List Int) (i : Nat) : seg T i i = 0 := by unfold seg; omega
theorem seg_succ (T : List Int) (i k : Nat) (h : k < T.length) : seg T i (k + 1) = seg T i k + T.getD k 0 := by
  unfold seg; rw [sums_succ T k h]; omega

/-- What holds of the closed counts T, the open count n and the level l. -/
structure Rated (R B : Int) (T : List Int) (n l : Int) : Prop where
  closed : ∀ i k : Nat, i ≤ k → k < T.length → seg T i (k + 1) ≤ B + ((k : Int) - (i : Int)) * R
  opened : ∀ i : Nat, i ≤ T.length → seg T i T.length + n + l ≤ B + ((T.length : Int) - (i : Int)) * R
  n0 : 0 ≤ n
  l0 : 0 ≤ l
  l1 : l ≤ B
  pos : ∀ x ∈ T, 0 ≤ x

theorem Rated.start (R B : Int) (hB : 0 ≤ B) : Rated R B [] 0 B := by
  refine ⟨fun i k _ h => by simp at h, fun i h => ?_, by omega, by omega, by omega, by simp⟩
  obtain rfl : i = 0 := by simpa using h
  simp [seg]

theorem Rated.taken {R B : Int} {T : List Int} {n l : Int} (h : Rated R B T n l) (hl : 0 < l) : Rated R B T (n + 1) (l - 1) :=
  ⟨h.closed, fun i hi => by have := h.opened i hi; omega, by have := h.n0; omega, by omega, by have := h.l1; omega, h.pos⟩

theorem mul_step (k i : Nat) (R : Int) : ((k + 1 : Nat) : Int) * R - (i : Int) * R = ((k : Int) - (i : Int)) * R + R := by
  rw [Int.natCast_add, Int.add_mul, Int.sub_mul]; simp; omega

theorem Rated.shut {R B : Int} {T : List Int} {n l : Int} (h : Rated R B T n l) :
    ∀ i k : Nat, i ≤ k → k < (T ++ [n]).length → seg (T ++ [n]) i (k + 1) ≤ B + ((k : Int) - (i : Int)) * R := by
  intro i k hik hk
  simp at hk
  by_cases hlt : k < T.length
  · have := h.closed i k hik hlt
    unfold seg at this ⊢
    rw [sums_snoc_le _ _ _ (by omega), sums_snoc_le _ _ _ (by omega)]
    exact this
  · obtain rfl : k = T.length := by omega
    have := h.opened i hik
    have hl := h.l0
    unfold seg at this ⊢
    rw [sums_snoc, sums_snoc_le _ _ _ hik]
    omega

theorem Rated.ticked {R B : Int} {T : List Int} {n l : Int} (h : Rated R B T n l) (hR : 0 ≤ R) (hB : 0 ≤ B) : Rated R B (T ++ [n]) 0 (min (l + R) B) := by
  refine ⟨h.shut, fun i hi => ?_, by omega, by have := h.l0; omega, by omega, ?_⟩
  · simp only [List.length_append, List.length_singleton] at hi ⊢
    by_cases hlt : i ≤ T.length
    · have := h.opened i hlt
      have e := mul_step T.length i R
      rw [Int.sub_mul]
      unfold seg at this ⊢
      rw [sums_snoc, sums_snoc_le _ _ _ hlt]
      omega
    · obtain rfl : i = T.length + 1 := by omega
      rw [seg_self]
      have : ((T.length + 1 : Nat) : Int) - ((T.length + 1 : Nat) : Int) = 0 := by omega
      rw [this]; simp
      omega
  · intro x hx
    rcases List.mem_append.1 hx with hx | hx
    · exact h.pos x hx
    · simp at hx; subst hx; exact h.n0

/-- What the loops over the closed counts want. -/
structure Shut2 (R B : Int) (T : List Int) : Prop where
  le : ∀ i k : Nat, i ≤ k → k < T.length → seg T i (k + 1) ≤ B + ((k : Int) - (i : Int)) * R
  pos : ∀ x ∈ T, 0 ≤ x
theorem Rated.done {R B : Int} {T : List Int} {n l : Int} (h : Rated R B T n l) : Shut2 R B (T ++ [n]) := by
  refine ⟨h.shut, fun x hx => ?_⟩
  rcases List.mem_append.1 hx with hx | hx
  · exact h.pos x hx
  · simp at hx; subst hx; exact h.n0
theorem Shut2.nonneg {R B : Int} {T : List Int} (h : Shut2 R B T) (i k : Nat) (hik : i ≤ k) (hk : k ≤ T.length) : 0 ≤ seg T i k := by
  induction k with
  | zero => obtain rfl : i = 0 := by omega
            rw [seg_self]; omega
  | succ k ih =>
    by_cases hi : i = k + 1
    · subst hi; rw [seg_self]; omega
    · have h1 := ih (by omega) (by omega)
      rw [seg_succ T i k (by omega)]
      have : T.getD k 0 ∈ T := by
        rw [List.getD, List.getElem?_eq_getElem (by omega)]; exact List.getElem_mem _
      have := h.pos _ this
      omega
theorem mul_bd (k i : Nat) (R : Int) (hik : i ≤ k) (hk : k ≤ 300) (h0 : 0 ≤ R) (h1 : R ≤ 8) : 0 ≤ ((k : Int) - (i : Int)) * R ∧ ((k : Int) - (i : Int)) * R ≤ 2400 := by
  constructor
  · exact Int.mul_nonneg (by omega) h0
  · have a : ((k : Int) - (i : Int)) * R ≤ ((k : Int) - (i : Int)) * 8 := Int.mul_le_mul_of_nonneg_left h1 (by omega)
    omega

end Go.Proofs.Ytihpoacilccldaa
