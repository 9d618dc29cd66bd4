/- Plain lemmas on symmetric tables of bits. No program in sight. -/
import Derived.Test.YtepodpdcillkmaaMatD
namespace Go.Proofs.Ytepodpdcillkmaa

/-- M is a symmetric table of bits without a bit on the diagonal. -/
structure SymM (M : List Nat) : Prop where
  lt : ∀ p, p < M.length → M.getD p 0 < 2 ^ M.length
  sym : ∀ p q, p < M.length → q < M.length → (M.getD p 0).testBit q = (M.getD q 0).testBit p
  self : ∀ p, p < M.length → (M.getD p 0).testBit p = false

/-- The table with the pair (i, k) laid in. -/
def laid (M : List Nat) (i k : Nat) : List Nat := (M.set i (M.getD i 0 ||| 2 ^ k)).set k (M.getD k 0 ||| 2 ^ i)
theorem laid_length (M : List Nat) (i k : Nat) : (laid M i k).length = M.length := by simp [laid]
theorem laid_getD (M : List Nat) (i k p : Nat) (hne : i ≠ k) (hi : i < M.length) (hk : k < M.length) :
    (laid M i k).getD p 0 = if p = k then M.getD k 0 ||| 2 ^ i else if p = i then M.getD i 0 ||| 2 ^ k else M.getD p 0 := by
  unfold laid
  simp only [List.getD, List.getElem?_set, List.length_set]
  by_cases h1 : k = p
  · subst h1; simp [hk]
  · rw [if_neg h1, if_neg (Ne.symm h1)]
    by_cases h2 : i = p
    · subst h2; simp [hi]
    · rw [if_neg h2, if_neg (Ne.symm h2)]
theorem SymM.laid {M : List Nat} (h : SymM M) {i k : Nat} (hki : k < i) (hi : i < M.length) : SymM (laid M i k) := by
  have hk : k < M.length := by omega
  have hg := fun p => laid_getD M i k p (by omega) hi hk
  refine ⟨fun p hp => ?_, fun p q hp hq => ?_, fun p hp => ?_⟩
  · rw [laid_length] at hp ⊢
    rw [hg p]
    split
    · exact Nat.or_lt_two_pow (h.lt k hk) (Nat.pow_lt_pow_right (by omega) hi)
    · split
      · exact Nat.or_lt_two_pow (h.lt i hi) (Nat.pow_lt_pow_right (by omega) hk)
      · exact h.lt p hp
  · rw [laid_length] at hp hq
    rw [hg p, hg q]
    have s1 := h.sym p q hp hq
    by_cases a : p = k <;> by_cases b : q = k <;> by_cases c : p = i <;> by_cases d : q = i <;>
      simp_all [Nat.testBit_or, Nat.testBit_two_pow] <;> omega
  · rw [laid_length] at hp
    rw [hg p]
    have s1 := h.self p hp
    by_cases a : p = k <;> by_cases c : p = i <;> simp_all [Nat.testBit_or, Nat.testBit_two_pow] <;> omega
theorem SymM.zero (n : Nat) : SymM (List.replicate n 0) := by
  have hg : ∀ p, (List.replicate n 0).getD p 0 = 0 := fun p => by
    simp only [List.getD, List.getElem?_replicate]; split <;> rfl
  refine ⟨fun p hp => ?_, fun p q hp hq => ?_, fun p hp => ?_⟩
  · rw [hg]; exact Nat.pow_pos (by omega)
  · rw [hg, hg]; simp
  · rw [hg]; simp

/-- The table as ints. -/
def ints (M : List Nat) : List Int := M.map fun (x : Nat) => (x : Int)
theorem ints_length (M : List Nat) : (ints M).length = M.length := by simp [ints]
theorem ints_getD (M : List Nat) (p : Nat) : (ints M).getD p 0 = ((M.getD p 0 : Nat) : Int) := by
  simp only [ints, List.getD, List.getElem?_map]
  cases M[p]? <;> rfl
theorem SymM.valid {M : List Nat} (h : SymM M) (h1 : 1 ≤ M.length) (h8 : M.length ≤ 8) : validM (ints M) = true := by
  refine validM_yes (by rw [ints_length]; exact h1) (by rw [ints_length]; exact h8) (fun p hp => ?_)
  rw [ints_length] at hp
  refine rowOk_yes ⟨?_, ?_⟩ ?_ (fun q hq => ?_)
  · rw [ints_getD]; omega
  · rw [ints_getD, ints_length]
    have := h.lt p hp
    have e : ((2 ^ M.length : Nat) : Int) = 2 ^ M.length := by simp
    omega
  · rw [ints_getD, tb_nat]; exact h.self p hp
  · rw [ints_length] at hq
    rw [ints_getD, ints_getD, tb_nat, tb_nat, h.sym p q hp hq]; simp
theorem SymM.cf {M : List Nat} (p q : Nat) (hp : p < M.length) (hq : q < M.length) : cf (ints M) p q = (M.getD p 0).testBit q := by
  rw [cf_nat _ _ _ (by rw [ints_length]; exact hp) (by rw [ints_length]; exact hq), ints_getD, tb_nat]
/-- With a symmetric table the two hits are one. -/
theorem SymM.hits {M : List Nat} (h : SymM M) (set : Int) : firstHit (ints M).length (hitP (ints M) set) = firstHit (ints M).length (hitR (ints M) set) := by
  refine firstHit_congr _ _ _ fun p q hp hq => ?_
  rw [ints_length] at hp hq
  show (tb set p && (!(q == p) && (tb set q && Go.Proofs.Ytepodpdcillkmaa.cf (ints M) p q))) = (tb set p && (tb set q && Go.Proofs.Ytepodpdcillkmaa.cf (ints M) p q))
  by_cases e : q = p
  · subst e
    rw [SymM.cf q q hp hp, h.self q hp]; simp
  · have e1 : (q == p) = false := by simpa using e
    rw [e1]; rfl

end Go.Proofs.Ytepodpdcillkmaa
