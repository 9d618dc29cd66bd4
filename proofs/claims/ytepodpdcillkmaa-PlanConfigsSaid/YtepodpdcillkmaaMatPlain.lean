/- The plain laws of layer 6: what may be added to a set without a clash; parts of a set without a clash. -/
import Derived.Test.YtepodpdcillkmaaSym
namespace Go.Proofs.Ytepodpdcillkmaa

theorem allowedTo_bit (c : List Int) (set : Int) (k q : Nat) : (allowedTo c set k).testBit q = (decide (q < k) && freeTo c set q c.length) := by
  induction k with
  | zero => simp [allowedTo]
  | succ k ih =>
    have hlt := allowedTo_lt c set k
    cases hf : freeTo c set k c.length
    · rw [allowedTo_no _ _ _ hf, ih]
      by_cases h : q = k
      · subst h; rw [hf]; simp
      · have e : decide (q < k + 1) = decide (q < k) := by rw [decide_eq_decide]; omega
        rw [e]
    · rw [allowedTo_yes _ _ _ hf, ← or_new_bit _ _ hlt, Nat.testBit_or, ih, Nat.testBit_two_pow]
      by_cases h : q = k
      · subst h; rw [hf]; simp
      · have e : decide (q < k + 1) = decide (q < k) := by rw [decide_eq_decide]; omega
        have e2 : decide (k = q) = false := by simp; omega
        rw [e, e2]; simp

theorem freeTo_iff (c : List Int) (S p : Nat) : freeTo c (S : Int) p c.length = true ↔ S.testBit p = false ∧ ∀ r, r < c.length → S.testBit r = true → cf c p r = false := by
  unfold freeTo
  rw [Bool.and_eq_true, List.all_eq_true]
  simp only [tb_nat, Bool.not_eq_true', List.mem_range, Bool.and_eq_false_iff]
  constructor
  · rintro ⟨a, b⟩
    exact ⟨a, fun r hr hs => (b r hr).resolve_left (by simp [hs])⟩
  · rintro ⟨a, b⟩
    refine ⟨a, fun r hr => ?_⟩
    by_cases hs : S.testBit r = true
    · exact .inr (b r hr hs)
    · exact .inl (by simpa using hs)

theorem or_bit (S p q : Nat) : (S ||| 2 ^ p).testBit q = (S.testBit q || decide (p = q)) := by rw [Nat.testBit_or, Nat.testBit_two_pow]

theorem noclash_iff (c : List Int) (S : Nat) : firstHit c.length (hitP c (S : Int)) = none ↔ ∀ p q, p < c.length → q < c.length → S.testBit p = true → q ≠ p → S.testBit q = true → cf c p q = false := by
  rw [firstHit_none]
  constructor
  · intro h p q hp hq h1 h2 h3
    have := h p q hp hq
    unfold hitP at this
    rw [tb_nat, tb_nat, h1, h3] at this
    have e : (q == p) = false := by simpa using h2
    rw [e] at this
    simpa using this
  · intro h p q hp hq
    unfold hitP
    rw [tb_nat, tb_nat]
    by_cases h1 : S.testBit p = true
    · by_cases h2 : q = p
      · subst h2; simp
      · by_cases h3 : S.testBit q = true
        · rw [h p q hp hq h1 h2 h3]; simp
        · have : S.testBit q = false := by simpa using h3
          rw [this]; simp
    · have : S.testBit p = false := by simpa using h1
      rw [this]; simp

theorem cf_sym {M : List Nat} (h : SymM M) (p q : Nat) (hp : p < M.length) (hq : q < M.length) : cf (ints M) p q = cf (ints M) q p := by
  rw [SymM.cf p q hp hq, SymM.cf q p hq hp, h.sym p q hp hq]

/-- What is allowed can be added without a clash, and nothing else. -/
theorem adds {M : List Nat} (h : SymM M) (S p : Nat) (hp : p < (ints M).length) (hno : firstHit (ints M).length (hitP (ints M) (S : Int)) = none) :
    freeTo (ints M) (S : Int) p (ints M).length = true ↔ (firstHit (ints M).length (hitP (ints M) ((S ||| 2 ^ p : Nat) : Int)) = none ∧ S.testBit p = false) := by
  have hl := ints_length M
  rw [freeTo_iff, noclash_iff]
  rw [noclash_iff] at hno
  constructor
  · rintro ⟨a, b⟩
    refine ⟨fun r s hr hs h1 h2 h3 => ?_, a⟩
    rw [or_bit] at h1 h3
    by_cases e1 : p = r
    · subst e1
      have h3' : S.testBit s = true := by simpa [show ¬ p = s from fun e => h2 e.symm] using h3
      exact b s hs h3'
    · have h1' : S.testBit r = true := by simpa [e1] using h1
      by_cases e2 : p = s
      · subst e2
        rw [cf_sym h r p (by omega) (by omega)]
        exact b r hr h1'
      · have h3' : S.testBit s = true := by simpa [e2] using h3
        exact hno r s hr hs h1' h2 h3'
  · rintro ⟨a, b⟩
    refine ⟨b, fun r hr hs => ?_⟩
    have hne : r ≠ p := by rintro rfl; rw [hs] at b; cases b
    exact a p r hp hr (by rw [or_bit]; simp) hne (by rw [or_bit, hs]; rfl)

theorem allowed_apart (c : List Int) (S : Nat) : allowedTo c (S : Int) c.length &&& S = 0 := by
  apply Nat.eq_of_testBit_eq
  intro q
  rw [Nat.testBit_and, allowedTo_bit, Nat.zero_testBit]
  cases hf : freeTo c (S : Int) q c.length
  · simp
  · rw [freeTo_iff] at hf
    rw [hf.1]; simp

/-- A part of a set without a clash has none. -/
theorem part_clash (c : List Int) (S P : Nat) (hsub : ∀ q, P.testBit q = true → S.testBit q = true) (h : firstHit c.length (hitP c (S : Int)) = none) : firstHit c.length (hitP c (P : Int)) = none := by
  rw [noclash_iff] at h ⊢
  exact fun p q hp hq h1 h2 h3 => h p q hp hq (hsub p h1) h2 (hsub q h3)

theorem firstHit_first (n : Nat) (h : Nat → Nat → Bool) (p q : Nat) (hf : firstHit n h = some (p, q)) : ∀ r s, r < p → s < n → h r s = false := by
  unfold firstHit at hf
  rw [List.findSome?_eq_some_iff] at hf
  obtain ⟨l1, a, l2, hl, ha, hn⟩ := hf
  rw [Option.map_eq_some_iff] at ha
  obtain ⟨x, _, hx⟩ := ha
  obtain ⟨rfl, rfl⟩ := by simpa using hx
  intro r s hr hs
  have hlen : l1.length < n := by
    have := congrArg List.length hl
    simp at this
    omega
  have hat : (List.range n)[l1.length]? = some a := by rw [hl]; simp
  have hal : l1.length = a := by
    rw [List.getElem?_range hlen] at hat
    simpa using hat
  have hrm : r ∈ l1 := by
    have h1 : (List.range n)[r]? = some r := List.getElem?_range (by omega)
    rw [hl, List.getElem?_append_left (by omega)] at h1
    exact List.mem_of_getElem? h1
  have := hn r hrm
  rw [Option.map_eq_none_iff, rowHit_none] at this
  exact this s hs

/-- The first clash stands in order. -/
theorem clash_lt {M : List Nat} (h : SymM M) (S p q : Nat) (hf : firstHit (ints M).length (hitP (ints M) (S : Int)) = some (p, q)) :
    p < q ∧ q < (ints M).length ∧ cf (ints M) p q = true ∧ S.testBit p = true ∧ S.testBit q = true := by
  have hl := ints_length M
  obtain ⟨hp, hq, hh⟩ := firstHit_spec _ _ _ _ hf
  have hfirst := firstHit_first _ _ _ _ hf
  have hh' := hh
  unfold hitP at hh'
  rw [tb_nat, tb_nat] at hh'
  simp only [Bool.and_eq_true, Bool.not_eq_true', beq_eq_false_iff_ne] at hh'
  obtain ⟨h1, h2, h3, h4⟩ := hh'
  refine ⟨?_, hq, h4, h1, h3⟩
  apply Classical.byContradiction
  intro hge
  have := hfirst q p (by omega) hp
  unfold hitP at this
  rw [tb_nat, tb_nat, h1, h3, cf_sym h q p (by omega) (by omega), h4] at this
  have e : (p == q) = false := by simpa using (fun e => h2 e.symm)
  rw [e] at this
  simp at this

theorem freeTo_part (c : List Int) (S P p : Nat) (hsub : ∀ q, P.testBit q = true → S.testBit q = true) (h : freeTo c (S : Int) p c.length = true) : freeTo c (P : Int) p c.length = true := by
  rw [freeTo_iff] at h ⊢
  refine ⟨?_, fun r hr hs => h.2 r hr (hsub r hs)⟩
  rw [Bool.eq_false_iff]
  intro hb
  have := hsub p hb
  rw [h.1] at this
  cases this
theorem allowed_part (c : List Int) (S P : Nat) (hsub : ∀ q, P.testBit q = true → S.testBit q = true) (q : Nat) (h : (allowedTo c (S : Int) c.length).testBit q = true) : (allowedTo c (P : Int) c.length).testBit q = true := by
  rw [allowedTo_bit, Bool.and_eq_true] at h ⊢
  exact ⟨h.1, freeTo_part c S P q hsub h.2⟩

end Go.Proofs.Ytepodpdcillkmaa
