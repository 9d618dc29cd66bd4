/- The plain law of layer 7: a made junction is valid; what one pair of bits changes. -/
import Derived.Test.YtepodpdcillkmaaPlanC
namespace Go.Proofs.Ytepodpdcillkmaa
open Go.RowKit
set_option linter.unusedVariables false
set_option linter.unusedSimpArgs false

/-- The table with the pair (i, k) turned. -/
def flipT (M : List Nat) (i k : Nat) : List Nat := (M.set i (M.getD i 0 ^^^ 2 ^ k)).set k (M.getD k 0 ^^^ 2 ^ i)
theorem flipT_length (M : List Nat) (i k : Nat) : (flipT M i k).length = M.length := by simp [flipT]
theorem flipT_getD (M : List Nat) (i k p : Nat) (hne : i ≠ k) (hi : i < M.length) (hk : k < M.length) :
    (flipT M i k).getD p 0 = if p = k then M.getD k 0 ^^^ 2 ^ i else if p = i then M.getD i 0 ^^^ 2 ^ k else M.getD p 0 := by
  unfold flipT
  simp only [List.getD, List.getElem?_set, List.length_set]
  by_cases h1 : k = p
  · subst h1; simp [hk]
  · rw [if_neg h1, if_neg (Ne.symm h1)]
    by_cases h2 : i = p
    · subst h2; simp [hi]
    · rw [if_neg h2, if_neg (Ne.symm h2)]
theorem flipT_bit (M : List Nat) (i k p q : Nat) (hne : i ≠ k) (hi : i < M.length) (hk : k < M.length) :
    ((flipT M i k).getD p 0).testBit q = ((M.getD p 0).testBit q ^^ (decide (p = i ∧ q = k) || decide (p = k ∧ q = i))) := by
  rw [flipT_getD M i k p hne hi hk]
  by_cases a : p = k
  · subst a
    rw [if_pos rfl, Nat.testBit_xor, Nat.testBit_two_pow]
    by_cases b : i = q
    · subst b; simp [hne]
    · have : ¬ q = i := fun e => b e.symm
      simp [b, this, Ne.symm hne]
  · rw [if_neg a]
    by_cases c : p = i
    · subst c
      rw [if_pos rfl, Nat.testBit_xor, Nat.testBit_two_pow]
      by_cases b : k = q
      · subst b; simp
      · have : ¬ q = k := fun e => b e.symm
        simp [b, this, a]
    · rw [if_neg c]
      simp [a, c]
theorem SymM.flip {M : List Nat} (h : SymM M) {i k : Nat} (hne : i ≠ k) (hi : i < M.length) (hk : k < M.length) : SymM (flipT M i k) := by
  refine ⟨fun p hp => ?_, fun p q hp hq => ?_, fun p hp => ?_⟩
  · rw [flipT_length] at hp ⊢
    rw [flipT_getD M i k p hne hi hk]
    split
    · exact Nat.xor_lt_two_pow (h.lt k hk) (Nat.pow_lt_pow_right (by omega) hi)
    · split
      · exact Nat.xor_lt_two_pow (h.lt i hi) (Nat.pow_lt_pow_right (by omega) hk)
      · exact h.lt p hp
  · rw [flipT_length] at hp hq
    rw [flipT_bit M i k p q hne hi hk, flipT_bit M i k q p hne hi hk, h.sym p q hp hq]
    congr 1
    by_cases a : p = k <;> by_cases b : q = k <;> by_cases c : p = i <;> by_cases d : q = i <;> simp [a, b, c, d]
  · rw [flipT_length] at hp
    rw [flipT_bit M i k p p hne hi hk, h.self p hp]
    by_cases a : p = k <;> by_cases c : p = i <;> simp_all <;> omega

theorem need_symm (P : List Ph) (p q : Nat) : need P p q = need P q p := by
  unfold need
  rw [Bool.beq_comm (a := p), Bool.beq_comm (a := (P.getD p pz).r), Bool.beq_comm (a := (P.getD p pz).g)]
theorem conf_need (P : List Ph) (ex : Bool) (p q : Nat) (h : need P p q = true) : conf P ex p q = true := by
  unfold need at h
  unfold conf
  rw [Bool.and_eq_true, Bool.or_eq_true] at h
  rw [h.1, Bool.true_and]
  rcases h.2 with h2 | h2 <;> rw [h2] <;> simp
theorem table_bit (P : List Ph) (ex : Bool) (p q : Nat) (hp : p < P.length) (hq : q < P.length) : ((tableOf P ex).getD p 0).testBit q = conf P ex p q := by
  rw [tableOf_getD _ _ _ hp, bitsTo_bit, decide_eq_true hq, Bool.true_and]
theorem apart_table (P : List Ph) (ex : Bool) : apart P (ints (tableOf P ex)) = true := by
  refine apart_yes fun p q hp hq => ?_
  cases hn : need P p q
  · exact hitA_need hn
  · refine hitA_cf ?_
    rw [SymM.cf p q (by rw [tableOf_length]; exact hp) (by rw [tableOf_length]; exact hq), table_bit P ex p q hp hq]
    exact conf_need P ex p q hn
theorem apart_flip (P : List Ph) (ex : Bool) (i k : Nat) (hne : i ≠ k) (hi : i < P.length) (hk : k < P.length) : apart P (ints (flipT (tableOf P ex) i k)) = !need P i k := by
  have hl := tableOf_length P ex
  have hcf : ∀ p q, p < P.length → q < P.length → cf (ints (flipT (tableOf P ex) i k)) p q = (conf P ex p q ^^ (decide (p = i ∧ q = k) || decide (p = k ∧ q = i))) := by
    intro p q hp hq
    rw [SymM.cf p q (by rw [flipT_length, hl]; exact hp) (by rw [flipT_length, hl]; exact hq), flipT_bit _ i k p q hne (by omega) (by omega), table_bit P ex p q hp hq]
  cases hn : need P i k
  · refine apart_yes fun p q hp hq => ?_
    cases hpq : need P p q
    · exact hitA_need hpq
    · refine hitA_cf ?_
      have hnot : ¬ ((p = i ∧ q = k) ∨ (p = k ∧ q = i)) := by
        rintro (⟨rfl, rfl⟩ | ⟨rfl, rfl⟩)
        · rw [hn] at hpq; cases hpq
        · rw [need_symm, hn] at hpq; cases hpq
      rw [hcf p q hp hq, conf_need P ex p q hpq, decide_eq_false (fun h => hnot (.inl h)), decide_eq_false (fun h => hnot (.inr h))]
      rfl
  · refine apart_no hi hk (hitA_yes hn ?_)
    rw [hcf i k hi hk, conf_need P ex i k hn, decide_eq_true (⟨rfl, rfl⟩ : i = i ∧ k = k)]
    rfl

theorem hasTo_any (P : List Ph) (g : Int) : hasTo P P.length g = (P.map fun p => (p.r, p.g)).any (fun x => x.2 == g) := by
  rw [Bool.eq_iff_iff]
  simp only [hasTo, List.any_eq_true, List.mem_range, List.mem_map]
  constructor
  · rintro ⟨i, hi, h⟩
    exact ⟨_, ⟨P[i], List.getElem_mem _, rfl⟩, by simpa [List.getD, hi] using h⟩
  · rintro ⟨x, ⟨p, hp, rfl⟩, h⟩
    obtain ⟨i, hi, rfl⟩ := List.getElem_of_mem hp
    exact ⟨i, hi, by simpa [List.getD, hi] using h⟩
theorem contig_made {P : List Ph} {n : Nat} (h : P.map (fun p => (p.r, p.g)) = shapeOf n) (hn : n < 6) : contig P = true := by
  unfold contig
  rw [hasTo_any, hasTo_any, hasTo_any, hasTo_any, h]
  match n, hn with
  | 0, _ | 1, _ | 2, _ | 3, _ | 4, _ | 5, _ => decide
theorem shape_rng (n : Nat) (hn : n < 6) : ∀ x ∈ shapeOf n, wi x.1 0 1 = true ∧ wi x.2 0 3 = true := by
  match n, hn with
  | 0, _ | 1, _ | 2, _ | 3, _ | 4, _ | 5, _ => decide
theorem phOk_made {P : List Ph} {n : Nat} (h : P.map (fun p => (p.r, p.g)) = shapeOf n) (hn : n < 6) (hok : ∀ p ∈ P, PhOk p) (i : Nat) (hi : i < P.length) : phOk (P.getD i pz) = true := by
  have e : P.getD i pz = P[i] := by simp [List.getD, hi]
  rw [e]
  have hm : P[i] ∈ P := List.getElem_mem _
  generalize P[i] = p at hm
  have hx := shape_rng n hn (p.r, p.g) (by rw [← h]; exact List.mem_map.2 ⟨p, hm, rfl⟩)
  obtain ⟨m0, m1, y0, y1, r0, r1, hped, x0, x1⟩ := hok p hm
  unfold phOk
  rw [hx.1, hx.2]
  simp only [wi, Bool.true_and, Bool.and_eq_true, decide_eq_true_eq, beq_iff_eq]
  refine ⟨by omega, by omega, by omega, by omega, by omega, by omega, by omega, by omega, ?_⟩
  rcases hped with ⟨a, b⟩ | ⟨a, b, c, d⟩
  · rw [a, b]
  · have e1 : (p.wa == 0) = false := by simp; omega
    have e2 : (p.cl == 0) = false := by simp; omega
    rw [e1, e2]

/-- What a made junction is, plainly. -/
structure Made (P : List Ph) (st : Int) : Prop where
  n1 : 1 ≤ P.length
  n8 : P.length ≤ 8
  ph : ∀ i, i < P.length → phOk (P.getD i pz) = true
  ct : contig P = true
  s0 : 0 ≤ st
  s2 : st ≤ 2
theorem made_of {P : List Ph} {n : Nat} {st : Int} (h : P.map (fun p => (p.r, p.g)) = shapeOf n) (hn : n < 6) (hok : ∀ p ∈ P, PhOk p) (s0 : 0 ≤ st) (s2 : st ≤ 2) : Made P st := by
  have hl : P.length = (shapeOf n).length := by rw [← h, List.length_map]
  have := shape_len n
  exact ⟨by omega, by omega, phOk_made h hn hok, contig_made h hn, s0, s2⟩
theorem Made.planJ {P : List Ph} {st : Int} (h : Made P st) {M : List Nat} (hM : SymM M) (hl : M.length = P.length) : planJ P (ints M) st = apart P (ints M) := by
  rw [planJ_rest ⟨h.n1, h.n8, by rw [ints_length, hl]⟩ (hM.valid (by have := h.n1; omega) (by have := h.n8; omega)) (by have := h.s0; have := h.s2; simp [wi]; omega) h.ph, h.ct, Bool.true_and]
theorem Made.valid {P : List Ph} {st : Int} (h : Made P st) (ex : Bool) : Go.Proofs.Ytepodpdcillkmaa.planJ P (ints (tableOf P ex)) st = true := by
  rw [h.planJ (tableOf_sym P ex) (tableOf_length P ex), apart_table]
theorem Made.flip {P : List Ph} {st : Int} (h : Made P st) (ex : Bool) {i k : Nat} (hne : i ≠ k) (hi : i < P.length) (hk : k < P.length) : Go.Proofs.Ytepodpdcillkmaa.planJ P (ints (flipT (tableOf P ex) i k)) st = !need P i k := by
  have hl := tableOf_length P ex
  rw [h.planJ ((tableOf_sym P ex).flip hne (by omega) (by omega)) (by rw [flipT_length, hl]), apart_flip P ex i k hne hi hk]

end Go.Proofs.Ytepodpdcillkmaa
