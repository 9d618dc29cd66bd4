/- Plain lemmas on bits of ints and on the first hit of a table. No program in sight. -/
import Derived.Test.YtepodpdcillkmaaBase
import Derived.Laws.BitsAllLaws
import Derived.Laws.BitsLemmas
namespace Go.Proofs.Ytepodpdcillkmaa
open Go.RowKit

theorem and_one (x : Int) : bits .and .i64 x 1 = x % 2 := by
  show IntKind.i64.wrap ((BitVec.ofInt 64 x &&& BitVec.ofInt 64 1).toNat : Int) = _
  have e : (BitVec.ofInt 64 x &&& BitVec.ofInt 64 1).toNat = (x % 2).toNat := by
    rw [BitVec.toNat_and, BitVec.toNat_ofInt, BitVec.toNat_ofInt]
    have h1 : ((1 : Int) % ((2 ^ 64 : Nat) : Int)).toNat = 1 := by decide
    rw [h1, Nat.and_one_is_mod]
    omega
  rw [e, IntKind.wrap_i64]
  omega

theorem and_one_u64 (x : Int) (h0 : 0 ≤ x) (h1 : x ≤ 4611686018427387904) : bits .and .u64 x 1 = x % 2 := by
  show IntKind.u64.wrap ((BitVec.ofInt 64 x &&& BitVec.ofInt 64 1).toNat : Int) = _
  have e : (BitVec.ofInt 64 x &&& BitVec.ofInt 64 1).toNat = (x % 2).toNat := by
    rw [BitVec.toNat_and, BitVec.toNat_ofInt, BitVec.toNat_ofInt]
    have h1 : ((1 : Int) % ((2 ^ 64 : Nat) : Int)).toNat = 1 := by decide
    rw [h1, Nat.and_one_is_mod]
    omega
  rw [e, IntKind.wrap_u64]
  omega

/-- Bit q of x. -/
def tb (x : Int) (q : Nat) : Bool := x / 2 ^ q % 2 == 1
theorem tb_def (x : Int) (q : Nat) : (x / 2 ^ q % 2 == 1) = tb x q := rfl
theorem tb_eq (x y : Int) (p q : Nat) : (x / 2 ^ p % 2 == y / 2 ^ q % 2) = (tb x p == tb y q) := by
  unfold tb
  have a := Int.emod_two_eq (x / 2 ^ p)
  have b := Int.emod_two_eq (y / 2 ^ q)
  rcases a with a | a <;> rcases b with b | b <;> rw [a, b] <;> rfl
theorem tb_nat (x : Nat) (q : Nat) : tb (x : Int) q = x.testBit q := by
  unfold tb
  rw [Nat.testBit_eq_decide_div_mod_eq]
  have e : ((x : Int) / 2 ^ q % 2) = ((x / 2 ^ q % 2 : Nat) : Int) := by simp
  rw [e]
  by_cases h : x / 2 ^ q % 2 = 1
  · simp [h]
  · have h0 : x / 2 ^ q % 2 = 0 := by omega
    simp [h0]

theorem bits_or_nat (a b : Nat) (ha : a < 4611686018427387904) (hb : b < 4611686018427387904) : bits .or .i64 (a : Int) (b : Int) = ((a ||| b : Nat) : Int) := by
  have hx : a ||| b < 2 ^ 62 := Nat.or_lt_two_pow (by omega) (by omega)
  show IntKind.i64.wrap ((BitVec.ofInt 64 (a : Int) ||| BitVec.ofInt 64 (b : Int)).toNat : Int) = _
  rw [BitVec.toNat_or, BitVec.toNat_ofInt, BitVec.toNat_ofInt]
  have e1 : ((a : Int) % ((2 ^ 64 : Nat) : Int)).toNat = a := by omega
  have e2 : ((b : Int) % ((2 ^ 64 : Nat) : Int)).toNat = b := by omega
  rw [e1, e2, IntKind.wrap_i64]
  omega
theorem bits_xor_nat (a b : Nat) (ha : a < 4611686018427387904) (hb : b < 4611686018427387904) : bits .xor .i64 (a : Int) (b : Int) = ((a ^^^ b : Nat) : Int) := by
  have hx : a ^^^ b < 2 ^ 62 := Nat.xor_lt_two_pow (by omega) (by omega)
  show IntKind.i64.wrap ((BitVec.ofInt 64 (a : Int) ^^^ BitVec.ofInt 64 (b : Int)).toNat : Int) = _
  rw [BitVec.toNat_xor, BitVec.toNat_ofInt, BitVec.toNat_ofInt]
  have e1 : ((a : Int) % ((2 ^ 64 : Nat) : Int)).toNat = a := by omega
  have e2 : ((b : Int) % ((2 ^ 64 : Nat) : Int)).toNat = b := by omega
  rw [e1, e2, IntKind.wrap_i64]
  omega
theorem bits_and_nat (a b : Nat) (ha : a < 4611686018427387904) (hb : b < 4611686018427387904) : bits .and .i64 (a : Int) (b : Int) = ((a &&& b : Nat) : Int) := by
  have hx : a &&& b < 2 ^ 62 := Nat.and_lt_two_pow _ (by omega)
  show IntKind.i64.wrap ((BitVec.ofInt 64 (a : Int) &&& BitVec.ofInt 64 (b : Int)).toNat : Int) = _
  rw [BitVec.toNat_and, BitVec.toNat_ofInt, BitVec.toNat_ofInt]
  have e1 : ((a : Int) % ((2 ^ 64 : Nat) : Int)).toNat = a := by omega
  have e2 : ((b : Int) % ((2 ^ 64 : Nat) : Int)).toNat = b := by omega
  rw [e1, e2, IntKind.wrap_i64]
  omega
theorem bits_and_part (x : Int) (S : Nat) (hS : S < 4611686018427387904) : ∃ P : Nat, bits .and .i64 x (S : Int) = (P : Int) ∧ P ≤ S ∧ ∀ q, P.testBit q = true → S.testBit q = true := by
  refine ⟨(x % ((2 ^ 64 : Nat) : Int)).toNat &&& S, ?_, Nat.and_le_right, fun q h => ?_⟩
  · have hx : (x % ((2 ^ 64 : Nat) : Int)).toNat &&& S ≤ S := Nat.and_le_right
    show IntKind.i64.wrap ((BitVec.ofInt 64 x &&& BitVec.ofInt 64 (S : Int)).toNat : Int) = _
    rw [BitVec.toNat_and, BitVec.toNat_ofInt, BitVec.toNat_ofInt]
    have e2 : ((S : Int) % ((2 ^ 64 : Nat) : Int)).toNat = S := by omega
    rw [e2, IntKind.wrap_i64]
    omega
  · rw [Nat.testBit_and, Bool.and_eq_true] at h
    exact h.2
theorem bits_andNot_zero (a b : Nat) (ha : a < 4611686018427387904) (hb : b < 4611686018427387904) (h : ∀ q, a.testBit q = true → b.testBit q = true) : bits .andNot .i64 (a : Int) (b : Int) = 0 := by
  show IntKind.i64.wrap ((BitVec.ofInt 64 (a : Int) &&& ~~~ BitVec.ofInt 64 (b : Int)).toNat : Int) = _
  have e : BitVec.ofInt 64 (a : Int) &&& ~~~ BitVec.ofInt 64 (b : Int) = 0#64 := by
    apply BitVec.eq_of_getLsbD_eq
    intro i hi
    rw [BitVec.getLsbD_and, BitVec.getLsbD_not, BitVec.ofInt_natCast, BitVec.ofInt_natCast, BitVec.getLsbD_ofNat, BitVec.getLsbD_ofNat]
    have := h i
    cases h1 : a.testBit i
    · simp
    · rw [this h1]; simp [hi]
  rw [e]
  rfl
theorem or_new_bit (a p : Nat) (h : a < 2 ^ p) : a ||| 2 ^ p = a + 2 ^ p := by
  have h1 := Nat.two_pow_add_eq_or_of_lt h 1
  rw [Nat.mul_one] at h1
  rw [Nat.or_comm, ← h1, Nat.add_comm]

/-- The first pair that hits, row by row. -/
def rowHit (n : Nat) (h : Nat → Nat → Bool) (p : Nat) : Option Nat := (List.range n).find? (h p)
def firstHit (n : Nat) (h : Nat → Nat → Bool) : Option (Nat × Nat) := (List.range n).findSome? fun p => (rowHit n h p).map fun q => (p, q)

theorem rowHit_none (n : Nat) (h : Nat → Nat → Bool) (p : Nat) : rowHit n h p = none ↔ ∀ q, q < n → h p q = false := by
  unfold rowHit
  rw [List.find?_eq_none]
  constructor
  · intro a q hq
    simpa using a q (by simpa using hq)
  · intro a q hq
    simpa using a q (by simpa using hq)
theorem rowHit_some (n : Nat) (h : Nat → Nat → Bool) (p q : Nat) : rowHit n h p = some q ↔ q < n ∧ h p q = true ∧ ∀ r, r < q → h p r = false := by
  unfold rowHit
  rw [List.find?_range_eq_some]
  simp only [List.mem_range, Bool.not_eq_true']
  constructor
  · rintro ⟨a, b, c⟩; exact ⟨b, a, c⟩
  · rintro ⟨a, b, c⟩; exact ⟨b, a, c⟩
theorem firstHit_none (n : Nat) (h : Nat → Nat → Bool) : firstHit n h = none ↔ ∀ p q, p < n → q < n → h p q = false := by
  unfold firstHit
  rw [List.findSome?_eq_none_iff]
  constructor
  · intro a p q hp hq
    have := a p (by simpa using hp)
    rw [Option.map_eq_none_iff, rowHit_none] at this
    exact this q hq
  · intro a p hp
    rw [Option.map_eq_none_iff, rowHit_none]
    intro q hq
    exact a p q (by simpa using hp) hq
theorem firstHit_of (n : Nat) (h : Nat → Nat → Bool) (p q : Nat) (hp : p < n) (hq : q < n) (hh : h p q = true) (h1 : ∀ r, r < q → h p r = false) (h2 : ∀ r s, r < p → s < n → h r s = false) :
    firstHit n h = some (p, q) := by
  unfold firstHit
  have e : List.range n = List.range p ++ p :: (List.range (n - p - 1)).map (fun x => p + 1 + x) := by
    have e1 : n = p + (1 + (n - p - 1)) := by omega
    conv => lhs; rw [e1, List.range_add, List.range_add]
    simp [List.map_map, Function.comp_def, Nat.add_assoc]
  rw [e, List.findSome?_append]
  have e2 : List.findSome? (fun p => Option.map (fun q => (p, q)) (rowHit n h p)) (List.range p) = none := by
    rw [List.findSome?_eq_none_iff]
    intro r hr
    rw [Option.map_eq_none_iff, rowHit_none]
    intro s hs
    exact h2 r s (by simpa using hr) hs
  rw [e2]
  have e3 : rowHit n h p = some q := (rowHit_some n h p q).2 ⟨hq, hh, h1⟩
  simp [List.findSome?_cons, e3]
theorem firstHit_spec (n : Nat) (h : Nat → Nat → Bool) (p q : Nat) (hf : firstHit n h = some (p, q)) : p < n ∧ q < n ∧ h p q = true := by
  unfold firstHit at hf
  obtain ⟨r, hr, he⟩ := List.exists_of_findSome?_eq_some hf
  rw [Option.map_eq_some_iff] at he
  obtain ⟨s, hs, he⟩ := he
  obtain ⟨rfl, rfl⟩ := by simpa using he
  rw [rowHit_some] at hs
  exact ⟨by simpa using hr, hs.1, hs.2.1⟩
theorem firstHit_congr (n : Nat) (h h' : Nat → Nat → Bool) (e : ∀ p q, p < n → q < n → h p q = h' p q) : firstHit n h = firstHit n h' := by
  rcases hc : firstHit n h with _ | ⟨p, q⟩
  · rw [firstHit_none] at hc
    exact ((firstHit_none n h').2 (fun p q hp hq => by rw [← e p q hp hq]; exact hc p q hp hq)).symm
  · rcases hd : firstHit n h' with _ | ⟨r, s⟩
    · rw [firstHit_none] at hd
      obtain ⟨a, b, c⟩ := firstHit_spec _ _ _ _ hc
      rw [e p q a b, hd p q a b] at c
      cases c
    · rw [← hc, ← hd]
      unfold firstHit
      have : ∀ (l : List Nat), (∀ x ∈ l, x < n) → l.findSome? (fun p => (rowHit n h p).map fun q => (p, q)) = l.findSome? (fun p => (rowHit n h' p).map fun q => (p, q)) := by
        intro l
        induction l with
        | nil => intro _; rfl
        | cons x l ih =>
          intro hl
          have ex : rowHit n h x = rowHit n h' x := by
            unfold rowHit
            have : ∀ (m : List Nat), (∀ y ∈ m, y < n) → m.find? (h x) = m.find? (h' x) := by
              intro m
              induction m with
              | nil => intro _; rfl
              | cons y m ih2 =>
                intro hm
                rw [List.find?_cons, List.find?_cons, e x y (hl x (by simp)) (hm y (by simp)), ih2 (fun z hz => hm z (by simp [hz]))]
            exact this _ (fun y hy => by simpa using hy)
          rw [List.findSome?_cons, List.findSome?_cons, ex, ih (fun z hz => hl z (by simp [hz]))]
      exact this _ (fun y hy => by simpa using hy)

/-- What Clash returns. -/
def hitVal : Option (Nat × Nat) → Value
  | some (p, q) => .tuple #[.int .i64 p, .int .i64 q]
  | none => .tuple #[.int .i64 (-1), .int .i64 (-1)]

end Go.Proofs.Ytepodpdcillkmaa
