/- Contracts of signalbroker/matrix and of the reference of layer 6: in, Conflict. -/
import Derived.Test.YtepodpdcillkmaaBits
namespace Go.Proofs.Ytepodpdcillkmaa
open Go.RowKit

set_option maxHeartbeats 400000 in
theorem in_any (set p : Int) (w : World) (s0 : 0 ≤ set) (s1 : set ≤ 1000000) (h0 : 0 ≤ p) (h1 : p ≤ 60) :
    Calls Try.prog 54 #[.int .i64 set, .int .i64 p] w fun e w' => e = .returned (.bool (tb set p.toNat)) ∧ w = w' := by
  have k0 : 0 ≤ set / 2 ^ p.toNat := Int.ediv_nonneg s0 (Int.le_of_lt (Int.pow_pos (by omega)))
  have k1 : set / 2 ^ p.toNat ≤ 1000000 := Int.le_trans (Int.ediv_le_self _ s0) s1
  have ha := and_one_u64 _ k0 (by omega)
  go_enter Try.func54, Try.ntmps54
  go_wp2
  go_ret
  exact ⟨rfl, rfl⟩

set_option maxHeartbeats 400000 in
theorem rin_any (set p : Int) (w : World) (h0 : 0 ≤ p) (h1 : p ≤ 60) :
    Calls Try.prog 55 #[.int .i64 set, .int .i64 p] w fun e w' => e = .returned (.bool (tb set p.toNat)) ∧ w = w' := by
  have ha := and_one
  go_enter Try.func55, Try.ntmps55
  go_wp2
  go_ret
  exact ⟨rfl, rfl⟩

/-- Do the rows p and q conflict? -/
def cf (c : List Int) (p q : Int) : Bool := decide (0 ≤ p ∧ p < c.length ∧ 0 ≤ q ∧ q < c.length) && tb (c.getD p.toNat 0) q.toNat
theorem cf_nat (c : List Int) (p q : Nat) (hp : p < c.length) (hq : q < c.length) : cf c p q = tb (c.getD p 0) q := by
  unfold cf
  rw [decide_eq_true (by omega)]
  simp
theorem cf_out (c : List Int) (p q : Int) (h : ¬ (0 ≤ p ∧ p < c.length ∧ 0 ≤ q ∧ q < c.length)) : cf c p q = false := by
  unfold cf; rw [decide_eq_false h]; rfl

set_option maxHeartbeats 400000 in
theorem conflict_any (A : Option Addr) (cap B : Nat) (c : List Int) (p q : Int) (w : World) (hA : Ints w B A c) (hn : c.length ≤ 60) :
    Calls Try.prog 25 #[.slice A c.length cap, .int .i64 p, .int .i64 q] w fun e w' => e = .returned (.bool (cf c p q)) ∧ w = w' := by
  by_cases hin : 0 ≤ p ∧ p < c.length ∧ 0 ≤ q ∧ q < c.length
  · obtain ⟨h1, h2, h3, h4⟩ := hin
    obtain ⟨P, rfl⟩ := Int.eq_ofNat_of_zero_le h1
    obtain ⟨Q, rfl⟩ := Int.eq_ofNat_of_zero_le h3
    have hE := Lib.hid (cf_nat c P Q (by omega) (by omega))
    obtain ⟨b, off, rfl, hlt, hc⟩ := hA P (by omega)
    clear hA
    generalize c.getD P 0 = x at hc hE
    have ha := and_one
    go_enter Try.func25, Try.ntmps25
    go_wp2
    go_ret
    exact ⟨by rw [hE.out]; rfl, rfl⟩
  · have hE := Lib.hid (cf_out c p q hin)
    have HA := Lib.hid hA
    clear hA
    by_cases h1 : p < 0
    · clear hin
      go_enter Try.func25, Try.ntmps25
      go_wp2
      go_ret
      exact ⟨by rw [hE.out]; rfl, rfl⟩
    by_cases h3 : q < 0
    · clear hin
      go_enter Try.func25, Try.ntmps25
      go_wp2
      go_ret
      exact ⟨by rw [hE.out]; rfl, rfl⟩
    by_cases h2 : c.length ≤ p
    · clear hin
      go_enter Try.func25, Try.ntmps25
      go_wp2
      go_ret
      exact ⟨by rw [hE.out]; rfl, rfl⟩
    have h4 : c.length ≤ q := by omega
    clear hin
    go_enter Try.func25, Try.ntmps25
    go_wp2
    go_ret
    exact ⟨by rw [hE.out]; rfl, rfl⟩

set_option maxHeartbeats 400000 in
theorem rconflict_any (A : Option Addr) (cap B : Nat) (c : List Int) (p q : Int) (w : World) (hA : Ints w B A c) (hn : c.length ≤ 60) :
    Calls Try.prog 26 #[.slice A c.length cap, .int .i64 p, .int .i64 q] w fun e w' => e = .returned (.bool (cf c p q)) ∧ w = w' := by
  by_cases hin : 0 ≤ p ∧ p < c.length ∧ 0 ≤ q ∧ q < c.length
  · obtain ⟨h1, h2, h3, h4⟩ := hin
    obtain ⟨P, rfl⟩ := Int.eq_ofNat_of_zero_le h1
    obtain ⟨Q, rfl⟩ := Int.eq_ofNat_of_zero_le h3
    have hE := Lib.hid (cf_nat c P Q (by omega) (by omega))
    obtain ⟨b, off, rfl, hlt, hc⟩ := hA P (by omega)
    clear hA
    generalize c.getD P 0 = x at hc hE
    have ha := and_one
    go_enter Try.func26, Try.ntmps26
    go_wp2
    go_ret
    exact ⟨by rw [hE.out]; rfl, rfl⟩
  · have hE := Lib.hid (cf_out c p q hin)
    have HA := Lib.hid hA
    clear hA
    by_cases h1 : p < 0
    · clear hin
      go_enter Try.func26, Try.ntmps26
      go_wp2
      go_ret
      exact ⟨by rw [hE.out]; rfl, rfl⟩
    by_cases h2 : c.length ≤ p
    · clear hin
      go_enter Try.func26, Try.ntmps26
      go_wp2
      go_ret
      exact ⟨by rw [hE.out]; rfl, rfl⟩
    by_cases h3 : q < 0
    · clear hin
      go_enter Try.func26, Try.ntmps26
      go_wp2
      go_ret
      exact ⟨by rw [hE.out]; rfl, rfl⟩
    have h4 : c.length ≤ q := by omega
    clear hin
    go_enter Try.func26, Try.ntmps26
    go_wp2
    go_ret
    exact ⟨by rw [hE.out]; rfl, rfl⟩

end Go.Proofs.Ytepodpdcillkmaa
