/- Contracts of signalbroker/matrix and of the reference of layer 6: Allowed. -/
import Derived.Test.YtepodpdcillkmaaMatC
namespace Go.Proofs.Ytepodpdcillkmaa
open Go.RowKit

/-- Is p free, as far as the rows below q tell? -/
def freeTo (c : List Int) (set : Int) (p q : Nat) : Bool := !tb set p && (List.range q).all fun r => !(tb set r && cf c p r)
theorem freeTo_succ (c : List Int) (set : Int) (p q : Nat) : freeTo c set p (q + 1) = (freeTo c set p q && !(tb set q && cf c p q)) := by
  unfold freeTo; rw [List.range_succ, List.all_append]; simp [Bool.and_assoc]
theorem freeTo_zero (c : List Int) (set : Int) (p : Nat) : freeTo c set p 0 = !tb set p := by unfold freeTo; simp
/-- The free rows below k as a set. -/
def allowedTo (c : List Int) (set : Int) : Nat → Nat
  | 0 => 0
  | k + 1 => allowedTo c set k + if freeTo c set k c.length then 2 ^ k else 0
theorem allowedTo_lt (c : List Int) (set : Int) (k : Nat) : allowedTo c set k < 2 ^ k := by
  induction k with
  | zero => simp [allowedTo]
  | succ k ih => unfold allowedTo; rw [Nat.pow_succ]; split <;> omega
theorem allowedTo_yes (c : List Int) (set : Int) (k : Nat) (h : freeTo c set k c.length = true) : allowedTo c set (k + 1) = allowedTo c set k + 2 ^ k := by
  rw [allowedTo, if_pos h]
theorem allowedTo_no (c : List Int) (set : Int) (k : Nat) (h : freeTo c set k c.length = false) : allowedTo c set (k + 1) = allowedTo c set k := by
  rw [allowedTo, if_neg (by simp [h])]; omega
theorem npow_le_128 (n : Nat) (h : n ≤ 7) : 2 ^ n ≤ 128 := Nat.pow_le_pow_right (n := 2) (by omega) h
theorem or_pow (a k : Nat) (h : a < 2 ^ k) (hk : k ≤ 7) : bits .or .i64 (a : Int) (2 ^ k) = ((a + 2 ^ k : Nat) : Int) := by
  have h1 := npow_le_128 k hk
  have h2 := bits_or_nat a (2 ^ k) (by omega) (by omega)
  rw [or_new_bit a k h] at h2
  rw [← h2]; simp

set_option maxHeartbeats 1000000 in
theorem allowed_any (A : Option Addr) (cap B : Nat) (c : List Int) (set : Int) (w : World) (hA : Ints w B A c) (hn : c.length ≤ 8) (s0 : 0 ≤ set) (s1 : set ≤ 1000000) :
    Calls Try.prog 29 #[.slice A c.length cap, .int .i64 set] w fun e w' => e = .returned (.int .i64 (allowedTo c set c.length)) ∧ w = w' := by
  have HA := Lib.hid hA
  clear hA
  go_enter Try.func29, Try.ntmps29
  go_wp2_with fail
  go_loop [5, 12] (fun v5 v12 => ∃ p : Nat, p ≤ c.length ∧ v12 = .int .i64 p ∧ v5 = .int .i64 (allowedTo c set p)) (fun _ v12 => c.length - (intOf v12).toNat)
  case atStart => exact ⟨0, by omega, rfl, rfl⟩
  case round =>
    obtain ⟨p, hp, rfl, rfl⟩ := hrel
    by_cases hlt : p < c.length
    · obtain ⟨t1, ht1⟩ : ∃ t, t = tb set p := ⟨_, rfl⟩
      have ht1H := Lib.hid ht1
      clear ht1
      go_wp2_with fail
      refine (in_any _ _ _ s0 s1 (by omega) (by omega)).mono ?_; rintro e w' ⟨rfl, rfl⟩
      rw [Int.toNat_natCast, ← ht1H.out]
      go_wp2_with fail
      go_loop [7, 21] (fun v7 v21 => ∃ q : Nat, q ≤ c.length ∧ v21 = .int .i64 q ∧ v7 = .bool (freeTo c set p q)) (fun _ v21 => c.length - (intOf v21).toNat)
      case atStart => exact ⟨0, by omega, rfl, by rw [freeTo_zero, ← ht1H.out]⟩
      case round =>
        obtain ⟨q, hq, rfl, rfl⟩ := hrel
        by_cases hqt : q < c.length
        · have hsucc := Lib.hid (freeTo_succ c set p q)
          obtain ⟨f, hf⟩ : ∃ f, f = freeTo c set p q := ⟨_, rfl⟩
          rw [← hf] at hsucc ⊢
          clear hf
          obtain ⟨t2, ht2⟩ : ∃ t, t = tb set q := ⟨_, rfl⟩
          have ht2H := Lib.hid ht2
          clear ht2
          cases t2
          · go_wp2_with fail
            refine (in_any _ _ _ s0 s1 (by omega) (by omega)).mono ?_; rintro e w' ⟨rfl, rfl⟩
            rw [Int.toNat_natCast, ← ht2H.out]
            go_wp2_with fail
            go_round
            case rel => exact ⟨q + 1, by omega, by go_num, by rw [hsucc.out, ← ht2H.out]; simp⟩
            case measure => simp [intOf]; omega
          · obtain ⟨t3, ht3⟩ : ∃ t, t = cf c p q := ⟨_, rfl⟩
            have ht3H := Lib.hid ht3
            clear ht3
            cases t3
            all_goals
              go_wp2_with fail
              refine (in_any _ _ _ s0 s1 (by omega) (by omega)).mono ?_; rintro e w' ⟨rfl, rfl⟩
              rw [Int.toNat_natCast, ← ht2H.out]
              go_wp2_with fail
              refine (conflict_any _ _ _ _ _ _ _ HA.out (by omega)).mono ?_; rintro e w' ⟨rfl, rfl⟩
              rw [← ht3H.out]
              go_wp2_with fail
              go_round
              case rel => exact ⟨q + 1, by omega, by go_num, by rw [hsucc.out, ← ht2H.out, ← ht3H.out]; simp⟩
              case measure => simp [intOf]; omega
        · obtain rfl : q = c.length := by omega
          obtain ⟨f, hf⟩ : ∃ f, f = freeTo c set p c.length := ⟨_, rfl⟩
          rw [← hf]
          have hfH := Lib.hid hf
          clear hf
          have hlo := allowedTo_lt c set p
          have hpw := npow_le_128 p (by omega)
          cases f
          · have hno := Lib.hid (allowedTo_no c set p hfH.out.symm)
            go_wp2_with fail
            go_round
            case rel => exact ⟨p + 1, by omega, by go_num, by rw [hno.out]⟩
            case measure => simp [intOf]; omega
          · have hyes := Lib.hid (allowedTo_yes c set p hfH.out.symm)
            have hor := or_pow _ p hlo (by omega)
            have hpi : (2 : Int) ^ p ≤ 128 := by have : ((2 ^ p : Nat) : Int) = 2 ^ p := by simp
                                                 omega
            have hp0 : (1 : Int) ≤ 2 ^ p := by have : (0 : Int) < 2 ^ p := Int.pow_pos (by omega)
                                               omega
            rw [← hyes.out] at hor
            go_wp2_with fail
            go_round
            case rel => exact ⟨p + 1, by omega, by go_num, rfl⟩
            case measure => simp [intOf]; omega
    · obtain rfl : p = c.length := by omega
      go_wp2_with fail
      go_ret
      exact ⟨rfl, rfl⟩

set_option maxHeartbeats 1000000 in
theorem rallowed_any (A : Option Addr) (cap B : Nat) (c : List Int) (set : Int) (w : World) (hA : Ints w B A c) (hn : c.length ≤ 8) :
    Calls Try.prog 30 #[.slice A c.length cap, .int .i64 set] w fun e w' => e = .returned (.int .i64 (allowedTo c set c.length)) ∧ w = w' := by
  have HA := Lib.hid hA
  clear hA
  go_enter Try.func30, Try.ntmps30
  go_wp2_with fail
  go_loop [5, 11] (fun v5 v11 => ∃ p : Nat, p ≤ c.length ∧ v11 = .int .i64 p ∧ v5 = .int .i64 (allowedTo c set p)) (fun _ v11 => c.length - (intOf v11).toNat)
  case atStart => exact ⟨0, by omega, rfl, rfl⟩
  case round =>
    obtain ⟨p, hp, rfl, rfl⟩ := hrel
    by_cases hlt : p < c.length
    · obtain ⟨t1, ht1⟩ : ∃ t, t = tb set p := ⟨_, rfl⟩
      have ht1H := Lib.hid ht1
      clear ht1
      go_wp2_with fail
      refine (rin_any _ _ _ (by omega) (by omega)).mono ?_; rintro e w' ⟨rfl, rfl⟩
      rw [Int.toNat_natCast, ← ht1H.out]
      go_wp2_with fail
      go_loop [7, 20] (fun v7 v20 => ∃ q : Nat, q ≤ c.length ∧ v20 = .int .i64 q ∧ v7 = .bool (freeTo c set p q)) (fun _ v20 => c.length - (intOf v20).toNat)
      case atStart => exact ⟨0, by omega, rfl, by rw [freeTo_zero, ← ht1H.out]⟩
      case round =>
        obtain ⟨q, hq, rfl, rfl⟩ := hrel
        by_cases hqt : q < c.length
        · have hsucc := Lib.hid (freeTo_succ c set p q)
          obtain ⟨f, hf⟩ : ∃ f, f = freeTo c set p q := ⟨_, rfl⟩
          rw [← hf] at hsucc ⊢
          clear hf
          cases f
          · go_wp2_with fail
            go_round
            case rel => exact ⟨q + 1, by omega, by go_num, by rw [hsucc.out]; rfl⟩
            case measure => simp [intOf]; omega
          obtain ⟨t2, ht2⟩ : ∃ t, t = tb set q := ⟨_, rfl⟩
          have ht2H := Lib.hid ht2
          clear ht2
          cases t2
          · go_wp2_with fail
            refine (rin_any _ _ _ (by omega) (by omega)).mono ?_; rintro e w' ⟨rfl, rfl⟩
            rw [Int.toNat_natCast, ← ht2H.out]
            go_wp2_with fail
            go_round
            case rel => exact ⟨q + 1, by omega, by go_num, by rw [hsucc.out, ← ht2H.out]; simp⟩
            case measure => simp [intOf]; omega
          · obtain ⟨t3, ht3⟩ : ∃ t, t = cf c p q := ⟨_, rfl⟩
            have ht3H := Lib.hid ht3
            clear ht3
            cases t3
            all_goals
              go_wp2_with fail
              refine (rin_any _ _ _ (by omega) (by omega)).mono ?_; rintro e w' ⟨rfl, rfl⟩
              rw [Int.toNat_natCast, ← ht2H.out]
              go_wp2_with fail
              refine (rconflict_any _ _ _ _ _ _ _ HA.out (by omega)).mono ?_; rintro e w' ⟨rfl, rfl⟩
              rw [← ht3H.out]
              go_wp2_with fail
              go_round
              case rel => exact ⟨q + 1, by omega, by go_num, by rw [hsucc.out, ← ht2H.out, ← ht3H.out]; simp⟩
              case measure => simp [intOf]; omega
        · obtain rfl : q = c.length := by omega
          obtain ⟨f, hf⟩ : ∃ f, f = freeTo c set p c.length := ⟨_, rfl⟩
          rw [← hf]
          have hfH := Lib.hid hf
          clear hf
          have hlo := allowedTo_lt c set p
          have hpw := npow_le_128 p (by omega)
          cases f
          · have hno := Lib.hid (allowedTo_no c set p hfH.out.symm)
            go_wp2_with fail
            go_round
            case rel => exact ⟨p + 1, by omega, by go_num, by rw [hno.out]⟩
            case measure => simp [intOf]; omega
          · have hyes := Lib.hid (allowedTo_yes c set p hfH.out.symm)
            have hpi : (2 : Int) ^ p ≤ 128 := by have : ((2 ^ p : Nat) : Int) = 2 ^ p := by simp
                                                 omega
            have hp0 : (1 : Int) ≤ 2 ^ p := by have : (0 : Int) < 2 ^ p := Int.pow_pos (by omega)
                                               omega
            go_wp2_with fail
            go_round
            case rel => exact ⟨p + 1, by omega, by go_num, by rw [hyes.out]; simp⟩
            case measure => simp [intOf]; omega
    · obtain rfl : p = c.length := by omega
      go_wp2_with fail
      go_ret
      exact ⟨rfl, rfl⟩

end Go.Proofs.Ytepodpdcillkmaa
