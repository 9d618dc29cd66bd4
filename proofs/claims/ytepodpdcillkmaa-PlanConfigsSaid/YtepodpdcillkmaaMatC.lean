/- Contracts of signalbroker/matrix and of the reference of layer 6: Clash. -/
import Derived.Test.YtepodpdcillkmaaMatB
namespace Go.Proofs.Ytepodpdcillkmaa
open Go.RowKit

def hitP (c : List Int) (set : Int) (p q : Nat) : Bool := tb set p && (!(q == p) && (tb set q && cf c p q))
def hitR (c : List Int) (set : Int) (p q : Nat) : Bool := tb set p && (tb set q && cf c p q)
theorem hitP_row {c : List Int} {set : Int} {p : Nat} (h : tb set p = false) (q : Nat) : hitP c set p q = false := by unfold hitP; rw [h]; rfl
theorem hitP_self {c : List Int} {set : Int} {p q : Nat} (h : q = p) : hitP c set p q = false := by unfold hitP; subst h; simp
theorem hitP_col {c : List Int} {set : Int} {p q : Nat} (h : tb set q = false) : hitP c set p q = false := by unfold hitP; rw [h]; simp
theorem hitP_cf {c : List Int} {set : Int} {p q : Nat} (h : cf c p q = false) : hitP c set p q = false := by unfold hitP; rw [h]; simp
theorem hitP_yes {c : List Int} {set : Int} {p q : Nat} (h1 : tb set p = true) (h2 : q ≠ p) (h3 : tb set q = true) (h4 : cf c p q = true) : hitP c set p q = true := by unfold hitP; rw [h1, h3, h4]; simp [h2]
theorem hitR_row {c : List Int} {set : Int} {p : Nat} (h : tb set p = false) (q : Nat) : hitR c set p q = false := by unfold hitR; rw [h]; rfl
theorem hitR_col {c : List Int} {set : Int} {p q : Nat} (h : tb set q = false) : hitR c set p q = false := by unfold hitR; rw [h]; simp
theorem hitR_cf {c : List Int} {set : Int} {p q : Nat} (h : cf c p q = false) : hitR c set p q = false := by unfold hitR; rw [h]; simp
theorem hitR_yes {c : List Int} {set : Int} {p q : Nat} (h1 : tb set p = true) (h3 : tb set q = true) (h4 : cf c p q = true) : hitR c set p q = true := by unfold hitR; rw [h1, h3, h4]; rfl

set_option maxHeartbeats 1000000 in
theorem clash_any (A : Option Addr) (cap B : Nat) (c : List Int) (set : Int) (w : World) (hA : Ints w B A c) (hn : c.length ≤ 60) (s0 : 0 ≤ set) (s1 : set ≤ 1000000) :
    Calls Try.prog 27 #[.slice A c.length cap, .int .i64 set] w fun e w' => e = .returned (hitVal (firstHit c.length (hitP c set))) ∧ w = w' := by
  have HA := Lib.hid hA
  clear hA
  go_enter Try.func27, Try.ntmps27
  go_wp2_with fail
  go_loop [10] (fun v10 => ∃ p : Nat, p ≤ c.length ∧ v10 = .int .i64 p ∧ (∀ r s, r < p → s < c.length → hitP c set r s = false)) (fun v10 => c.length - (intOf v10).toNat)
  case atStart => exact ⟨0, by omega, rfl, by simp⟩
  case round =>
    obtain ⟨p, hp, rfl, hno⟩ := hrel
    have hnoH := Lib.hid hno
    clear hno
    by_cases hlt : p < c.length
    · obtain ⟨t1, ht1⟩ : ∃ t, t = tb set p := ⟨_, rfl⟩
      have ht1H := Lib.hid ht1
      clear ht1
      cases t1
      · go_wp2_with fail
        refine (in_any _ _ _ s0 s1 (by omega) (by omega)).mono ?_; rintro e w' ⟨rfl, rfl⟩
        rw [Int.toNat_natCast, ← ht1H.out]
        go_wp2_with fail
        go_round
        case rel =>
          refine ⟨p + 1, by omega, by go_num, fun r s hr hs => ?_⟩
          by_cases hrp : r < p
          · exact hnoH.out r s hrp hs
          · obtain rfl : r = p := by omega
            exact hitP_row ht1H.out.symm s
        case measure => simp [intOf]; omega
      · go_wp2_with fail
        refine (in_any _ _ _ s0 s1 (by omega) (by omega)).mono ?_; rintro e w' ⟨rfl, rfl⟩
        rw [Int.toNat_natCast, ← ht1H.out]
        go_wp2_with fail
        go_loop [19] (fun v19 => ∃ q : Nat, q ≤ c.length ∧ v19 = .int .i64 q ∧ (∀ s, s < q → hitP c set p s = false)) (fun v19 => c.length - (intOf v19).toNat)
        case atStart => exact ⟨0, by omega, rfl, by simp⟩
        case round =>
          obtain ⟨q, hq, rfl, hno2⟩ := hrel
          have hnoH2 := Lib.hid hno2
          clear hno2
          by_cases hqt : q < c.length
          · have hfin : hitP c set p q = false → ∀ s, s < q + 1 → hitP c set p s = false := by
              intro h s hs
              by_cases hsq : s < q
              · exact hnoH2.out s hsq
              · obtain rfl : s = q := by omega
                exact h
            have hfinH := Lib.hid hfin
            clear hfin
            by_cases hqp : q = p
            · have hqpH := Lib.hid hqp
              have e0 : ((q : Int) != (p : Int)) = false := by simp [hqp]
              clear hqp
              go_wp2_with fail
              go_round
              case rel => exact ⟨q + 1, by omega, by go_num, hfinH.out (hitP_self hqpH.out)⟩
              case measure => simp [intOf]; omega
            · have hqpH := Lib.hid hqp
              have e0 : ((q : Int) != (p : Int)) = true := by simp; omega
              clear hqp
              obtain ⟨t2, ht2⟩ : ∃ t, t = tb set q := ⟨_, rfl⟩
              have ht2H := Lib.hid ht2
              clear ht2
              cases t2
              · go_wp2_with fail
                refine (in_any _ _ _ s0 s1 (by omega) (by omega)).mono ?_; rintro e w' ⟨rfl, rfl⟩
                rw [Int.toNat_natCast, ← ht2H.out]
                go_wp2_with fail
                go_round
                case rel => exact ⟨q + 1, by omega, by go_num, hfinH.out (hitP_col ht2H.out.symm)⟩
                case measure => simp [intOf]; omega
              · obtain ⟨t3, ht3⟩ : ∃ t, t = cf c p q := ⟨_, rfl⟩
                have ht3H := Lib.hid ht3
                clear ht3
                cases t3
                · go_wp2_with fail
                  refine (in_any _ _ _ s0 s1 (by omega) (by omega)).mono ?_; rintro e w' ⟨rfl, rfl⟩
                  rw [Int.toNat_natCast, ← ht2H.out]
                  go_wp2_with fail
                  refine (conflict_any _ _ _ _ _ _ _ HA.out hn).mono ?_; rintro e w' ⟨rfl, rfl⟩
                  rw [← ht3H.out]
                  go_wp2_with fail
                  go_round
                  case rel => exact ⟨q + 1, by omega, by go_num, hfinH.out (hitP_cf ht3H.out.symm)⟩
                  case measure => simp [intOf]; omega
                · go_wp2_with fail
                  refine (in_any _ _ _ s0 s1 (by omega) (by omega)).mono ?_; rintro e w' ⟨rfl, rfl⟩
                  rw [Int.toNat_natCast, ← ht2H.out]
                  go_wp2_with fail
                  refine (conflict_any _ _ _ _ _ _ _ HA.out hn).mono ?_; rintro e w' ⟨rfl, rfl⟩
                  rw [← ht3H.out]
                  go_wp2_with fail
                  go_ret2
                  exact ⟨by rw [firstHit_of c.length _ p q hlt hqt (hitP_yes ht1H.out.symm hqpH.out ht2H.out.symm ht3H.out.symm) hnoH2.out hnoH.out]; rfl, rfl⟩
          · go_wp2_with fail
            go_round
            case rel =>
              refine ⟨p + 1, by omega, by go_num, fun r s hr hs => ?_⟩
              by_cases hrp : r < p
              · exact hnoH.out r s hrp hs
              · obtain rfl : r = p := by omega
                exact hnoH2.out s (by omega)
            case measure => simp [intOf]; omega
    · go_wp2_with fail
      go_ret2
      exact ⟨by rw [(firstHit_none _ _).2 (fun r s hr hs => hnoH.out r s (by omega) hs)]; rfl, rfl⟩

set_option maxHeartbeats 1000000 in
theorem rclash_any (A : Option Addr) (cap B : Nat) (c : List Int) (set : Int) (w : World) (hA : Ints w B A c) (hn : c.length ≤ 60) :
    Calls Try.prog 28 #[.slice A c.length cap, .int .i64 set] w fun e w' => e = .returned (hitVal (firstHit c.length (hitR c set))) ∧ w = w' := by
  have HA := Lib.hid hA
  clear hA
  go_enter Try.func28, Try.ntmps28
  go_wp2_with fail
  go_loop [10] (fun v10 => ∃ p : Nat, p ≤ c.length ∧ v10 = .int .i64 p ∧ (∀ r s, r < p → s < c.length → hitR c set r s = false)) (fun v10 => c.length - (intOf v10).toNat)
  case atStart => exact ⟨0, by omega, rfl, by simp⟩
  case round =>
    obtain ⟨p, hp, rfl, hno⟩ := hrel
    have hnoH := Lib.hid hno
    clear hno
    by_cases hlt : p < c.length
    · go_wp2_with fail
      go_loop [15] (fun v15 => ∃ q : Nat, q ≤ c.length ∧ v15 = .int .i64 q ∧ (∀ s, s < q → hitR c set p s = false)) (fun v15 => c.length - (intOf v15).toNat)
      case atStart => exact ⟨0, by omega, rfl, by simp⟩
      case round =>
        obtain ⟨q, hq, rfl, hno2⟩ := hrel
        have hnoH2 := Lib.hid hno2
        clear hno2
        by_cases hqt : q < c.length
        · have hfin : hitR c set p q = false → ∀ s, s < q + 1 → hitR c set p s = false := by
            intro h s hs
            by_cases hsq : s < q
            · exact hnoH2.out s hsq
            · obtain rfl : s = q := by omega
              exact h
          have hfinH := Lib.hid hfin
          clear hfin
          obtain ⟨t1, ht1⟩ : ∃ t, t = tb set p := ⟨_, rfl⟩
          have ht1H := Lib.hid ht1
          clear ht1
          cases t1
          · go_wp2_with fail
            refine (rin_any _ _ _ (by omega) (by omega)).mono ?_; rintro e w' ⟨rfl, rfl⟩
            rw [Int.toNat_natCast, ← ht1H.out]
            go_wp2_with fail
            go_round
            case rel => exact ⟨q + 1, by omega, by go_num, hfinH.out (hitR_row ht1H.out.symm _)⟩
            case measure => simp [intOf]; omega
          · obtain ⟨t2, ht2⟩ : ∃ t, t = tb set q := ⟨_, rfl⟩
            have ht2H := Lib.hid ht2
            clear ht2
            cases t2
            · go_wp2_with fail
              refine (rin_any _ _ _ (by omega) (by omega)).mono ?_; rintro e w' ⟨rfl, rfl⟩
              rw [Int.toNat_natCast, ← ht1H.out]
              go_wp2_with fail
              refine (rin_any _ _ _ (by omega) (by omega)).mono ?_; rintro e w' ⟨rfl, rfl⟩
              rw [Int.toNat_natCast, ← ht2H.out]
              go_wp2_with fail
              go_round
              case rel => exact ⟨q + 1, by omega, by go_num, hfinH.out (hitR_col ht2H.out.symm)⟩
              case measure => simp [intOf]; omega
            · obtain ⟨t3, ht3⟩ : ∃ t, t = cf c p q := ⟨_, rfl⟩
              have ht3H := Lib.hid ht3
              clear ht3
              cases t3
              · go_wp2_with fail
                refine (rin_any _ _ _ (by omega) (by omega)).mono ?_; rintro e w' ⟨rfl, rfl⟩
                rw [Int.toNat_natCast, ← ht1H.out]
                go_wp2_with fail
                refine (rin_any _ _ _ (by omega) (by omega)).mono ?_; rintro e w' ⟨rfl, rfl⟩
                rw [Int.toNat_natCast, ← ht2H.out]
                go_wp2_with fail
                refine (rconflict_any _ _ _ _ _ _ _ HA.out hn).mono ?_; rintro e w' ⟨rfl, rfl⟩
                rw [← ht3H.out]
                go_wp2_with fail
                go_round
                case rel => exact ⟨q + 1, by omega, by go_num, hfinH.out (hitR_cf ht3H.out.symm)⟩
                case measure => simp [intOf]; omega
              · go_wp2_with fail
                refine (rin_any _ _ _ (by omega) (by omega)).mono ?_; rintro e w' ⟨rfl, rfl⟩
                rw [Int.toNat_natCast, ← ht1H.out]
                go_wp2_with fail
                refine (rin_any _ _ _ (by omega) (by omega)).mono ?_; rintro e w' ⟨rfl, rfl⟩
                rw [Int.toNat_natCast, ← ht2H.out]
                go_wp2_with fail
                refine (rconflict_any _ _ _ _ _ _ _ HA.out hn).mono ?_; rintro e w' ⟨rfl, rfl⟩
                rw [← ht3H.out]
                go_wp2_with fail
                go_ret2
                exact ⟨by rw [firstHit_of c.length _ p q hlt hqt (hitR_yes ht1H.out.symm ht2H.out.symm ht3H.out.symm) hnoH2.out hnoH.out]; rfl, rfl⟩
        · go_wp2_with fail
          go_round
          case rel =>
            refine ⟨p + 1, by omega, by go_num, fun r s hr hs => ?_⟩
            by_cases hrp : r < p
            · exact hnoH.out r s hrp hs
            · obtain rfl : r = p := by omega
              exact hnoH2.out s (by omega)
          case measure => simp [intOf]; omega
    · go_wp2_with fail
      go_ret2
      exact ⟨by rw [(firstHit_none _ _).2 (fun r s hr hs => hnoH.out r s (by omega) hs)]; rfl, rfl⟩

end Go.Proofs.Ytepodpdcillkmaa
