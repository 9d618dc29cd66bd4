/- Contracts of signalbroker/vehicle and of the reference of layer 15: Valid, place, limit. -/
import Derived.Test.YtobeediccmmjhaaVehA
namespace Go.Proofs.Ytobeediccmmjhaa
open Go.RowKit
set_option linter.unusedVariables false
set_option linter.unusedSimpArgs false

/-- Is the vehicle at i right, and behind the one before it? -/
def okV (vs : List Veh) (i : Nat) : Bool :=
  decide (0 ≤ (vs.getD i vz).id ∧ (vs.getD i vz).id ≤ 4294967295 ∧ 0 ≤ (vs.getD i vz).cl ∧ (vs.getD i vz).cl ≤ 3 ∧ (0 < i → (vs.getD (i - 1) vz).id < (vs.getD i vz).id))
def validV (vs : List Veh) : Bool := decide (vs.length ≤ 8) && (List.range vs.length).all (okV vs)
theorem validV_long {vs : List Veh} (h : ¬ vs.length ≤ 8) : validV vs = false := by unfold validV; rw [decide_eq_false h]; rfl
theorem validV_no {vs : List Veh} {i : Nat} (hi : i < vs.length) (h : okV vs i = false) : validV vs = false := by
  unfold validV
  rw [Bool.and_eq_false_iff]; right
  rw [List.all_eq_false]
  exact ⟨i, by simpa using hi, by simp [h]⟩
theorem validV_yes {vs : List Veh} (h8 : vs.length ≤ 8) (h : ∀ i, i < vs.length → okV vs i = true) : validV vs = true := by
  unfold validV
  rw [decide_eq_true h8, Bool.true_and, List.all_eq_true]
  exact fun p hp => h p (by simpa using hp)
theorem validV_ok {vs : List Veh} (h : validV vs = true) : vs.length ≤ 8 ∧ ∀ i, i < vs.length → okV vs i = true := by
  unfold validV at h
  rw [Bool.and_eq_true, List.all_eq_true] at h
  exact ⟨of_decide_eq_true h.1, fun i hi => h.2 i (by simpa using hi)⟩
theorem okV_iff (vs : List Veh) (i : Nat) : okV vs i = true ↔ (0 ≤ (vs.getD i vz).id ∧ (vs.getD i vz).id ≤ 4294967295 ∧ 0 ≤ (vs.getD i vz).cl ∧ (vs.getD i vz).cl ≤ 3 ∧ (0 < i → (vs.getD (i - 1) vz).id < (vs.getD i vz).id)) := by
  unfold okV; exact decide_eq_true_iff

set_option maxHeartbeats 4000000 in
theorem valid_any (A : Option Addr) (cap : Nat) (vs : List Veh) (w : World) (hA : Vehs w w.heap.size A vs) (hm : vs.length ≤ 9223372036854775807) :
    Calls Try.prog 15 #[.slice A vs.length cap] w fun e w' => e = .returned (.bool (validV vs)) ∧ Below w.heap.size w w' := by
  have HA := Lib.hid hA
  clear hA
  by_cases h8 : vs.length ≤ 8
  rotate_left
  · have hE := Lib.hid (validV_long h8)
    go_enter Try.func15, Try.ntmps15
    go_wp2
    go_ret
    exact ⟨by rw [hE.out]; rfl, Below.refl _ _⟩
  go_enter Try.func15, Try.ntmps15
  go_wp2
  go_loopw [10] (fun v wr => ∃ k : Nat, k ≤ vs.length ∧ v = .int .i64 k ∧ (∀ r, r < k → okV vs r = true) ∧ Below w.heap.size w wr) (fun v _ => vs.length - (intOf v).toNat)
  case atStart => exact ⟨0, by omega, rfl, by simp, Below.refl _ _⟩
  case round =>
    obtain ⟨k, hk, rfl, hok, hb⟩ := hrel
    have hz := hb.size
    have hbH := Lib.hid hb
    have hokH := Lib.hid hok
    clear hb hok
    by_cases hlt : k < vs.length
    · obtain ⟨b, off, rfl, hbl, hc0, hc1⟩ := HA.out k hlt
      have e0 := (hbH.out.cell (p := ⟨b, off + k * 2, none⟩) hbl).trans hc0
      have e1 := (hbH.out.cell (p := ⟨b, off + k * 2 + 1, none⟩) hbl).trans hc1
      clear hc0 hc1
      have hbz : b < wr.heap.size := by omega
      have hkH : Hid (okV vs k = true ↔ (0 ≤ (vs.getD k vz).id ∧ (vs.getD k vz).id ≤ 4294967295 ∧ 0 ≤ (vs.getD k vz).cl ∧ (vs.getD k vz).cl ≤ 3 ∧ (0 < k → (vs.getD (k - 1) vz).id < (vs.getD k vz).id))) := okV_iff vs k
      have hprev : Hid (0 < k → wr.cell? ⟨b, off + (k - 1) * 2, none⟩ = some (.int .i64 (vs.getD (k - 1) vz).id)) := by
        intro hk0
        obtain ⟨b', off', he, hbl', hd0, hd1⟩ := HA.out (k - 1) (by omega)
        injection he with he
        injection he with he1 he2
        subst he1 he2
        exact (hbH.out.cell (p := ⟨b, off + (k - 1) * 2, none⟩) hbl').trans hd0
      obtain ⟨x, hx⟩ : ∃ x, x = (vs.getD k vz).cl := ⟨_, rfl⟩
      obtain ⟨y, hy⟩ : ∃ y, y = (vs.getD k vz).id := ⟨_, rfl⟩
      obtain ⟨z, hzz⟩ : ∃ y, y = (vs.getD (k - 1) vz).id := ⟨_, rfl⟩
      rw [← hx] at e1 hkH
      rw [← hy] at e0 hkH
      rw [← hzz] at hprev hkH
      clear hx hy hzz
      by_cases hg : 0 ≤ y ∧ y ≤ 4294967295 ∧ 0 ≤ x ∧ x ≤ 3
      · obtain ⟨y0, y1, x0, x1⟩ := hg
        have d1 : decide (y < 0) = false := by simp; omega
        have d2 : decide (4294967295 < y) = false := by simp; omega
        have d3 : decide (x < 0) = false := by simp; omega
        have d4 : decide (3 < x) = false := by simp; omega
        by_cases hk0 : 0 < k
        · have ep := hprev.out hk0
          have hw1 : IntKind.i64.wrap ((k : Int) - 1) = ((k - 1 : Nat) : Int) := by rw [IntKind.wrap_i64]; omega
          have hi1 : (0 : Int) ≤ ((k - 1 : Nat) : Int) := by omega
          have hi2 : ((k - 1 : Nat) : Int) < (vs.length : Int) := by omega
          have hi3 : (0 : Int) < (k : Int) := by omega
          have hd : decide ((0 : Int) < (k : Int)) = true := by simp; omega
          generalize hk1 : k - 1 = k1 at ep hw1 hi1 hi2
          clear hk1
          by_cases hyz : z < y
          · have hE : Hid (okV vs k = true) := hkH.out.2 ⟨y0, y1, x0, x1, fun _ => hyz⟩
            go_wp2
            go_quiet (fail)
            go_wp2
            go_roundw
            case rel =>
              refine ⟨k + 1, by omega, by go_num, fun r hr => ?_, by have := hbH.out; first | (refine below_drewN ?_ _; go_grown; done) | go_grown⟩
              by_cases hrk : r < k
              · exact hokH.out r hrk
              · obtain rfl : r = k := by omega
                exact hE.out
            case measure => simp [intOf]; omega
          · have hE : Hid (validV vs = false) := validV_no hlt (by rw [Bool.eq_false_iff]; intro h; have := hkH.out.1 h; omega)
            go_wp2
            go_quiet (fail)
            go_wp2
            go_ret
            exact ⟨by rw [hE.out]; rfl, by have := hbH.out; first | (refine below_drewN ?_ _; go_grown; done) | go_grown⟩
        · have hE : Hid (okV vs k = true) := hkH.out.2 ⟨y0, y1, x0, x1, fun h => absurd h hk0⟩
          obtain rfl : k = 0 := by omega
          simp only [Nat.zero_mul, Nat.add_zero] at e0 e1
          have hd : decide ((0 : Int) < ((0 : Nat) : Int)) = false := by simp
          go_wp2
          go_quiet (fail)
          go_wp2
          go_roundw
          case rel =>
            refine ⟨1, by omega, rfl, fun r hr => ?_, by have := hbH.out; first | (refine below_drewN ?_ _; go_grown; done) | go_grown⟩
            obtain rfl : r = 0 := by omega
            exact hE.out
          case measure => simp [intOf]; omega
      · have hE : Hid (validV vs = false) := validV_no hlt (by rw [Bool.eq_false_iff]; intro h; have := hkH.out.1 h; omega)
        by_cases y0 : 0 ≤ y
        rotate_left
        · clear hg
          have d1 : decide (y < 0) = true := by simp; omega
          go_wp2
          go_ret
          exact ⟨by rw [hE.out]; rfl, by have := hbH.out; first | (refine below_drewN ?_ _; go_grown; done) | go_grown⟩
        have d1 : decide (y < 0) = false := by simp; omega
        by_cases y1 : y ≤ 4294967295
        rotate_left
        · clear hg
          have d2 : decide (4294967295 < y) = true := by simp; omega
          go_wp2
          go_ret
          exact ⟨by rw [hE.out]; rfl, by have := hbH.out; first | (refine below_drewN ?_ _; go_grown; done) | go_grown⟩
        have d2 : decide (4294967295 < y) = false := by simp; omega
        by_cases x0 : 0 ≤ x
        rotate_left
        · clear hg
          have d3 : decide (x < 0) = true := by simp; omega
          go_wp2
          go_ret
          exact ⟨by rw [hE.out]; rfl, by have := hbH.out; first | (refine below_drewN ?_ _; go_grown; done) | go_grown⟩
        have d3 : decide (x < 0) = false := by simp; omega
        have x1 : 3 < x := by omega
        have d4 : decide (3 < x) = true := by simp; omega
        clear hg
        go_wp2
        go_ret
        exact ⟨by rw [hE.out]; rfl, by have := hbH.out; first | (refine below_drewN ?_ _; go_grown; done) | go_grown⟩
    · go_wp2
      go_ret
      exact ⟨by rw [validV_yes h8 (fun r hr => hokH.out r (by omega))]; rfl, hbH.out⟩

set_option maxHeartbeats 4000000 in
theorem rvalid_any (A : Option Addr) (cap : Nat) (vs : List Veh) (w : World) (hA : Vehs w w.heap.size A vs) (hm : vs.length ≤ 9223372036854775807) :
    Calls Try.prog 18 #[.slice A vs.length cap] w fun e w' => e = .returned (.bool (validV vs)) ∧ Below w.heap.size w w' := by
  have HA := Lib.hid hA
  clear hA
  go_enter Try.func18, Try.ntmps18
  go_wp2
  go_loopw [7] (fun v wr => ∃ k : Nat, k ≤ vs.length ∧ v = .int .i64 k ∧ (∀ r, r < k → okV vs r = true) ∧ Below w.heap.size w wr) (fun v _ => vs.length - (intOf v).toNat)
  case atStart => exact ⟨0, by omega, rfl, by simp, Below.refl _ _⟩
  case round =>
    obtain ⟨k, hk, rfl, hok, hb⟩ := hrel
    have hz := hb.size
    have hbH := Lib.hid hb
    have hokH := Lib.hid hok
    clear hb hok
    by_cases hlt : k < vs.length
    · obtain ⟨b, off, rfl, hbl, hc0, hc1⟩ := HA.out k hlt
      have e0 := (hbH.out.cell (p := ⟨b, off + k * 2, none⟩) hbl).trans hc0
      have e1 := (hbH.out.cell (p := ⟨b, off + k * 2 + 1, none⟩) hbl).trans hc1
      clear hc0 hc1
      have hbz : b < wr.heap.size := by omega
      have hkH : Hid (okV vs k = true ↔ (0 ≤ (vs.getD k vz).id ∧ (vs.getD k vz).id ≤ 4294967295 ∧ 0 ≤ (vs.getD k vz).cl ∧ (vs.getD k vz).cl ≤ 3 ∧ (0 < k → (vs.getD (k - 1) vz).id < (vs.getD k vz).id))) := okV_iff vs k
      have hprev : Hid (0 < k → wr.cell? ⟨b, off + (k - 1) * 2, none⟩ = some (.int .i64 (vs.getD (k - 1) vz).id)) := by
        intro hk0
        obtain ⟨b', off', he, hbl', hd0, hd1⟩ := HA.out (k - 1) (by omega)
        injection he with he
        injection he with he1 he2
        subst he1 he2
        exact (hbH.out.cell (p := ⟨b, off + (k - 1) * 2, none⟩) hbl').trans hd0
      obtain ⟨x, hx⟩ : ∃ x, x = (vs.getD k vz).cl := ⟨_, rfl⟩
      obtain ⟨y, hy⟩ : ∃ y, y = (vs.getD k vz).id := ⟨_, rfl⟩
      obtain ⟨z, hzz⟩ : ∃ y, y = (vs.getD (k - 1) vz).id := ⟨_, rfl⟩
      rw [← hx] at e1 hkH
      rw [← hy] at e0 hkH
      rw [← hzz] at hprev hkH
      clear hx hy hzz
      by_cases hg : 0 ≤ y ∧ y ≤ 4294967295 ∧ 0 ≤ x ∧ x ≤ 3
      · obtain ⟨y0, y1, x0, x1⟩ := hg
        have d1 : decide (y < 0) = false := by simp; omega
        have d2 : decide (4294967295 < y) = false := by simp; omega
        have d3 : decide (x < 0) = false := by simp; omega
        have d4 : decide (3 < x) = false := by simp; omega
        by_cases hk0 : 0 < k
        · have ep := hprev.out hk0
          have hw1 : IntKind.i64.wrap ((k : Int) - 1) = ((k - 1 : Nat) : Int) := by rw [IntKind.wrap_i64]; omega
          have hi1 : (0 : Int) ≤ ((k - 1 : Nat) : Int) := by omega
          have hi2 : ((k - 1 : Nat) : Int) < (vs.length : Int) := by omega
          have hi3 : (0 : Int) < (k : Int) := by omega
          have hd : decide ((0 : Int) < (k : Int)) = true := by simp; omega
          generalize hk1 : k - 1 = k1 at ep hw1 hi1 hi2
          clear hk1
          by_cases hyz : z < y
          · have hE : Hid (okV vs k = true) := hkH.out.2 ⟨y0, y1, x0, x1, fun _ => hyz⟩
            go_wp2
            go_quiet (fail)
            go_wp2
            go_roundw
            case rel =>
              refine ⟨k + 1, by omega, by go_num, fun r hr => ?_, by have := hbH.out; first | (refine below_drewN ?_ _; go_grown; done) | go_grown⟩
              by_cases hrk : r < k
              · exact hokH.out r hrk
              · obtain rfl : r = k := by omega
                exact hE.out
            case measure => simp [intOf]; omega
          · have hE : Hid (validV vs = false) := validV_no hlt (by rw [Bool.eq_false_iff]; intro h; have := hkH.out.1 h; omega)
            go_wp2
            go_quiet (fail)
            go_wp2
            go_ret
            exact ⟨by rw [hE.out]; rfl, by have := hbH.out; first | (refine below_drewN ?_ _; go_grown; done) | go_grown⟩
        · have hE : Hid (okV vs k = true) := hkH.out.2 ⟨y0, y1, x0, x1, fun h => absurd h hk0⟩
          obtain rfl : k = 0 := by omega
          simp only [Nat.zero_mul, Nat.add_zero] at e0 e1
          have hd : decide ((0 : Int) < ((0 : Nat) : Int)) = false := by simp
          go_wp2
          go_quiet (fail)
          go_wp2
          go_roundw
          case rel =>
            refine ⟨1, by omega, rfl, fun r hr => ?_, by have := hbH.out; first | (refine below_drewN ?_ _; go_grown; done) | go_grown⟩
            obtain rfl : r = 0 := by omega
            exact hE.out
          case measure => simp [intOf]; omega
      · have hE : Hid (validV vs = false) := validV_no hlt (by rw [Bool.eq_false_iff]; intro h; have := hkH.out.1 h; omega)
        by_cases y0 : 0 ≤ y
        rotate_left
        · clear hg
          have d1 : decide (y < 0) = true := by simp; omega
          go_wp2
          go_quiet (fail)
          go_wp2
          go_ret
          exact ⟨by rw [hE.out]; rfl, by have := hbH.out; first | (refine below_drewN ?_ _; go_grown; done) | go_grown⟩
        have d1 : decide (y < 0) = false := by simp; omega
        by_cases y1 : y ≤ 4294967295
        rotate_left
        · clear hg
          have d2 : decide (4294967295 < y) = true := by simp; omega
          go_wp2
          go_quiet (fail)
          go_wp2
          go_ret
          exact ⟨by rw [hE.out]; rfl, by have := hbH.out; first | (refine below_drewN ?_ _; go_grown; done) | go_grown⟩
        have d2 : decide (4294967295 < y) = false := by simp; omega
        by_cases x0 : 0 ≤ x
        rotate_left
        · clear hg
          have d3 : decide (x < 0) = true := by simp; omega
          go_wp2
          go_quiet (fail)
          go_wp2
          go_ret
          exact ⟨by rw [hE.out]; rfl, by have := hbH.out; first | (refine below_drewN ?_ _; go_grown; done) | go_grown⟩
        have d3 : decide (x < 0) = false := by simp; omega
        have x1 : 3 < x := by omega
        have d4 : decide (3 < x) = true := by simp; omega
        clear hg
        go_wp2
        go_quiet (fail)
        go_wp2
        go_ret
        exact ⟨by rw [hE.out]; rfl, by have := hbH.out; first | (refine below_drewN ?_ _; go_grown; done) | go_grown⟩
    · by_cases h8 : vs.length ≤ 8
      · have hE := Lib.hid (validV_yes h8 (fun r hr => hokH.out r (by omega)))
        go_wp2
        go_ret
        exact ⟨by rw [hE.out]; simp; omega, hbH.out⟩
      · have hE := Lib.hid (validV_long h8)
        go_wp2
        go_ret
        exact ⟨by rw [hE.out]; simp; omega, hbH.out⟩

/-- The place of the first vehicle whose number is not less than id, from k on. -/
def placeTo (vs : List Veh) (id : Int) : Nat := ((List.range vs.length).find? fun k => decide (id ≤ (vs.getD k vz).id)).getD vs.length
theorem placeTo_at {vs : List Veh} {id : Int} {k : Nat} (hk : k < vs.length) (h : id ≤ (vs.getD k vz).id) (hb : ∀ r, r < k → (vs.getD r vz).id < id) : placeTo vs id = k := by
  unfold placeTo
  have : (List.range vs.length).find? (fun k => decide (id ≤ (vs.getD k vz).id)) = some k := by
    rw [List.find?_range_eq_some]
    refine ⟨by simpa using h, by simpa using hk, fun r hr => ?_⟩
    have := hb r hr
    simp at this ⊢
    omega
  rw [this]; rfl
theorem placeTo_end {vs : List Veh} {id : Int} (hb : ∀ r, r < vs.length → (vs.getD r vz).id < id) : placeTo vs id = vs.length := by
  unfold placeTo
  have : (List.range vs.length).find? (fun k => decide (id ≤ (vs.getD k vz).id)) = none := by
    rw [List.find?_eq_none]
    intro r hr
    have := hb r (by simpa using hr)
    simp at this ⊢
    omega
  rw [this]; rfl

set_option maxHeartbeats 400000 in
theorem place_any (A : Option Addr) (cap B : Nat) (vs : List Veh) (id : Int) (w : World) (hA : Vehs w B A vs) (hm : vs.length ≤ 9223372036854775807) :
    Calls Try.prog 25 #[.slice A vs.length cap, .int .i64 id] w fun e w' => e = .returned (.int .i64 (placeTo vs id)) ∧ w = w' := by
  have HA := Lib.hid hA
  clear hA
  go_enter Try.func25, Try.ntmps25
  go_wp2
  go_loop [5] (fun v5 => ∃ k : Nat, k ≤ vs.length ∧ v5 = .int .i64 k ∧ (∀ r, r < k → (vs.getD r vz).id < id)) (fun v5 => vs.length - (intOf v5).toNat)
  case atStart => exact ⟨0, by omega, rfl, by simp⟩
  case round =>
    obtain ⟨k, hk, rfl, hno⟩ := hrel
    have hnoH := Lib.hid hno
    clear hno
    by_cases hlt : k < vs.length
    · obtain ⟨b, off, rfl, hbl, hc0, _⟩ := HA.out k hlt
      have hy' : Hid ((vs.getD k vz).id = (vs.getD k vz).id) := rfl
      obtain ⟨y, hy⟩ : ∃ y, y = (vs.getD k vz).id := ⟨_, rfl⟩
      rw [← hy] at hc0
      have hyH := Lib.hid hy
      clear hy hy'
      by_cases hx : y < id
      · go_wp2
        go_round
        case rel =>
          refine ⟨k + 1, by omega, by go_num, fun r hr => ?_⟩
          by_cases hrk : r < k
          · exact hnoH.out r hrk
          · obtain rfl : r = k := by omega
            rw [← hyH.out]; exact hx
        case measure => simp [intOf]; omega
      · have hE : Hid (placeTo vs id = k) := placeTo_at hlt (by rw [← hyH.out]; omega) hnoH.out
        go_wp2
        go_ret
        exact ⟨by rw [hE.out]; rfl, rfl⟩
    · obtain rfl : k = vs.length := by omega
      have hE : Hid (placeTo vs id = vs.length) := placeTo_end hnoH.out
      go_wp2
      go_ret
      exact ⟨by rw [hE.out]; rfl, rfl⟩

end Go.Proofs.Ytobeediccmmjhaa
