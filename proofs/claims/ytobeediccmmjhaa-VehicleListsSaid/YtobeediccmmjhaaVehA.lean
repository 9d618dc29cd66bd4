/- Contracts of signalbroker/vehicle and of the reference of layer 15: Valid, Find, Count. -/
import Derived.Test.YtobeediccmmjhaaBase
import Derived.Deep.QuietTactic
import Derived.BigQuiet
namespace Go.Proofs.Ytobeediccmmjhaa
open Go.RowKit
set_option linter.unusedVariables false
set_option linter.unusedSimpArgs false

structure Veh where
  id : Int
  cl : Int
abbrev Veh.val (v : Veh) : Value := .agg #[.int .i64 v.id, .int .i64 v.cl]
def vz : Veh := ⟨0, 0⟩

/-- The slice value '.slice A vs.length cap' reads as the vehicles vs, below block B. -/
def Vehs (w : World) (B : Nat) (A : Option Addr) (vs : List Veh) : Prop :=
  ∀ i, i < vs.length → ∃ b off, A = some ⟨b, off, none⟩ ∧ b < B ∧ w.cell? ⟨b, off + i * 2, none⟩ = some (.int .i64 (vs.getD i vz).id) ∧ w.cell? ⟨b, off + i * 2 + 1, none⟩ = some (.int .i64 (vs.getD i vz).cl)
theorem Vehs.below {w w' : World} {B : Nat} {A : Option Addr} {vs : List Veh} (h : Vehs w B A vs) (hb : Below B w w') : Vehs w' B A vs := fun i hi => by
  obtain ⟨b, off, e, hlt, hc, hd⟩ := h i hi
  exact ⟨b, off, e, hlt, (hb.cell (p := ⟨b, off + i * 2, none⟩) hlt).trans hc, (hb.cell (p := ⟨b, off + i * 2 + 1, none⟩) hlt).trans hd⟩
theorem Vehs.more {w : World} {B B' : Nat} {A : Option Addr} {vs : List Veh} (h : Vehs w B A vs) (hB : B ≤ B') : Vehs w B' A vs := fun i hi => by
  obtain ⟨b, off, e, hlt, hc⟩ := h i hi
  exact ⟨b, off, e, by omega, hc⟩

/-- How many of the first k have the class c. -/
def countTo (vs : List Veh) (c : Int) : Nat → Nat
  | 0 => 0
  | k + 1 => countTo vs c k + if (vs.getD k vz).cl = c then 1 else 0
theorem countTo_le (vs : List Veh) (c : Int) (k : Nat) : countTo vs c k ≤ k := by
  induction k with
  | zero => exact Nat.le_refl _
  | succ k ih => unfold countTo; split <;> omega

set_option maxHeartbeats 400000 in
theorem count_any (A : Option Addr) (cap : Nat) (vs : List Veh) (c : Int) (w : World) (hA : Vehs w w.heap.size A vs) (hm : vs.length ≤ 9223372036854775807) :
    Calls Try.prog 14 #[.slice A vs.length cap, .int .i64 c] w fun e w' => e = .returned (.int .i64 (countTo vs c vs.length)) ∧ Below w.heap.size w w' := by
  have HA := Lib.hid hA
  clear hA
  go_enter Try.func14, Try.ntmps14
  go_wp2
  go_loopw [5, 10] (fun v5 v10 wr => ∃ k : Nat, k ≤ vs.length ∧ v10 = .int .i64 k ∧ v5 = .int .i64 (countTo vs c k) ∧ Below w.heap.size w wr) (fun _ v10 _ => vs.length - (intOf v10).toNat)
  case atStart => exact ⟨0, by omega, rfl, rfl, Below.refl _ _⟩
  case round =>
    obtain ⟨k, hk, rfl, rfl, hb⟩ := hrel
    have hz := hb.size
    have hbH := Lib.hid hb
    clear hb
    by_cases hlt : k < vs.length
    · obtain ⟨b, off, rfl, hbl, hc0, hc1⟩ := HA.out k hlt
      have e0 := (hbH.out.cell (p := ⟨b, off + k * 2, none⟩) hbl).trans hc0
      have e1 := (hbH.out.cell (p := ⟨b, off + k * 2 + 1, none⟩) hbl).trans hc1
      clear hc0 hc1
      have hle := countTo_le vs c k
      have hs : Hid (countTo vs c (k + 1) = countTo vs c k + if (vs.getD k vz).cl = c then 1 else 0) := rfl
      generalize (vs.getD k vz).cl = x at e1 hs
      generalize (vs.getD k vz).id = y at e0
      have hbz : b < wr.heap.size := by omega
      by_cases hx : x = c
      · have t0 : (x == c) = true := by simp [hx]
        have hxH := Lib.hid hx
        clear hx
        go_wp2
        go_roundw
        case rel => exact ⟨k + 1, by omega, by go_num, by rw [hs.out, if_pos hxH.out]; simp, by have := hbH.out; go_grown⟩
        case measure => simp [intOf]; omega
      · have t0 : (x == c) = false := by simpa using hx
        have hxH := Lib.hid hx
        clear hx
        go_wp2
        go_roundw
        case rel => exact ⟨k + 1, by omega, by go_num, by rw [hs.out, if_neg hxH.out]; rfl, by have := hbH.out; go_grown⟩
        case measure => simp [intOf]; omega
    · obtain rfl : k = vs.length := by omega
      go_wp2
      go_ret
      exact ⟨rfl, hbH.out⟩

set_option maxHeartbeats 400000 in
theorem rcount_any (A : Option Addr) (cap : Nat) (vs : List Veh) (c : Int) (w : World) (hA : Vehs w w.heap.size A vs) (hm : vs.length ≤ 9223372036854775807) :
    Calls Try.prog 21 #[.slice A vs.length cap, .int .i64 c] w fun e w' => e = .returned (.int .i64 (countTo vs c vs.length)) ∧ Below w.heap.size w w' := by
  have HA := Lib.hid hA
  clear hA
  go_enter Try.func21, Try.ntmps21
  go_wp2
  go_loopw [5, 10] (fun v5 v10 wr => ∃ k : Nat, k ≤ vs.length ∧ v10 = .int .i64 k ∧ v5 = .int .i64 (countTo vs c k) ∧ Below w.heap.size w wr) (fun _ v10 _ => vs.length - (intOf v10).toNat)
  case atStart => exact ⟨0, by omega, rfl, rfl, Below.refl _ _⟩
  case round =>
    obtain ⟨k, hk, rfl, rfl, hb⟩ := hrel
    have hz := hb.size
    have hbH := Lib.hid hb
    clear hb
    by_cases hlt : k < vs.length
    · obtain ⟨b, off, rfl, hbl, hc0, hc1⟩ := HA.out k hlt
      have e0 := (hbH.out.cell (p := ⟨b, off + k * 2, none⟩) hbl).trans hc0
      have e1 := (hbH.out.cell (p := ⟨b, off + k * 2 + 1, none⟩) hbl).trans hc1
      clear hc0 hc1
      have hle := countTo_le vs c k
      have hs : Hid (countTo vs c (k + 1) = countTo vs c k + if (vs.getD k vz).cl = c then 1 else 0) := rfl
      generalize (vs.getD k vz).cl = x at e1 hs
      generalize (vs.getD k vz).id = y at e0
      have hbz : b < wr.heap.size := by omega
      by_cases hx : x = c
      · have t0 : (x == c) = true := by simp [hx]
        have hxH := Lib.hid hx
        clear hx
        go_wp2
        go_roundw
        case rel => exact ⟨k + 1, by omega, by go_num, by rw [hs.out, if_pos hxH.out]; simp, by have := hbH.out; go_grown⟩
        case measure => simp [intOf]; omega
      · have t0 : (x == c) = false := by simpa using hx
        have hxH := Lib.hid hx
        clear hx
        go_wp2
        go_roundw
        case rel => exact ⟨k + 1, by omega, by go_num, by rw [hs.out, if_neg hxH.out]; rfl, by have := hbH.out; go_grown⟩
        case measure => simp [intOf]; omega
    · obtain rfl : k = vs.length := by omega
      go_wp2
      go_ret
      exact ⟨rfl, hbH.out⟩

/-- The place of the first vehicle with the number id, from k on. -/
def findAt (vs : List Veh) (id : Int) : Option Nat := (List.range vs.length).find? fun k => (vs.getD k vz).id == id
theorem findAt_some {vs : List Veh} {id : Int} {k : Nat} (hk : k < vs.length) (h : (vs.getD k vz).id = id) (hb : ∀ r, r < k → (vs.getD r vz).id ≠ id) : findAt vs id = some k := by
  unfold findAt
  rw [List.find?_range_eq_some]
  refine ⟨by simpa using h, by simpa using hk, fun r hr => ?_⟩
  simpa using hb r hr
theorem findAt_none {vs : List Veh} {id : Int} (h : ∀ r, r < vs.length → (vs.getD r vz).id ≠ id) : findAt vs id = none := by
  unfold findAt
  rw [List.find?_eq_none]
  intro r hr
  simpa using h r (by simpa using hr)
/-- What Find returns. -/
def foundV (vs : List Veh) (id : Int) : Value :=
  match findAt vs id with
  | some k => .tuple #[(vs.getD k vz).val, .bool true]
  | none => .tuple #[vz.val, .bool false]

set_option maxHeartbeats 400000 in
theorem find_any (A : Option Addr) (cap : Nat) (vs : List Veh) (id : Int) (w : World) (hA : Vehs w w.heap.size A vs) (hm : vs.length ≤ 9223372036854775807) :
    Calls Try.prog 19 #[.slice A vs.length cap, .int .i64 id] w fun e w' => e = .returned (foundV vs id) ∧ Below w.heap.size w w' := by
  have HA := Lib.hid hA
  clear hA
  go_enter Try.func19, Try.ntmps19
  go_wp2
  go_loopw [10] (fun v10 wr => ∃ k : Nat, k ≤ vs.length ∧ v10 = .int .i64 k ∧ (∀ r, r < k → (vs.getD r vz).id ≠ id) ∧ Box wr w.heap.size 38 #[.int .i64 0, .int .i64 0] ∧ Below w.heap.size w wr) (fun v10 _ => vs.length - (intOf v10).toNat)
  case atStart => exact ⟨0, by omega, rfl, by simp, Box.new _ _ _, (Below.refl _ _).alloc (Nat.le_refl _) _⟩
  case round =>
    obtain ⟨k, hk, rfl, hno, hbox, hb⟩ := hrel
    have hz := hbox.lt
    have hbH := Lib.hid hb
    have hnoH := Lib.hid hno
    have hboxH := Lib.hid hbox
    have g0 := hbox.cell 0
    have g1 := hbox.cell 1
    simp at g0 g1
    have f0 := hbox.frozen 0
    have f1 := hbox.frozen 1
    clear hb hno hbox
    by_cases hlt : k < vs.length
    · obtain ⟨b, off, rfl, hbl, hc0, hc1⟩ := HA.out k hlt
      have e0 := (hbH.out.cell (p := ⟨b, off + k * 2, none⟩) hbl).trans hc0
      have e1 := (hbH.out.cell (p := ⟨b, off + k * 2 + 1, none⟩) hbl).trans hc1
      clear hc0 hc1
      have hbz : b < wr.heap.size := by omega
      by_cases hx : (vs.getD k vz).id = id
      · have hE : Hid (foundV vs id = .tuple #[.agg #[.int .i64 (vs.getD k vz).id, .int .i64 (vs.getD k vz).cl], .bool true]) := by
          show foundV vs id = _
          unfold foundV
          rw [findAt_some hlt hx hnoH.out]
        have t0 : ((vs.getD k vz).id == id) = true := beq_iff_eq.2 hx
        clear hx
        generalize (vs.getD k vz).cl = x at e1 hE
        generalize (vs.getD k vz).id = y at e0 t0 hE
        go_wp2
        refine bodyPost_ret (v := .tuple #[.agg #[.int .i64 y, .int .i64 x], .bool true]) (by simp [results, Try.results19, go_sem, g0, g1, hz]) rfl ⟨by rw [hE.out], by have := hbH.out; go_grown⟩
      · have t0 : ((vs.getD k vz).id == id) = false := by simpa using hx
        have hxH : Hid ((vs.getD k vz).id ≠ id) := hx
        clear hx
        generalize (vs.getD k vz).cl = x at e1
        obtain ⟨y, hy⟩ : ∃ y, y = (vs.getD k vz).id := ⟨_, rfl⟩
        rw [← hy] at e0 t0
        clear hy
        go_wp2
        go_roundw
        case rel =>
          refine ⟨k + 1, by omega, by go_num, fun r hr => ?_, hboxH.out.alloc _, by have := hbH.out; go_grown⟩
          by_cases hrk : r < k
          · exact hnoH.out r hrk
          · obtain rfl : r = k := by omega
            exact hxH.out
        case measure => simp [intOf]; omega
    · have hE : Hid (foundV vs id = .tuple #[.agg #[.int .i64 0, .int .i64 0], .bool false]) := by
        show foundV vs id = _
        unfold foundV
        rw [findAt_none (fun r hr => hnoH.out r (by omega))]
        rfl
      go_wp2
      refine bodyPost_ret (v := .tuple #[.agg #[.int .i64 0, .int .i64 0], .bool false]) (by simp [results, Try.results19, go_sem, g0, g1, hz]) rfl ⟨by rw [hE.out], by have := hbH.out; go_grown⟩

set_option maxHeartbeats 400000 in
theorem rfind_any (A : Option Addr) (cap : Nat) (vs : List Veh) (id : Int) (w : World) (hA : Vehs w w.heap.size A vs) (hm : vs.length ≤ 9223372036854775807) :
    Calls Try.prog 20 #[.slice A vs.length cap, .int .i64 id] w fun e w' => e = .returned (foundV vs id) ∧ Below w.heap.size w w' := by
  have HA := Lib.hid hA
  clear hA
  go_enter Try.func20, Try.ntmps20
  go_wp2
  go_loopw [10] (fun v10 wr => ∃ k : Nat, k ≤ vs.length ∧ v10 = .int .i64 k ∧ (∀ r, r < k → (vs.getD r vz).id ≠ id) ∧ Box wr w.heap.size 38 #[.int .i64 0, .int .i64 0] ∧ Below w.heap.size w wr) (fun v10 _ => vs.length - (intOf v10).toNat)
  case atStart => exact ⟨0, by omega, rfl, by simp, Box.new _ _ _, (Below.refl _ _).alloc (Nat.le_refl _) _⟩
  case round =>
    obtain ⟨k, hk, rfl, hno, hbox, hb⟩ := hrel
    have hz := hbox.lt
    have hbH := Lib.hid hb
    have hnoH := Lib.hid hno
    have hboxH := Lib.hid hbox
    have g0 := hbox.cell 0
    have g1 := hbox.cell 1
    simp at g0 g1
    have f0 := hbox.frozen 0
    have f1 := hbox.frozen 1
    clear hb hno hbox
    by_cases hlt : k < vs.length
    · obtain ⟨b, off, rfl, hbl, hc0, hc1⟩ := HA.out k hlt
      have e0 := (hbH.out.cell (p := ⟨b, off + k * 2, none⟩) hbl).trans hc0
      have e1 := (hbH.out.cell (p := ⟨b, off + k * 2 + 1, none⟩) hbl).trans hc1
      clear hc0 hc1
      have hbz : b < wr.heap.size := by omega
      by_cases hx : (vs.getD k vz).id = id
      · have hE : Hid (foundV vs id = .tuple #[.agg #[.int .i64 (vs.getD k vz).id, .int .i64 (vs.getD k vz).cl], .bool true]) := by
          show foundV vs id = _
          unfold foundV
          rw [findAt_some hlt hx hnoH.out]
        have t0 : ((vs.getD k vz).id == id) = true := beq_iff_eq.2 hx
        clear hx
        generalize (vs.getD k vz).cl = x at e1 hE
        generalize (vs.getD k vz).id = y at e0 t0 hE
        go_wp2
        refine bodyPost_ret (v := .tuple #[.agg #[.int .i64 y, .int .i64 x], .bool true]) (by simp [results, Try.results20, go_sem, g0, g1, hz]) rfl ⟨by rw [hE.out], by have := hbH.out; go_grown⟩
      · have t0 : ((vs.getD k vz).id == id) = false := by simpa using hx
        have hxH : Hid ((vs.getD k vz).id ≠ id) := hx
        clear hx
        generalize (vs.getD k vz).cl = x at e1
        obtain ⟨y, hy⟩ : ∃ y, y = (vs.getD k vz).id := ⟨_, rfl⟩
        rw [← hy] at e0 t0
        clear hy
        go_wp2
        go_roundw
        case rel =>
          refine ⟨k + 1, by omega, by go_num, fun r hr => ?_, hboxH.out.alloc _, by have := hbH.out; go_grown⟩
          by_cases hrk : r < k
          · exact hnoH.out r hrk
          · obtain rfl : r = k := by omega
            exact hxH.out
        case measure => simp [intOf]; omega
    · have hE : Hid (foundV vs id = .tuple #[.agg #[.int .i64 0, .int .i64 0], .bool false]) := by
        show foundV vs id = _
        unfold foundV
        rw [findAt_none (fun r hr => hnoH.out r (by omega))]
        rfl
      go_wp2
      refine bodyPost_ret (v := .tuple #[.agg #[.int .i64 0, .int .i64 0], .bool false]) (by simp [results, Try.results20, go_sem, g0, g1, hz]) rfl ⟨by rw [hE.out], by have := hbH.out; go_grown⟩

end Go.Proofs.Ytobeediccmmjhaa
