/- The plain law of VehicleOrder, and the contract of the reference's Same on equal lists. -/
import Derived.Test.YtobeediccmmjhaaVehL
namespace Go.Proofs.Ytobeediccmmjhaa
open Go.RowKit
set_option linter.unusedVariables false
set_option linter.unusedSimpArgs false

theorem sorted_ext : ∀ (xs ys : List Veh), xs.Pairwise (fun a b => a.id < b.id) → ys.Pairwise (fun a b => a.id < b.id) → (∀ v, v ∈ xs ↔ v ∈ ys) → xs = ys
  | [], ys, _, _, h => by
    cases ys with
    | nil => rfl
    | cons b ys => exact absurd ((h b).2 (List.mem_cons_self ..)) (by simp)
  | a :: xs, [], _, _, h => absurd ((h a).1 (List.mem_cons_self ..)) (by simp)
  | a :: xs, b :: ys, hx, hy, h => by
    rw [List.pairwise_cons] at hx hy
    have e : a = b := by
      have ha := (h a).1 (List.mem_cons_self ..)
      have hb := (h b).2 (List.mem_cons_self ..)
      rw [List.mem_cons] at ha hb
      rcases ha with e | ha
      · exact e
      · rcases hb with e | hb
        · exact e.symm
        · have := hx.1 b hb
          have := hy.1 a ha
          omega
    subst e
    rw [sorted_ext xs ys hx.2 hy.2 fun v => ?_]
    have := h v
    rw [List.mem_cons, List.mem_cons] at this
    constructor
    · intro hv
      rcases this.1 (.inr hv) with e | e
      · subst e; have := hx.1 v hv; omega
      · exact e
    · intro hv
      rcases this.2 (.inr hv) with e | e
      · subst e; have := hy.1 v hv; omega
      · exact e
theorem sorted_len : ∀ (l : List Int) (lo hi : Int), l.Pairwise (· < ·) → (∀ z ∈ l, lo ≤ z ∧ z < hi) → lo ≤ hi → (l.length : Int) ≤ hi - lo
  | [], lo, hi, _, _, h => by simp; omega
  | a :: l, lo, hi, hp, hb, h => by
    rw [List.pairwise_cons] at hp
    have ha := hb a (List.mem_cons_self ..)
    have := sorted_len l (a + 1) hi hp.2 (fun z hz => ⟨by have := hp.1 z hz; omega, (hb z (List.mem_cons_of_mem _ hz)).2⟩) (by omega)
    simp only [List.length_cons]
    omega

def l8 : List Int := [8, 8, 8, 8]
theorem limV_l8 (c : Int) (h0 : 0 ≤ c) (h1 : c ≤ 3) : limV l8 c = 8 := by
  have : c = 0 ∨ c = 1 ∨ c = 2 ∨ c = 3 := by omega
  rcases this with rfl | rfl | rfl | rfl <;> decide
/-- The list holds just the numbers of T, each with its class. -/
structure Good (xs : List Veh) (T : Int → Prop) : Prop where
  valid : validV xs = true
  cls : ∀ v ∈ xs, 0 ≤ v.id ∧ v.id ≤ 7 ∧ v.cl = v.id % 4
  mem : ∀ z, (∃ v ∈ xs, v.id = z) ↔ T z
theorem Good.pw {xs : List Veh} {T : Int → Prop} (h : Good xs T) : xs.Pairwise (fun a b => a.id < b.id) := ((validV_iff xs).1 h.valid).2.2
theorem Good.nil : Good [] (fun _ => False) := ⟨by decide, by simp, by simp⟩
theorem Good.eq {xs ys : List Veh} {T : Int → Prop} (h : Good xs T) (k : Good ys T) : xs = ys := by
  refine sorted_ext xs ys h.pw k.pw fun v => ?_
  have key : ∀ {a1 b1 : List Veh}, Good a1 T → Good b1 T → v ∈ a1 → v ∈ b1 := by
    intro a1 b1 ha hb hv
    obtain ⟨u, hu, e⟩ := (hb.mem v.id).2 ((ha.mem v.id).1 ⟨v, hv, rfl⟩)
    have e1 := (ha.cls v hv).2.2
    have e2 := (hb.cls u hu).2.2
    have : u = v := by
      obtain ⟨a, b⟩ := u
      obtain ⟨c, d⟩ := v
      simp only at e e1 e2
      subst e
      rw [e1, e2]
    rwa [← this]
  exact ⟨key h k, key k h⟩
theorem Good.eqT {xs ys : List Veh} {T S : Int → Prop} (h : Good xs T) (k : Good ys S) (e : ∀ z, T z ↔ S z) : xs = ys :=
  h.eq ⟨k.valid, k.cls, fun z => (k.mem z).trans (e z).symm⟩
theorem Good.len {xs : List Veh} {T : Int → Prop} (h : Good xs T) : xs.length ≤ 8 := ((validV_iff xs).1 h.valid).1
theorem ids_len {xs : List Veh} (hp : xs.Pairwise (fun a b => a.id < b.id)) {lo hi : Int} (hb : ∀ v ∈ xs, lo ≤ v.id ∧ v.id < hi) (h : lo ≤ hi) : (xs.length : Int) ≤ hi - lo := by
  have := sorted_len (xs.map (·.id)) lo hi (List.pairwise_map.2 hp) (fun z hz => by
    obtain ⟨v, hv, rfl⟩ := List.mem_map.1 hz
    exact hb v hv) h
  simpa using this
theorem countTo_len (vs : List Veh) (c : Int) : countTo vs c vs.length ≤ vs.length := countTo_le vs c vs.length

/-- Registering one of the eight numbers. -/
theorem Good.reg {xs : List Veh} {T : Int → Prop} (h : Good xs T) {k : Int} (h0 : 0 ≤ k) (h7 : k ≤ 7) : regE xs 3 l8 k (k % 4) = if hasId xs k = true then 11 else 0 := by
  have hc0 : 0 ≤ k % 4 := Int.emod_nonneg _ (by omega)
  have hc1 : k % 4 < 4 := Int.emod_lt_of_pos _ (by omega)
  unfold regE
  rw [if_neg (by rw [h.valid]; decide), if_neg (by omega), if_neg (by omega)]
  by_cases hh : hasId xs k = true
  · rw [if_pos hh, if_pos hh]
  · rw [if_neg hh, if_neg hh]
    have hn : hasId xs k = false := by simpa using hh
    have hl : xs.length < 8 := by
      have hp := ins_pairwise (v := ⟨k, k % 4⟩) h.pw hn
      have := ids_len hp (lo := 0) (hi := 8) (fun v hv => by
        rcases mem_ins.1 hv with rfl | hv
        · exact ⟨h0, by show k < 8; omega⟩
        · have := h.cls v hv; omega) (by omega)
      rw [ins_length _ _ _ (placeTo_le _ _)] at this
      omega
    have hct := countTo_len xs (k % 4)
    rw [if_neg (by rw [limV_l8 _ hc0 (by omega)]; omega), if_neg (by omega)]
theorem Good.regd {xs : List Veh} {T : Int → Prop} (h : Good xs T) {k : Int} (h0 : 0 ≤ k) (h7 : k ≤ 7) (he : regE xs 3 l8 k (k % 4) = 0) : Good (regL xs 3 l8 k (k % 4)) (fun z => z = k ∨ T z) := by
  refine ⟨?_, ?_, ?_⟩
  · unfold regL; rw [if_pos he]; exact reg_valid (by omega) he
  · unfold regL; rw [if_pos he]
    intro v hv
    rcases mem_ins.1 hv with rfl | hv
    · exact ⟨h0, h7, rfl⟩
    · exact h.cls v hv
  · unfold regL; rw [if_pos he]
    intro z
    constructor
    · rintro ⟨v, hv, rfl⟩
      rcases mem_ins.1 hv with rfl | hv
      · exact .inl rfl
      · exact .inr ((h.mem _).1 ⟨v, hv, rfl⟩)
    · rintro (rfl | hz)
      · exact ⟨_, mem_ins.2 (.inl rfl), rfl⟩
      · obtain ⟨v, hv, e⟩ := (h.mem z).2 hz
        exact ⟨v, mem_ins.2 (.inr hv), e⟩
theorem Good.kept {xs : List Veh} {T : Int → Prop} (h : Good xs T) {k : Int} (h0 : 0 ≤ k) (h7 : k ≤ 7) (he : regE xs 3 l8 k (k % 4) ≠ 0) : regE xs 3 l8 k (k % 4) = 11 ∧ Good xs (fun z => z = k ∨ T z) := by
  have hr := h.reg h0 h7
  by_cases hh : hasId xs k = true
  · rw [if_pos hh] at hr
    refine ⟨hr, h.valid, h.cls, fun z => ?_⟩
    rw [h.mem z]
    constructor
    · exact .inr
    · rintro (rfl | hz)
      · exact (h.mem _).1 ((hasId_iff h.pw).1 hh)
      · exact hz
  · rw [if_neg hh] at hr; exact absurd hr he

/-- Registering a ninth number. -/
theorem Good.big {xs : List Veh} {T : Int → Prop} (h : Good xs T) {k : Int} (h0 : 8 ≤ k) (h1 : k ≤ 1000) : regE xs 3 l8 k 1 = if 8 ≤ xs.length then 10 else 0 := by
  have hn : ¬ hasId xs k = true := by
    rw [hasId_iff h.pw]
    rintro ⟨v, hv, e⟩
    have := h.cls v hv
    omega
  have hc : countTo xs 1 xs.length ≤ 2 := by
    rw [countTo_eq, List.countP_eq_length_filter]
    have hp : (xs.filter (fun v => v.cl == 1)).Pairwise (fun a b => a.id < b.id) := h.pw.filter _
    have hm : ∀ v ∈ xs.filter (fun v => v.cl == 1), 0 ≤ v.id ∧ v.id ≤ 7 ∧ v.id % 4 = 1 := by
      intro v hv
      rw [List.mem_filter] at hv
      have a := h.cls v hv.1
      have b : v.cl = 1 := by simpa using hv.2
      omega
    have hq : ((xs.filter (fun v => v.cl == 1)).map (fun v => v.id / 4)).Pairwise (· < ·) := by
      rw [List.pairwise_map]
      refine List.Pairwise.imp_of_mem ?_ hp
      intro a b ha hb hab
      have := hm a ha
      have := hm b hb
      omega
    have := sorted_len _ 0 2 hq (fun z hz => by
      obtain ⟨v, hv, rfl⟩ := List.mem_map.1 hz
      have := hm v hv
      omega) (by omega)
    rw [List.length_map] at this
    omega
  unfold regE
  rw [if_neg (by rw [h.valid]; decide), if_neg (by omega), if_neg (by omega), if_neg hn, if_neg (by rw [limV_l8 1 (by omega) (by omega)]; omega)]

/-- Where a new vehicle lies. -/
theorem place_ins {xs : List Veh} {v : Veh} (hp : xs.Pairwise (fun a b => a.id < b.id)) (hn : hasId xs v.id = false) : placeTo (ins xs (placeTo xs v.id) v) v.id = placeTo xs v.id ∧ (ins xs (placeTo xs v.id) v).getD (placeTo xs v.id) vz = v := by
  have hle := placeTo_le xs v.id
  have hl := ins_length xs (placeTo xs v.id) v hle
  have htl : (xs.take (placeTo xs v.id)).length = placeTo xs v.id := by simp; omega
  have hv : (ins xs (placeTo xs v.id) v).getD (placeTo xs v.id) vz = v := by
    unfold ins
    rw [List.getD, List.getElem?_append_right (by omega), htl]
    simp
  refine ⟨placeTo_at (by omega) (by rw [hv]; exact Int.le_refl _) fun r hr => ?_, hv⟩
  have : (ins xs (placeTo xs v.id) v).getD r vz = xs.getD r vz := by
    unfold ins
    rw [List.getD, List.getD, List.getElem?_append_left (by omega), List.getElem?_take_of_lt hr]
  rw [this]
  exact placeTo_before hr
theorem rem_ins {xs : List Veh} {v : Veh} (hp : xs.Pairwise (fun a b => a.id < b.id)) (hn : hasId xs v.id = false) (hv : validV (ins xs (placeTo xs v.id) v) = true) : remE (ins xs (placeTo xs v.id) v) v.id = 0 ∧ remL (ins xs (placeTo xs v.id) v) v.id = xs := by
  obtain ⟨h1, h2⟩ := place_ins hp hn
  have hle := placeTo_le xs v.id
  have hl := ins_length xs (placeTo xs v.id) v hle
  have he : remE (ins xs (placeTo xs v.id) v) v.id = 0 := by
    unfold remE hasId
    rw [if_neg (by rw [hv]; decide), h1, h2, decide_eq_true (by omega), if_pos (by simp)]
  refine ⟨he, ?_⟩
  unfold remL
  rw [if_pos he, h1]
  have htl : (xs.take (placeTo xs v.id)).length = placeTo xs v.id := by simp; omega
  have e1 : (ins xs (placeTo xs v.id) v).take (placeTo xs v.id) = xs.take (placeTo xs v.id) := by
    unfold ins
    rw [List.take_append_of_le_length (by omega), List.take_take, Nat.min_self]
  have e2 : (ins xs (placeTo xs v.id) v).drop (placeTo xs v.id + 1) = xs.drop (placeTo xs v.id) := by
    unfold ins
    rw [List.drop_append, htl, List.drop_eq_nil_of_le (by omega)]
    have : placeTo xs v.id + 1 - placeTo xs v.id = 1 := by omega
    rw [this]
    rfl
  rw [e1, e2, List.take_append_drop]
theorem find_ins {xs : List Veh} {v : Veh} (hp : xs.Pairwise (fun a b => a.id < b.id)) (hn : hasId xs v.id = false) : foundV (ins xs (placeTo xs v.id) v) v.id = .tuple #[v.val, .bool true] := by
  obtain ⟨h1, h2⟩ := place_ins hp hn
  have hle := placeTo_le xs v.id
  have hl := ins_length xs (placeTo xs v.id) v hle
  unfold foundV
  rw [findAt_some (k := placeTo xs v.id) (by omega) (by rw [h2]) (fun r hr => ?_)]
  · show Value.tuple #[((ins xs (placeTo xs v.id) v).getD (placeTo xs v.id) vz).val, .bool true] = _
    rw [h2]
  · rw [← h1] at hr
    have := placeTo_before hr
    omega

set_option maxHeartbeats 1000000 in
theorem same_any (A A2 : Option Addr) (cap cap2 : Nat) (us : List Veh) (w : World) (hA : Vehs w w.heap.size A us) (hA2 : Vehs w w.heap.size A2 us) (hm : us.length ≤ 1000) :
    Calls Try.prog 24 #[.slice A us.length cap, .slice A2 us.length cap2] w fun e w' => e = .returned (.bool true) ∧ Below w.heap.size w w' := by
  have HA := Lib.hid hA
  have HA2 := Lib.hid hA2
  clear hA hA2
  go_enter Try.func24, Try.ntmps24
  go_wp2_with fail
  go_loopw [14] (fun v14 wr => ∃ k : Nat, k ≤ us.length ∧ v14 = .int .i64 k ∧ Below w.heap.size w wr) (fun v14 _ => us.length - (intOf v14).toNat)
  case atStart => exact ⟨0, by omega, rfl, Below.refl _ _⟩
  case round =>
    obtain ⟨k, hk, rfl, hb⟩ := hrel
    have hz := hb.size
    have hbH := Lib.hid hb
    by_cases hlt : k < us.length
    · have hkl : (k : Int) < (us.length : Int) := by omega
      obtain ⟨b, off, rfl, hbl, hc0, hc1⟩ := (HA.out.below hb) k hlt
      obtain ⟨b2, off2, rfl, hbl2, hd0, hd1⟩ := (HA2.out.below hb) k hlt
      generalize (us.getD k vz).id = x at hc0 hd0
      generalize (us.getD k vz).cl = y at hc1 hd1
      have hbz : b < wr.heap.size := by omega
      have hbz2 : b2 < wr.heap.size := by omega
      clear hb
      go_wp2_with fail
      go_quiet (fail)
      go_wp2_with fail
      go_roundw
      case rel => exact ⟨k + 1, by omega, by go_num, by have := hbH.out; first | (refine below_drewN ?_ _; go_grown; done) | go_grown⟩
      case measure => simp [intOf]; omega
    · have hkl : ¬ (k : Int) < (us.length : Int) := by omega
      go_wp2_with fail
      go_ret
      exact ⟨rfl, hbH.out⟩

end Go.Proofs.Ytobeediccmmjhaa
