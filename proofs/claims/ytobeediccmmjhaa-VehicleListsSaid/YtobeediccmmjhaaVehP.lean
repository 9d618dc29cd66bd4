/- The plain law of layer 15: valid lists, what registering and removing make of them. -/
import Derived.Test.YtobeediccmmjhaaVehF
namespace Go.Proofs.Ytobeediccmmjhaa
open Go.RowKit
set_option linter.unusedVariables false
set_option linter.unusedSimpArgs false

theorem countTo_take (vs : List Veh) (c : Int) (k : Nat) (hk : k ≤ vs.length) : countTo vs c k = (vs.take k).countP (fun v => v.cl == c) := by
  induction k with
  | zero => simp [countTo]
  | succ k ih =>
    have hlt : k < vs.length := hk
    rw [countTo, ih (by omega), List.take_add_one, List.countP_append, List.getElem?_eq_getElem hlt]
    have e : vs.getD k vz = vs[k] := by simp [List.getD, hlt]
    rw [e]
    simp only [Option.toList_some, List.countP_cons, List.countP_nil]
    by_cases h : vs[k].cl = c
    · simp [h]
    · simp [h]
theorem countTo_eq (vs : List Veh) (c : Int) : countTo vs c vs.length = vs.countP (fun v => v.cl == c) := by
  rw [countTo_take _ _ _ (Nat.le_refl _), List.take_length]

/-- The numbers of a vehicle are right. -/
def okR (v : Veh) : Prop := 0 ≤ v.id ∧ v.id ≤ 4294967295 ∧ 0 ≤ v.cl ∧ v.cl ≤ 3
theorem getD_mem {vs : List Veh} {i : Nat} (h : i < vs.length) : vs.getD i vz = vs[i] := by simp [List.getD, h]
theorem validV_iff (vs : List Veh) : validV vs = true ↔ vs.length ≤ 8 ∧ (∀ v ∈ vs, okR v) ∧ vs.Pairwise (fun a b => a.id < b.id) := by
  constructor
  · intro h
    obtain ⟨h8, hok⟩ := validV_ok h
    have hok2 := fun i hi => (okV_iff vs i).1 (hok i hi)
    refine ⟨h8, fun v hv => ?_, ?_⟩
    · obtain ⟨i, hi, rfl⟩ := List.getElem_of_mem hv
      have := hok2 i hi
      rw [getD_mem hi] at this
      exact ⟨this.1, this.2.1, this.2.2.1, this.2.2.2.1⟩
    · rw [List.pairwise_iff_getElem]
      intro i j hi hj hij
      have key : ∀ d, i + d + 1 < vs.length → (vs.getD i vz).id < (vs.getD (i + d + 1) vz).id := by
        intro d
        induction d with
        | zero =>
          intro hd
          have := (hok2 (i + 0 + 1) hd).2.2.2.2 (by omega)
          have e : i + 0 + 1 - 1 = i := by omega
          rw [e] at this
          exact this
        | succ d ih =>
          intro hd
          have h1 := ih (by omega)
          have := (hok2 (i + (d + 1) + 1) hd).2.2.2.2 (by omega)
          have e : i + (d + 1) + 1 - 1 = i + d + 1 := by omega
          rw [e] at this
          omega
      have := key (j - i - 1) (by omega)
      have e : i + (j - i - 1) + 1 = j := by omega
      rw [e, getD_mem hi, getD_mem hj] at this
      exact this
  · rintro ⟨h8, hr, hp⟩
    refine validV_yes h8 fun i hi => (okV_iff vs i).2 ?_
    rw [List.pairwise_iff_getElem] at hp
    have := hr vs[i] (List.getElem_mem _)
    rw [getD_mem hi]
    refine ⟨this.1, this.2.1, this.2.2.1, this.2.2.2, fun h0 => ?_⟩
    rw [getD_mem (show i - 1 < vs.length by omega)]
    exact hp (i - 1) i (by omega) hi (by omega)

theorem placeTo_before {vs : List Veh} {id : Int} {i : Nat} (hi : i < placeTo vs id) : (vs.getD i vz).id < id := by
  have hle := placeTo_le vs id
  unfold placeTo at hi
  cases h : (List.range vs.length).find? fun k => decide (id ≤ (vs.getD k vz).id) with
  | none =>
    rw [h] at hi
    rw [List.find?_eq_none] at h
    have := h i (by simpa using hi)
    simp at this ⊢
    exact this
  | some k =>
    rw [h] at hi
    rw [List.find?_range_eq_some] at h
    have := h.2.2 i hi
    simp at this ⊢
    exact this
theorem placeTo_here {vs : List Veh} {id : Int} (h : placeTo vs id < vs.length) : id ≤ (vs.getD (placeTo vs id) vz).id := by
  unfold placeTo at h ⊢
  cases hf : (List.range vs.length).find? fun k => decide (id ≤ (vs.getD k vz).id) with
  | none => rw [hf] at h; simp at h
  | some k =>
    rw [List.find?_range_eq_some] at hf
    simpa using hf.1
theorem take_lt {vs : List Veh} {id : Int} : ∀ v ∈ vs.take (placeTo vs id), v.id < id := by
  intro v hv
  obtain ⟨i, hi, rfl⟩ := List.getElem_of_mem hv
  rw [List.length_take] at hi
  have := placeTo_before (vs := vs) (id := id) (i := i) (by omega)
  rw [getD_mem (by omega)] at this
  rw [List.getElem_take]
  exact this
theorem drop_ge {vs : List Veh} {id : Int} (hp : vs.Pairwise (fun a b => a.id < b.id)) : ∀ v ∈ vs.drop (placeTo vs id), id ≤ v.id := by
  intro v hv
  obtain ⟨i, hi, rfl⟩ := List.getElem_of_mem hv
  rw [List.length_drop] at hi
  have h := placeTo_here (vs := vs) (id := id) (by omega)
  rw [getD_mem (by omega)] at h
  rw [List.getElem_drop]
  by_cases h0 : i = 0
  · subst h0; exact h
  · have := (List.pairwise_iff_getElem.1 hp) (placeTo vs id) (placeTo vs id + i) (by omega) (by omega) (by omega)
    omega
theorem drop_gt {vs : List Veh} {id : Int} (hp : vs.Pairwise (fun a b => a.id < b.id)) (hn : hasId vs id = false) : ∀ v ∈ vs.drop (placeTo vs id), id < v.id := by
  intro v hv
  have h1 := drop_ge hp v hv
  obtain ⟨i, hi, rfl⟩ := List.getElem_of_mem hv
  rw [List.length_drop] at hi
  rw [List.getElem_drop] at h1 ⊢
  unfold hasId at hn
  rw [decide_eq_true (by omega : placeTo vs id < vs.length), Bool.true_and, getD_mem (by omega)] at hn
  have hne : vs[placeTo vs id].id ≠ id := by simpa using hn
  have h := placeTo_here (vs := vs) (id := id) (by omega)
  rw [getD_mem (by omega)] at h
  by_cases h0 : i = 0
  · subst h0
    simp only [Nat.add_zero] at h1 ⊢
    omega
  · have := (List.pairwise_iff_getElem.1 hp) (placeTo vs id) (placeTo vs id + i) (by omega) (by omega) (by omega)
    omega
theorem hasId_iff {vs : List Veh} {id : Int} (hp : vs.Pairwise (fun a b => a.id < b.id)) : hasId vs id = true ↔ ∃ v ∈ vs, v.id = id := by
  constructor
  · intro h
    unfold hasId at h
    rw [Bool.and_eq_true, decide_eq_true_eq, beq_iff_eq] at h
    rw [getD_mem h.1] at h
    exact ⟨_, List.getElem_mem _, h.2⟩
  · rintro ⟨v, hv, rfl⟩
    cases hh : hasId vs v.id
    · rw [← List.take_append_drop (placeTo vs v.id) vs, List.mem_append] at hv
      rcases hv with hv | hv
      · have := take_lt v hv; omega
      · have := drop_gt hp hh v hv; omega
    · rfl
theorem mem_ins {vs : List Veh} {k : Nat} {v u : Veh} : u ∈ ins vs k v ↔ u = v ∨ u ∈ vs := by
  unfold ins
  have h := List.take_append_drop k vs
  constructor
  · intro hu
    rw [List.mem_append, List.mem_cons] at hu
    rw [← h, List.mem_append]
    rcases hu with a | a | a
    · exact .inr (.inl a)
    · exact .inl a
    · exact .inr (.inr a)
  · intro hu
    rw [List.mem_append, List.mem_cons]
    rcases hu with a | a
    · exact .inr (.inl a)
    · rw [← h, List.mem_append] at a
      rcases a with a | a
      · exact .inl a
      · exact .inr (.inr a)
theorem ins_pairwise {vs : List Veh} {v : Veh} (hp : vs.Pairwise (fun a b => a.id < b.id)) (hn : hasId vs v.id = false) : (ins vs (placeTo vs v.id) v).Pairwise (fun a b => a.id < b.id) := by
  unfold ins
  have h := hp
  rw [← List.take_append_drop (placeTo vs v.id) vs, List.pairwise_append] at h
  rw [List.pairwise_append, List.pairwise_cons]
  refine ⟨h.1, ⟨fun u hu => drop_gt hp hn u hu, h.2.1⟩, fun a ha b hb => ?_⟩
  rw [List.mem_cons] at hb
  rcases hb with rfl | hb
  · exact take_lt a ha
  · exact h.2.2 a ha b hb
theorem ins_count (vs : List Veh) (k : Nat) (v : Veh) (c : Int) : (ins vs k v).countP (fun u => u.cl == c) = vs.countP (fun u => u.cl == c) + if v.cl = c then 1 else 0 := by
  unfold ins
  rw [List.countP_append, List.countP_cons]
  have := List.countP_append (p := fun u : Veh => u.cl == c) (l₁ := vs.take k) (l₂ := vs.drop k)
  rw [List.take_append_drop] at this
  by_cases h : v.cl = c
  · simp [h]; omega
  · simp [h]; omega

/-- What is known where Register answers 0. -/
theorem regE_zero {vs : List Veh} {acl : Int} {lims : List Int} {id cl : Int} (h : regE vs acl lims id cl = 0) :
    validV vs = true ∧ (0 ≤ id ∧ id ≤ 4294967295) ∧ (0 ≤ cl ∧ cl ≤ acl) ∧ hasId vs id = false ∧ (countTo vs cl vs.length : Int) < limV lims cl ∧ vs.length < 8 := by
  unfold regE at h
  split at h
  · omega
  split at h
  · omega
  split at h
  · omega
  split at h
  · omega
  split at h
  · omega
  split at h
  · omega
  rename_i a b c d e f
  exact ⟨by simpa using a, Classical.not_not.1 b, Classical.not_not.1 c, by simpa using d, by omega, by omega⟩
theorem reg_valid {vs : List Veh} {acl : Int} {lims : List Int} {id cl : Int} (hacl : acl ≤ 3) (h : regE vs acl lims id cl = 0) : validV (ins vs (placeTo vs id) ⟨id, cl⟩) = true := by
  obtain ⟨hv, hid, hcl, hn, _, h8⟩ := regE_zero h
  rw [validV_iff] at hv ⊢
  refine ⟨by rw [ins_length _ _ _ (placeTo_le _ _)]; omega, fun v hv2 => ?_, ins_pairwise (v := ⟨id, cl⟩) hv.2.2 hn⟩
  rcases mem_ins.1 hv2 with rfl | hv2
  · exact ⟨hid.1, hid.2, hcl.1, by show cl ≤ 3; omega⟩
  · exact hv.2.1 v hv2
theorem rem_sub (vs : List Veh) (k : Nat) : (vs.take k ++ vs.drop (k + 1)).Sublist vs := by
  have h : (vs.drop (k + 1)).Sublist (vs.drop k) := by
    rw [← List.drop_drop]
    exact List.drop_sublist _ _
  have := List.Sublist.append (List.Sublist.refl (vs.take k)) h
  rwa [List.take_append_drop] at this
theorem sub_valid {us vs : List Veh} (hs : us.Sublist vs) (h : validV vs = true) : validV us = true := by
  rw [validV_iff] at h ⊢
  exact ⟨Nat.le_trans hs.length_le h.1, fun v hv => h.2.1 v (hs.subset hv), h.2.2.sublist hs⟩

/-- The limits hold. -/
def within15 (vs : List Veh) (acl : Int) (lims : List Int) : Prop := validV vs = true ∧ ∀ c : Int, (vs.countP (fun v => v.cl == c) : Int) ≤ max 0 (limV lims c) ∧ (acl < c → vs.countP (fun v => v.cl == c) = 0)
theorem within15_nil (acl : Int) (lims : List Int) : within15 [] acl lims := ⟨by decide, fun c => ⟨by simp; omega, fun _ => rfl⟩⟩
theorem within15_reg {vs : List Veh} {acl : Int} {lims : List Int} {id cl : Int} (hacl : acl ≤ 3) (h : within15 vs acl lims) (he : regE vs acl lims id cl = 0) : within15 (regL vs acl lims id cl) acl lims := by
  unfold regL
  rw [if_pos he]
  obtain ⟨_, _, hcl, _, hl, _⟩ := regE_zero he
  rw [countTo_eq] at hl
  refine ⟨reg_valid hacl he, fun c => ?_⟩
  rw [ins_count]
  have := h.2 c
  by_cases hc : cl = c
  · subst hc
    rw [if_pos rfl]
    refine ⟨by omega, fun hlt => by omega⟩
  · rw [if_neg hc, Nat.add_zero]
    exact this
theorem within15_rem {vs : List Veh} {acl : Int} {lims : List Int} {id : Int} (h : within15 vs acl lims) (he : remE vs id = 0) : within15 (remL vs id) acl lims := by
  unfold remL
  rw [if_pos he]
  have hs := rem_sub vs (placeTo vs id)
  refine ⟨sub_valid hs h.1, fun c => ?_⟩
  have h1 := hs.countP_le (p := fun v : Veh => v.cl == c)
  have := h.2 c
  exact ⟨by omega, fun hlt => by have := this.2 hlt; omega⟩

end Go.Proofs.Ytobeediccmmjhaa
