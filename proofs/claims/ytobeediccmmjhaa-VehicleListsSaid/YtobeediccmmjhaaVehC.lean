/- vehicle.limit; what Register answers; rows of vehicles. -/
import Derived.Test.YtobeediccmmjhaaCopyK
namespace Go.Proofs.Ytobeediccmmjhaa
open Go.RowKit
set_option linter.unusedVariables false
set_option linter.unusedSimpArgs false

/-- An agency's numbers and slices. -/
structure Ag where
  S : Option Addr
  sl : Nat
  sc : Nat
  ri : Int
  cl : Int
  L : Option Addr
  lc : Nat
  lims : List Int
  rq : Int
  se : Int
  ra : Int
  bu : Int
abbrev Ag.val (a : Ag) : Value := .agg #[.slice a.S a.sl a.sc, .int .i64 a.ri, .int .i64 a.cl, .slice a.L a.lims.length a.lc, .int .i64 a.rq, .int .i64 a.se, .int .i64 a.ra, .int .i64 a.bu]
abbrev Ag.cells (a : Ag) : Array Value := #[.slice a.S a.sl a.sc, .int .i64 a.ri, .int .i64 a.cl, .slice a.L a.lims.length a.lc, .int .i64 a.rq, .int .i64 a.se, .int .i64 a.ra, .int .i64 a.bu]

def limV (lims : List Int) (c : Int) : Int := if c < 0 ∨ (lims.length : Int) ≤ c then 0 else lims.getD c.toNat 0

set_option maxHeartbeats 1000000 in
theorem limit_any (a : Ag) (c : Int) (w : World) (hA : Ints w w.heap.size a.L a.lims) (hm : a.lims.length ≤ 9223372036854775807) :
    Calls Try.prog 27 #[a.val, .int .i64 c] w fun e w' => e = .returned (.int .i64 (limV a.lims c)) ∧ Below w.heap.size w w' := by
  obtain ⟨S, sl, sc, ri, cl, L, lc, lims, rq, se, ra, bu⟩ := a
  have HA : Hid (Ints (w.alloc (.cells #[.slice S sl sc, .int .i64 ri, .int .i64 cl, .slice L lims.length lc, .int .i64 rq, .int .i64 se, .int .i64 ra, .int .i64 bu] 27)) w.heap.size L lims) := hA.below ((Below.refl _ _).alloc (Nat.le_refl _) _)
  clear hA
  go_enter Try.func27, Try.ntmps27
  have hz1 : w.heap.size < (w.alloc (.cells #[.slice S sl sc, .int .i64 ri, .int .i64 cl, .slice L lims.length lc, .int .i64 rq, .int .i64 se, .int .i64 ra, .int .i64 bu] 27)).heap.size := by simp
  by_cases h0 : c < 0
  · have hE : Hid (limV lims c = 0) := Lib.hid (by unfold limV; rw [if_pos (.inl h0)])
    go_wp2_with fail
    go_ret
    exact ⟨by rw [hE.out]; rfl, by go_grown⟩
  · by_cases h1 : (lims.length : Int) ≤ c
    · have hE : Hid (limV lims c = 0) := Lib.hid (by unfold limV; rw [if_pos (.inr h1)])
      go_wp2_with fail
      go_ret
      exact ⟨by rw [hE.out]; rfl, by go_grown⟩
    · have hE : Hid (limV lims c = lims.getD c.toNat 0) := Lib.hid (by unfold limV; rw [if_neg (by omega)])
      obtain ⟨k, rfl⟩ : ∃ k : Nat, c = (k : Int) := ⟨c.toNat, by omega⟩
      obtain ⟨b, off, rfl, hbl, hc⟩ := HA.out k (by omega)
      simp only [Int.toNat_natCast] at hE
      generalize lims.getD k 0 = x at hc hE
      have hk : (k : Int) < (lims.length : Int) := by omega
      go_wp2_with fail
      go_ret
      exact ⟨by rw [hE.out]; rfl, by go_grown⟩

/-- The cells of vehicles. -/
abbrev Veh.cells (v : Veh) : List Value := [.int .i64 v.id, .int .i64 v.cl]
def vcells (vs : List Veh) : List Value := vs.flatMap Veh.cells
theorem vcells_nil : vcells [] = [] := rfl
theorem vcells_cons (v : Veh) (vs : List Veh) : vcells (v :: vs) = .int .i64 v.id :: .int .i64 v.cl :: vcells vs := rfl
theorem vcells_append (a b : List Veh) : vcells (a ++ b) = vcells a ++ vcells b := by simp [vcells]
theorem vcells_length (vs : List Veh) : (vcells vs).length = vs.length * 2 := by
  induction vs with
  | nil => rfl
  | cons v vs ih => rw [vcells_cons]; simp [ih]; omega
theorem vcells_take (vs : List Veh) (k : Nat) : (vcells vs).take (k * 2) = vcells (vs.take k) := by
  induction vs generalizing k with
  | nil => simp [vcells]
  | cons v vs ih =>
    cases k with
    | zero => simp [vcells]
    | succ k =>
      have e : (k + 1) * 2 = k * 2 + 1 + 1 := by omega
      rw [vcells_cons, e, List.take_succ_cons, List.take_succ_cons, ih, List.take_succ_cons, vcells_cons]
theorem vcells_drop (vs : List Veh) (k : Nat) : (vcells vs).drop (k * 2) = vcells (vs.drop k) := by
  induction vs generalizing k with
  | nil => simp [vcells]
  | cons v vs ih =>
    cases k with
    | zero => simp [vcells]
    | succ k =>
      have e : (k + 1) * 2 = k * 2 + 1 + 1 := by omega
      rw [vcells_cons, e, List.drop_succ_cons, List.drop_succ_cons, ih, List.drop_succ_cons]
theorem vcells_at (vs : List Veh) (i : Nat) (h : i < vs.length) : (vcells vs)[i * 2]? = some (.int .i64 (vs.getD i vz).id) ∧ (vcells vs)[i * 2 + 1]? = some (.int .i64 (vs.getD i vz).cl) := by
  induction vs generalizing i with
  | nil => simp at h
  | cons v vs ih =>
    cases i with
    | zero => simp [vcells_cons]
    | succ i =>
      have e : (i + 1) * 2 = i * 2 + 1 + 1 := by omega
      have := ih i (by simpa using h)
      rw [vcells_cons, e]
      simpa using this
theorem vcells_one (vs : List Veh) : ∀ u ∈ vcells vs, u.oneCell' = true := by
  intro u hu
  unfold vcells at hu
  obtain ⟨v, _, hv⟩ := List.mem_flatMap.1 hu
  simp at hv
  rcases hv with rfl | rfl <;> rfl
theorem splice_vcells (us xs : List Veh) (i : Nat) : splice (vcells us) (i * 2) (vcells xs) = vcells (us.take i ++ (xs ++ us.drop (i + xs.length))) := by
  unfold splice
  rw [vcells_take, vcells_length, ← Nat.add_mul, vcells_drop, vcells_append, vcells_append]
theorem vcells_set (us : List Veh) (i : Nat) (v : Veh) : ((vcells us).set (i * 2) (.int .i64 v.id)).set (i * 2 + 1) (.int .i64 v.cl) = vcells (us.set i v) := by
  induction us generalizing i with
  | nil => simp [vcells]
  | cons u us ih =>
    cases i with
    | zero => simp [vcells_cons]
    | succ i =>
      have e : (i + 1) * 2 = i * 2 + 1 + 1 := by omega
      rw [vcells_cons, e]
      simp only [List.set_cons_succ, vcells_cons]
      rw [ih]
theorem vcells_zero (n : Nat) : madeCells #[Value.int .i64 0, Value.int .i64 0] (n * 2) = (vcells (List.replicate n vz)).toArray := by
  have e : vcells (List.replicate n vz) = List.replicate (n * 2) (Value.int .i64 0) := by
    induction n with
    | zero => rfl
    | succ n ih =>
      rw [List.replicate_succ, vcells_cons, ih, Nat.succ_mul]; rfl
  rw [e]
  apply Array.ext
  · simp [madeCells]
  · intro i h1 h2
    simp only [madeCells, Array.getElem_map, Array.getElem_range, List.getElem_toArray, List.getElem_replicate]
    show (#[Value.int IntKind.i64 0, Value.int IntKind.i64 0] : Array Value)[i % 2]! = _
    have := Nat.mod_two_eq_zero_or_one i
    rcases this with h | h <;> rw [h] <;> rfl

/-- Block g holds the vehicles us. -/
def RowV (w : World) (g : Nat) (us : List Veh) : Prop := Box w g 38 (vcells us).toArray
theorem RowV.vehs {w : World} {g : Nat} {us : List Veh} (h : RowV w g us) {B : Nat} (hB : g < B) : Vehs w B (some ⟨g, 0, none⟩) us := fun i hi => by
  obtain ⟨h0, h1⟩ := vcells_at us i hi
  refine ⟨g, 0, rfl, hB, ?_, ?_⟩
  · rw [Nat.zero_add, Box.cell h, List.getElem?_toArray]; exact h0
  · rw [Nat.zero_add, Box.cell h, List.getElem?_toArray]; exact h1

theorem RowV.put {w : World} {g : Nat} {us : List Veh} (h : RowV w g us) (k : Nat) (v : Veh) : RowV ((w.setCell ⟨g, k * 2, none⟩ (.int .i64 v.id)).setCell ⟨g, k * 2 + 1, none⟩ (.int .i64 v.cl)) g (us.set k v) := by
  have := (Box.put h (k * 2) (.int .i64 v.id)).put (k * 2 + 1) (.int .i64 v.cl)
  rw [List.setIfInBounds_toArray, List.setIfInBounds_toArray, vcells_set] at this
  exact this
theorem RowV.cells {w : World} {g : Nat} {us : List Veh} (h : RowV w g us) {k : Nat} (hk : k < us.length) : w.cell? ⟨g, k * 2, none⟩ = some (.int .i64 (us.getD k vz).id) ∧ w.cell? ⟨g, k * 2 + 1, none⟩ = some (.int .i64 (us.getD k vz).cl) := by
  obtain ⟨h0, h1⟩ := vcells_at us k hk
  exact ⟨by rw [Box.cell h, List.getElem?_toArray]; exact h0, by rw [Box.cell h, List.getElem?_toArray]; exact h1⟩
theorem vehs_take {w : World} {B b off : Nat} {vs : List Veh} (h : Vehs w B (some ⟨b, off, none⟩) vs) (k : Nat) : ∀ j u, (vcells (vs.take k))[j]? = some u → w.cell? ((⟨b, off, none⟩ : Addr).add j) = some u := by
  intro j u hu
  obtain ⟨hj, _⟩ := List.getElem?_eq_some_iff.1 hu
  rw [vcells_length, List.length_take] at hj
  have hj2 : j / 2 < vs.length := by omega
  have hjk : j / 2 < k := by omega
  obtain ⟨b', off', e, _, hc, hd⟩ := h (j / 2) hj2
  injection e with e
  injection e with e1 e2
  subst e1 e2
  have hjt : j / 2 < (vs.take k).length := by rw [List.length_take]; omega
  obtain ⟨h0, h1⟩ := vcells_at (vs.take k) (j / 2) hjt
  have ev : (vs.take k).getD (j / 2) vz = vs.getD (j / 2) vz := by simp [List.getD, hjk]
  rw [ev] at h0 h1
  rw [Addr.add_lit]
  rcases Nat.mod_two_eq_zero_or_one j with hm | hm
  · have ej : j = j / 2 * 2 := by omega
    rw [ej] at hu ⊢
    rw [h0] at hu
    rw [hc]; exact hu
  · have ej : j = j / 2 * 2 + 1 := by omega
    rw [ej] at hu ⊢
    rw [h1] at hu
    rw [← Nat.add_assoc, hd]; exact hu
theorem vehs_drop {w : World} {B b off : Nat} {vs : List Veh} (h : Vehs w B (some ⟨b, off, none⟩) vs) (k : Nat) : ∀ j u, (vcells (vs.drop k))[j]? = some u → w.cell? ((⟨b, off + k * 2, none⟩ : Addr).add j) = some u := by
  intro j u hu
  have := vehs_take h vs.length (k * 2 + j) u (by
    rw [List.take_length]
    rw [← vcells_drop, List.getElem?_drop] at hu
    exact hu)
  rw [Addr.add_lit] at this ⊢
  rw [← Nat.add_assoc] at this
  exact this

/-- The list with v put in at k. -/
def ins (vs : List Veh) (k : Nat) (v : Veh) : List Veh := vs.take k ++ v :: vs.drop k
theorem ins_length (vs : List Veh) (k : Nat) (v : Veh) (h : k ≤ vs.length) : (ins vs k v).length = vs.length + 1 := by
  unfold ins; simp; omega
theorem fill_ins (Z vs : List Veh) (k : Nat) (v : Veh) (hk : k ≤ vs.length) (hZ : Z.length = vs.length + 1) :
    (((Z.take 0 ++ (vs.take k ++ Z.drop (0 + (vs.take k).length))).set k v).take (k + 1) ++ (vs.drop k ++ ((Z.take 0 ++ (vs.take k ++ Z.drop (0 + (vs.take k).length))).set k v).drop (k + 1 + (vs.drop k).length))) = ins vs k v := by
  have hl : (vs.take k).length = k := by simp; omega
  have e1 : Z.take 0 ++ (vs.take k ++ Z.drop (0 + (vs.take k).length)) = vs.take k ++ Z.drop k := by rw [hl]; simp
  rw [e1]
  obtain ⟨z, Z', hz⟩ : ∃ z Z', Z.drop k = z :: Z' := by
    cases h : Z.drop k with
    | nil =>
      have := congrArg List.length h
      simp at this
      omega
    | cons z Z' => exact ⟨_, _, rfl⟩
  rw [hz]
  have e2 : (vs.take k ++ z :: Z').set k v = vs.take k ++ v :: Z' := by
    rw [List.set_append]
    simp [hl]
  rw [e2]
  have hZ' : Z'.length = vs.length - k := by
    have := congrArg List.length hz
    simp at this
    omega
  have e3 : (vs.take k ++ v :: Z').take (k + 1) = vs.take k ++ [v] := by
    rw [List.take_append, hl]
    have : k + 1 - k = 1 := by omega
    rw [this, List.take_of_length_le (by omega)]
    simp
  have e4 : (vs.take k ++ v :: Z').drop (k + 1 + (vs.drop k).length) = [] := by
    apply List.drop_eq_nil_of_le
    simp [hZ']; omega
  rw [e3, e4]
  unfold ins
  simp

/-- Is the number there? -/
def hasId (vs : List Veh) (id : Int) : Bool := decide (placeTo vs id < vs.length) && ((vs.getD (placeTo vs id) vz).id == id)
/-- What Register answers. -/
def regE (vs : List Veh) (acl : Int) (lims : List Int) (id cl : Int) : Int :=
  if validV vs = false then 1 else if ¬(0 ≤ id ∧ id ≤ 4294967295) then 8 else if ¬(0 ≤ cl ∧ cl ≤ acl) then 17 else if hasId vs id = true then 11
  else if limV lims cl ≤ (countTo vs cl vs.length : Int) then 14 else if 8 ≤ vs.length then 10 else 0
def regL (vs : List Veh) (acl : Int) (lims : List Int) (id cl : Int) : List Veh := if regE vs acl lims id cl = 0 then ins vs (placeTo vs id) ⟨id, cl⟩ else []
theorem placeTo_le (vs : List Veh) (id : Int) : placeTo vs id ≤ vs.length := by
  unfold placeTo
  cases h : (List.range vs.length).find? fun k => decide (id ≤ (vs.getD k vz).id) with
  | none => simp
  | some k =>
    have := List.mem_of_find?_eq_some h
    simp at this
    simp; omega
/-- A slice as Go makes them: nil, or at an address with room. -/
def Sl (A : Option Addr) (len cap : Nat) : Prop := (A = none ∧ len = 0 ∧ cap = 0) ∨ ∃ b off, A = some ⟨b, off, none⟩ ∧ len ≤ cap
/-- What a call that hands back a list and a number leaves. -/
def RegPost (vs' : List Veh) (er : Int) (w : World) (e : Ending) (w' : World) : Prop :=
  ∃ (A : Option Addr) (cap : Nat), e = .returned (.tuple #[.slice A vs'.length cap, .int .i64 er]) ∧ Sl A vs'.length cap ∧ Vehs w' w'.heap.size A vs' ∧ Below w.heap.size w w' ∧ ∀ a, A = some a → w.heap.size ≤ a.block
theorem regPost_none {er : Int} {w w' : World} (hb : Below w.heap.size w w') : RegPost [] er w (.returned (.tuple #[.slice none 0 0, .int .i64 er])) w' :=
  ⟨none, 0, rfl, .inl ⟨rfl, rfl, rfl⟩, fun i hi => by simp at hi, hb, fun a h => by cases h⟩

end Go.Proofs.Ytobeediccmmjhaa
