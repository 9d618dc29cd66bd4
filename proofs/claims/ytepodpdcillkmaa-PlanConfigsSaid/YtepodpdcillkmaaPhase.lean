/- Phases of junctions as data; lists of phases in memory; tables of bits by a function. -/
import Derived.Test.YtepodpdcillkmaaSym
import Derived.Test.YtepodpdcillkmaaMatPlain
import Derived.Test.YtepodpdcillkmaaTab
namespace Go.Proofs.Ytepodpdcillkmaa
open Go.RowKit
set_option linter.unusedVariables false
set_option linter.unusedSimpArgs false

structure Ph where
  r : Int
  g : Int
  mn : Int
  mx : Int
  ye : Int
  re : Int
  wa : Int
  cl : Int
abbrev Ph.cells (p : Ph) : List Value := [.int .i64 p.r, .int .i64 p.g, .int .i64 p.mn, .int .i64 p.mx, .int .i64 p.ye, .int .i64 p.re, .int .i64 p.wa, .int .i64 p.cl]
abbrev Ph.val (p : Ph) : Value := .agg #[.int .i64 p.r, .int .i64 p.g, .int .i64 p.mn, .int .i64 p.mx, .int .i64 p.ye, .int .i64 p.re, .int .i64 p.wa, .int .i64 p.cl]
def pz : Ph := ⟨0, 0, 0, 0, 0, 0, 0, 0⟩

/-- The eight cells of a phase at an address. -/
structure PhAt (w : World) (b o : Nat) (p : Ph) : Prop where
  c0 : w.cell? ⟨b, o, none⟩ = some (.int .i64 p.r)
  c1 : w.cell? ⟨b, o + 1, none⟩ = some (.int .i64 p.g)
  c2 : w.cell? ⟨b, o + 2, none⟩ = some (.int .i64 p.mn)
  c3 : w.cell? ⟨b, o + 3, none⟩ = some (.int .i64 p.mx)
  c4 : w.cell? ⟨b, o + 4, none⟩ = some (.int .i64 p.ye)
  c5 : w.cell? ⟨b, o + 5, none⟩ = some (.int .i64 p.re)
  c6 : w.cell? ⟨b, o + 6, none⟩ = some (.int .i64 p.wa)
  c7 : w.cell? ⟨b, o + 7, none⟩ = some (.int .i64 p.cl)
theorem PhAt.below {w w' : World} {B b o : Nat} {p : Ph} (h : PhAt w b o p) (hb : Below B w w') (hlt : b < B) : PhAt w' b o p :=
  ⟨(hb.cell (p := ⟨b, o, none⟩) hlt).trans h.c0, (hb.cell (p := ⟨b, o + 1, none⟩) hlt).trans h.c1, (hb.cell (p := ⟨b, o + 2, none⟩) hlt).trans h.c2, (hb.cell (p := ⟨b, o + 3, none⟩) hlt).trans h.c3,
   (hb.cell (p := ⟨b, o + 4, none⟩) hlt).trans h.c4, (hb.cell (p := ⟨b, o + 5, none⟩) hlt).trans h.c5, (hb.cell (p := ⟨b, o + 6, none⟩) hlt).trans h.c6, (hb.cell (p := ⟨b, o + 7, none⟩) hlt).trans h.c7⟩

/-- The slice value '.slice A P.length cap' reads as the phases P, below block B. -/
def Phs (w : World) (B : Nat) (A : Option Addr) (P : List Ph) : Prop :=
  ∀ i, i < P.length → ∃ b off, A = some ⟨b, off, none⟩ ∧ b < B ∧ PhAt w b (off + i * 8) (P.getD i pz)
theorem Phs.below {w w' : World} {B : Nat} {A : Option Addr} {P : List Ph} (h : Phs w B A P) (hb : Below B w w') : Phs w' B A P := fun i hi => by
  obtain ⟨b, off, e, hlt, hc⟩ := h i hi
  exact ⟨b, off, e, hlt, hc.below hb hlt⟩
theorem Phs.more {w : World} {B B' : Nat} {A : Option Addr} {P : List Ph} (h : Phs w B A P) (hB : B ≤ B') : Phs w B' A P := fun i hi => by
  obtain ⟨b, off, e, hlt, hc⟩ := h i hi
  exact ⟨b, off, e, by omega, hc⟩

/-- One more than the greatest group of the first k. -/
def groupsTo (P : List Ph) : Nat → Int
  | 0 => 0
  | k + 1 => max (groupsTo P k) ((P.getD k pz).g + 1)
theorem groupsTo_bd (P : List Ph) (h : ∀ i, i < P.length → -1 ≤ (P.getD i pz).g ∧ (P.getD i pz).g ≤ 1000000) (k : Nat) (hk : k ≤ P.length) : 0 ≤ groupsTo P k ∧ groupsTo P k ≤ 1000001 := by
  induction k with
  | zero => simp [groupsTo]
  | succ k ih =>
    have := ih (by omega)
    have := h k (by omega)
    unfold groupsTo
    omega

set_option maxHeartbeats 400000 in
theorem groups_any (A A2 : Option Addr) (cap n2 cap2 : Nat) (P : List Ph) (s : Int) (w : World) (hA : Phs w w.heap.size A P) (hm : P.length ≤ 1000) (hg : ∀ i, i < P.length → -1 ≤ (P.getD i pz).g ∧ (P.getD i pz).g ≤ 1000000) :
    Calls Try.prog 37 #[.agg #[.slice A P.length cap, .slice A2 n2 cap2, .int .i64 s]] w fun e w' => e = .returned (.int .i64 (groupsTo P P.length)) ∧ Below w.heap.size w w' := by
  have HA := Lib.hid hA
  have hgH := Lib.hid hg
  clear hA hg
  go_enter Try.func37, Try.ntmps37
  go_wp2
  go_loopw [3, 9] (fun v3 v9 wr => ∃ k : Nat, k ≤ P.length ∧ v9 = .int .i64 k ∧ v3 = .int .i64 (groupsTo P k) ∧ Below w.heap.size w wr) (fun _ v9 _ => P.length - (intOf v9).toNat)
  case atStart => exact ⟨0, by omega, rfl, rfl, by go_grown⟩
  case round =>
    obtain ⟨k, hk, rfl, rfl, hb⟩ := hrel
    have hz := hb.size
    have hbH := Lib.hid hb
    clear hb
    by_cases hlt : k < P.length
    · obtain ⟨b, off, rfl, hbl, hat⟩ := HA.out k hlt
      obtain ⟨c0, c1, c2, c3, c4, c5, c6, c7⟩ := hat.below hbH.out hbl
      clear hat
      have hbz : b < wr.heap.size := by omega
      have hgk := hgH.out k hlt
      have hgt := groupsTo_bd P hgH.out k (by omega)
      have hs : Hid (groupsTo P (k + 1) = max (groupsTo P k) ((P.getD k pz).g + 1)) := rfl
      generalize P.getD k pz = ph at c0 c1 c2 c3 c4 c5 c6 c7 hs hgk
      go_wp2
      go_roundw
      case rel =>
        refine ⟨k + 1, by omega, by go_num, ?_, by have := hbH.out; go_grown⟩
        rw [hs.out]
        exact congrArg (Value.int .i64) (by split <;> omega)
      case measure => simp [intOf]; omega
    · obtain rfl : k = P.length := by omega
      go_wp2
      go_ret
      exact ⟨rfl, hbH.out⟩

set_option maxHeartbeats 400000 in
theorem rgroups_any (A A2 : Option Addr) (cap n2 cap2 : Nat) (P : List Ph) (s : Int) (w : World) (hA : Phs w w.heap.size A P) (hm : P.length ≤ 1000) (hg : ∀ i, i < P.length → -1 ≤ (P.getD i pz).g ∧ (P.getD i pz).g ≤ 1000000) :
    Calls Try.prog 38 #[.agg #[.slice A P.length cap, .slice A2 n2 cap2, .int .i64 s]] w fun e w' => e = .returned (.int .i64 (groupsTo P P.length)) ∧ Below w.heap.size w w' := by
  have HA := Lib.hid hA
  have hgH := Lib.hid hg
  clear hA hg
  go_enter Try.func38, Try.ntmps38
  go_wp2
  go_loopw [3, 9] (fun v3 v9 wr => ∃ k : Nat, k ≤ P.length ∧ v9 = .int .i64 k ∧ v3 = .int .i64 (groupsTo P k) ∧ Below w.heap.size w wr) (fun _ v9 _ => P.length - (intOf v9).toNat)
  case atStart => exact ⟨0, by omega, rfl, rfl, by go_grown⟩
  case round =>
    obtain ⟨k, hk, rfl, rfl, hb⟩ := hrel
    have hz := hb.size
    have hbH := Lib.hid hb
    clear hb
    by_cases hlt : k < P.length
    · obtain ⟨b, off, rfl, hbl, hat⟩ := HA.out k hlt
      obtain ⟨c0, c1, c2, c3, c4, c5, c6, c7⟩ := hat.below hbH.out hbl
      clear hat
      have hbz : b < wr.heap.size := by omega
      have hgk := hgH.out k hlt
      have hgt := groupsTo_bd P hgH.out k (by omega)
      have hs : Hid (groupsTo P (k + 1) = max (groupsTo P k) ((P.getD k pz).g + 1)) := rfl
      generalize P.getD k pz = ph at c0 c1 c2 c3 c4 c5 c6 c7 hs hgk
      go_wp2
      go_roundw
      case rel =>
        refine ⟨k + 1, by omega, by go_num, ?_, by have := hbH.out; go_grown⟩
        rw [hs.out]
        exact congrArg (Value.int .i64) (by split <;> omega)
      case measure => simp [intOf]; omega
    · obtain rfl : k = P.length := by omega
      go_wp2
      go_ret
      exact ⟨rfl, hbH.out⟩

/-- The bits below k that f names. -/
def bitsTo (f : Nat → Bool) : Nat → Nat
  | 0 => 0
  | k + 1 => bitsTo f k + if f k then 2 ^ k else 0
theorem bitsTo_lt (f : Nat → Bool) (k : Nat) : bitsTo f k < 2 ^ k := by
  induction k with
  | zero => simp [bitsTo]
  | succ k ih => unfold bitsTo; rw [Nat.pow_succ]; split <;> omega
theorem bitsTo_yes (f : Nat → Bool) (k : Nat) (h : f k = true) : bitsTo f (k + 1) = bitsTo f k + 2 ^ k := by rw [bitsTo, if_pos h]
theorem bitsTo_no (f : Nat → Bool) (k : Nat) (h : f k = false) : bitsTo f (k + 1) = bitsTo f k := by rw [bitsTo, if_neg (by simp [h])]; omega
theorem bitsTo_bit (f : Nat → Bool) (k q : Nat) : (bitsTo f k).testBit q = (decide (q < k) && f q) := by
  induction k with
  | zero => simp [bitsTo]
  | succ k ih =>
    have hlt := bitsTo_lt f k
    cases hf : f k
    · rw [bitsTo_no _ _ hf, ih]
      by_cases h : q = k
      · subst h; rw [hf]; simp
      · have e : decide (q < k + 1) = decide (q < k) := by rw [decide_eq_decide]; omega
        rw [e]
    · rw [bitsTo_yes _ _ hf, ← or_new_bit _ _ hlt, Nat.testBit_or, ih, Nat.testBit_two_pow]
      by_cases h : q = k
      · subst h; rw [hf]; simp
      · have e : decide (q < k + 1) = decide (q < k) := by rw [decide_eq_decide]; omega
        have e2 : decide (k = q) = false := by simp; omega
        rw [e, e2]; simp

/-- Do the phases i and k of a made junction conflict? -/
def conf (P : List Ph) (extra : Bool) (i k : Nat) : Bool :=
  !(i == k) && ((P.getD i pz).r == (P.getD k pz).r || (!((P.getD i pz).g == (P.getD k pz).g) || (extra && ((i + k) % 2 == 1))))
theorem conf_symm (P : List Ph) (extra : Bool) (i k : Nat) : conf P extra i k = conf P extra k i := by
  unfold conf
  rw [Nat.add_comm i k, Bool.beq_comm (a := i), Bool.beq_comm (a := (P.getD i pz).r), Bool.beq_comm (a := (P.getD i pz).g)]
theorem conf_self (P : List Ph) (extra : Bool) (i : Nat) : conf P extra i i = false := by unfold conf; simp
def tableOf (P : List Ph) (extra : Bool) : List Nat := (List.range P.length).map fun i => bitsTo (conf P extra i) P.length
theorem tableOf_length (P : List Ph) (extra : Bool) : (tableOf P extra).length = P.length := by simp [tableOf]
theorem tableOf_getD (P : List Ph) (extra : Bool) (i : Nat) (h : i < P.length) : (tableOf P extra).getD i 0 = bitsTo (conf P extra i) P.length := by
  simp [tableOf, List.getD, h]
theorem tableOf_sym (P : List Ph) (extra : Bool) : SymM (tableOf P extra) := by
  refine ⟨fun p hp => ?_, fun p q hp hq => ?_, fun p hp => ?_⟩
  · rw [tableOf_length] at hp ⊢
    rw [tableOf_getD _ _ _ hp]; exact bitsTo_lt _ _
  · rw [tableOf_length] at hp hq
    rw [tableOf_getD _ _ _ hp, tableOf_getD _ _ _ hq, bitsTo_bit, bitsTo_bit, conf_symm P extra p q]
    simp [hp, hq]
  · rw [tableOf_length] at hp
    rw [tableOf_getD _ _ _ hp, bitsTo_bit, conf_self]; simp

/-- The rings and groups of the phases of a made junction. -/
def shapeOf : Nat → List (Int × Int)
  | 0 => [(0, 0), (0, 0)]
  | 1 => [(0, 0), (1, 0), (0, 1), (1, 1)]
  | 2 => [(0, 0), (1, 0), (0, 0)]
  | 3 => [(0, 0), (0, 0), (1, 0), (1, 0), (0, 1), (0, 1), (1, 1), (1, 1)]
  | 4 => [(1, 0), (0, 1), (0, 2)]
  | _ => [(0, 0)]
def shapeCells (l : List (Int × Int)) : Array Value := (l.flatMap fun x => [Value.int .i64 x.1, Value.int .i64 x.2]).toArray

/-- The times of a made phase. -/
structure PhOk (p : Ph) : Prop where
  mn0 : 1 ≤ p.mn
  mn1 : p.mn ≤ 3
  ye0 : 1 ≤ p.ye
  ye1 : p.ye ≤ 2
  re0 : 0 ≤ p.re
  re1 : p.re ≤ 2
  ped : (p.wa = 0 ∧ p.cl = 0) ∨ (1 ≤ p.wa ∧ p.wa ≤ 2 ∧ 1 ≤ p.cl ∧ p.cl ≤ 2)
  mx0 : max p.mn (p.wa + p.cl) ≤ p.mx
  mx1 : p.mx ≤ max p.mn (p.wa + p.cl) + 3

theorem conf_eq {P : List Ph} {ex : Bool} {i k : Nat} (h : i = k) : conf P ex i k = false := by subst h; exact conf_self P ex i
theorem conf_ring {P : List Ph} {ex : Bool} {i k : Nat} (h : i ≠ k) (hr : (P.getD i pz).r = (P.getD k pz).r) : conf P ex i k = true := by unfold conf; rw [hr]; simp [h]
theorem conf_group {P : List Ph} {ex : Bool} {i k : Nat} (h : i ≠ k) (hg : (P.getD i pz).g ≠ (P.getD k pz).g) : conf P ex i k = true := by
  unfold conf
  have e : ((P.getD i pz).g == (P.getD k pz).g) = false := by rw [beq_eq_false_iff_ne]; exact hg
  rw [e]; simp [h]
theorem conf_rest {P : List Ph} {ex : Bool} {i k : Nat} (h : i ≠ k) (hr : (P.getD i pz).r ≠ (P.getD k pz).r) (hg : (P.getD i pz).g = (P.getD k pz).g) : conf P ex i k = (ex && ((i + k) % 2 == 1)) := by
  unfold conf
  have e : ((P.getD i pz).r == (P.getD k pz).r) = false := by rw [beq_eq_false_iff_ne]; exact hr
  rw [e, hg]; simp [h]
theorem flat_at (P : List Ph) (i j : Nat) (h : i < P.length) (hj : j < 8) : (P.flatMap Ph.cells)[i * 8 + j]? = ((P.getD i pz).cells)[j]? := by
  induction P generalizing i with
  | nil => simp at h
  | cons x P ih =>
    cases i with
    | zero =>
      rw [List.flatMap_cons, Nat.zero_mul, Nat.zero_add, List.getElem?_append_left (by simpa using hj)]
      rfl
    | succ i =>
      have h1 : i < P.length := by simpa using h
      have hl : x.cells.length = 8 := rfl
      rw [List.flatMap_cons, List.getElem?_append_right (by omega), hl]
      have e : (i + 1) * 8 + j - 8 = i * 8 + j := by omega
      rw [e, ih i h1]
      simp [List.getD]
theorem phs_of_own {w : World} {base g cap : Nat} {P : List Ph} (h : w.ownsRow base 55 8 (.slice (some ⟨g, 0, none⟩) P.length cap) P.length (P.flatMap Ph.cells)) {B : Nat} (hB : g < B) : Phs w B (some ⟨g, 0, none⟩) P := fun i hi => by
  have e := fun j (hj : j < 8) => (h.cellAt (i * 8 + j) (by omega)).trans (flat_at P i j hi hj)
  refine ⟨g, 0, rfl, hB, ?_⟩
  rw [Nat.zero_add]
  exact ⟨e 0 (by omega), e 1 (by omega), e 2 (by omega), e 3 (by omega), e 4 (by omega), e 5 (by omega), e 6 (by omega), e 7 (by omega)⟩
theorem Phs.other {w w' : World} {B : Nat} {A : Option Addr} {P : List Ph} (h : Phs w B A P) (hb : ∀ a : Addr, A = some a → w'.heap[a.block]? = w.heap[a.block]?) : Phs w' B A P := fun i hi => by
  obtain ⟨b, off, rfl, hlt, hc⟩ := h i hi
  have e := fun o => World.cell?_of_block (w := w) (w' := w') (a := ⟨b, o, none⟩) (hb ⟨b, off, none⟩ rfl)
  exact ⟨b, off, rfl, hlt, (e _).trans hc.c0, (e _).trans hc.c1, (e _).trans hc.c2, (e _).trans hc.c3, (e _).trans hc.c4, (e _).trans hc.c5, (e _).trans hc.c6, (e _).trans hc.c7⟩

set_option maxHeartbeats 1000000 in
theorem shapes_any (n : Nat) (w : World) (h : n < 6) :
    Calls Try.prog 46 #[.int .i64 n] w fun e w' =>
      e = .returned (.slice (some ⟨w.heap.size, 0, none⟩) (shapeOf n).length (shapeOf n).length) ∧ w.alloc (.cells (shapeCells (shapeOf n)) 45) = w' := by
  match n, h with
  | 0, _ | 1, _ | 2, _ | 3, _ | 4, _ | 5, _ =>
    go_enter Try.func46, Try.ntmps46
    go_wp2
    go_ret
    exact ⟨rfl, rfl⟩

end Go.Proofs.Ytepodpdcillkmaa
