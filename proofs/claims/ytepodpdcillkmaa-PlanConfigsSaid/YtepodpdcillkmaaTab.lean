/- The contract of signalbrokerlaw06.rows: a table that is symmetric, in a block of its own. -/
import Derived.Test.YtepodpdcillkmaaSym
import Derived.Test.YtepodpdcillkmaaDeck
import Derived.Deep.OwnRows
namespace Go.Proofs.Ytepodpdcillkmaa
open Go.RowKit

theorem int_info : (Try.prog.info? 3).map (fun i => (i.zero, i.size, i.bytes)) = some (some (.int .i64 0), 1, 8) := by kernel_rfl

/-- The cells of a table. -/
def cellsOf (M : List Nat) : Array Value := (M.map fun (x : Nat) => Value.int .i64 (x : Int)).toArray
theorem cellsOf_at (M : List Nat) (p : Nat) (h : p < M.length) : (cellsOf M)[p]? = some (.int .i64 ((M.getD p 0 : Nat) : Int)) := by
  simp [cellsOf, List.getD, h]
theorem cellsOf_zero (n : Nat) : madeCells #[Value.int .i64 0] n = cellsOf (List.replicate n 0) := by
  apply Array.ext'
  rw [toList_madeCells_one]
  simp [cellsOf]
theorem cellsOf_set (M : List Nat) (p x : Nat) : (cellsOf M).setIfInBounds p (.int .i64 (x : Int)) = cellsOf (M.set p x) := by
  simp [cellsOf, List.map_set]
theorem Box.ints {w : World} {g : Nat} {M : List Nat} {t : TypeId} (h : Box w g t (cellsOf M)) {B : Nat} (hB : g < B) : Ints w B (some ⟨g, 0, none⟩) (ints M) := fun i hi => by
  rw [ints_length] at hi
  refine ⟨g, 0, rfl, hB, ?_⟩
  rw [Nat.zero_add, h.cell i, cellsOf_at M i hi, ints_getD]

theorem only_trans {a b c : World} {row : Option Nat} (h : a.grownBy b row) (k : b.grownBy c row) : a.grownBy c row :=
  ⟨k.os.trans h.os, k.tape.trans h.tape, k.output.trans h.output, Nat.le_trans h.size k.size, fun i hi hn => (k.block i (Nat.lt_of_lt_of_le hi h.size) hn).trans (h.block i hi hn)⟩
theorem only_below {a b : World} (h : Below a.heap.size a b) (row : Option Nat) : a.grownBy b row := ⟨h.os, h.tape, h.output, h.size, fun i hi _ => h.block i hi⟩
theorem only_far {a w : World} {row : Option Nat} (h : a.grownBy w row) {p : Addr} (hp : a.heap.size ≤ p.block) (u : Value) : a.grownBy (w.setCell p u) row :=
  ⟨h.os, h.tape, h.output, by simpa [World.setCell] using h.size, fun k hk hne => (Below.heap_setCell w p u k (by omega)).trans (h.block k hk hne)⟩
theorem only_alloc {a w : World} {row : Option Nat} (h : a.grownBy w row) (o : Obj) : a.grownBy (w.alloc o) row :=
  ⟨h.os, h.tape, h.output, Nat.le_trans h.size (by simp), fun k hk hne => (Below.heap_alloc w o k (Nat.lt_of_lt_of_le hk h.size)).trans (h.block k hk hne)⟩

/-- What rows leaves: a table of 1 to 8 rows in a new block; the deck has moved on. -/
def RowsPost (w : World) (g : Nat) (e : Ending) (w' : World) : Prop :=
  ∃ (gb : Nat) (M : List Nat) (l' : List Int), e = .returned (.slice (some ⟨gb, 0, none⟩) M.length M.length) ∧ SymM M ∧ 1 ≤ M.length ∧ M.length ≤ 8 ∧ w.heap.size ≤ gb ∧
    Box w' gb 3 (cellsOf M) ∧ DeckIs w' g l' ∧ w.grownBy w' (some g)

/-- The relation of rows's loops. -/
def RowsRel (w : World) (g gb n : Nat) (wr : World) : Prop :=
  ∃ (M : List Nat) (l' : List Int), M.length = n ∧ SymM M ∧ Box wr gb 3 (cellsOf M) ∧ DeckIs wr g l' ∧ w.grownBy wr (some g)

set_option maxHeartbeats 1000000 in
theorem rows_any (g : Nat) (l : List Int) (w : World) (h : DeckIs w g l) :
    Calls Try.prog 22 #[.pointer (some ⟨g, 0, none⟩)] w (RowsPost w g) := by
  have hb := nx_bd (8 - 1 + 1) l (by omega)
  have hgw := h.lt
  go_enter Try.func22, Try.ntmps22
  go_wp2_with fail
  refine (range_any g l 1 8 w h (by omega) (by omega) (by omega)).mono ?_; rintro e w1 ⟨rfl, hd, hg⟩
  generalize (nx (8 - 1 + 1) l).2 = l1 at hd
  generalize (nx (8 - 1 + 1) l).1 = n0 at hb
  obtain ⟨n, hn⟩ : ∃ n : Nat, 1 + n0 = n := ⟨(1 + n0).toNat, by omega⟩
  rw [hn]
  have hn1 : 1 ≤ n := by omega
  have hn8 : n ≤ 8 := by omega
  clear hn hb
  have hdH := Lib.hid hd
  have hgH := Lib.hid hg
  have hz1 := hg.size
  clear hd hg
  have hmk := fun W => run_make_row' (P := Try.prog) 22 3 (.int .i64 0) 8 Try.underlying22 int_info rfl .i64 .i64 n (by omega) (by omega) W
  go_wp2_with fail
  clear hmk
  go_loopw [12] (fun v12 wr => ∃ i : Nat, i ≤ n ∧ v12 = .int .i64 i ∧ RowsRel w g w1.heap.size n wr) (fun v12 _ => n - (intOf v12).toNat)
  case atStart => exact ⟨0, by omega, rfl, List.replicate n 0, l1, by simp, SymM.zero n, by rw [← cellsOf_zero]; exact Box.new _ _ _, hdH.out.below ((Below.refl _ _).alloc (Nat.le_refl _) _), only_alloc hgH.out _⟩
  case round =>
    obtain ⟨i, hi, rfl, hrel⟩ := hrel
    have hrelH := Lib.hid hrel
    clear hrel
    by_cases hlt : i < n
    · go_wp2_with fail
      obtain ⟨wo, rfl⟩ : ∃ wo : World, wo = wr := ⟨_, rfl⟩
      go_loopw [16] (fun v16 wr => ∃ k : Nat, k ≤ i ∧ v16 = .int .i64 k ∧ RowsRel w g w1.heap.size n wr) (fun v16 _ => i - (intOf v16).toNat)
      case atStart => exact ⟨0, by omega, rfl, hrelH.out⟩
      case round =>
        obtain ⟨k, hk, rfl, hrel2⟩ := hrel
        by_cases hkt : k < i
        · obtain ⟨M, l2, hM, hsym, hbox, hd2, hg2⟩ := hrel2
          go_wp2_with fail
          have ht := nx_bd 2 l2 (by omega)
          refine (next_any g l2 2 _ hd2 (by omega) (by omega)).mono ?_; rintro e w2 ⟨rfl, hd3, hg3⟩
          generalize (nx 2 l2).2 = l3 at hd3
          generalize (nx 2 l2).1 = t at ht
          have hbox3 := hbox.grown hg3 (by simp; omega)
          have hg4 := only_trans hg2 hg3
          clear hg2 hg3 hd2 hbox
          have hsymH := Lib.hid hsym
          clear hsym
          by_cases ht1 : t = 1
          · subst ht1
            have hi0 := hbox3.cell i
            have hk0 := hbox3.cell k
            rw [cellsOf_at M i (by omega)] at hi0
            rw [cellsOf_at M k (by omega)] at hk0
            have fi := hbox3.frozen i
            have fk := hbox3.frozen k
            have hz3 := hbox3.lt
            have hxi := hsymH.out.lt i (by omega)
            have hxk := hsymH.out.lt k (by omega)
            have hpn : 2 ^ M.length ≤ 2 ^ 8 := Nat.pow_le_pow_right (by omega) (by omega)
            have hp8 : (2 : Nat) ^ 8 = 256 := by decide
            have o1 : bits .or .i64 ((M.getD i 0 : Nat) : Int) (2 ^ k) = ((M.getD i 0 ||| 2 ^ k : Nat) : Int) := by
              have := npow_le_128 k (by omega)
              have h2 := bits_or_nat (M.getD i 0) (2 ^ k) (by omega) (by omega)
              rw [← h2]; simp
            have o2 : bits .or .i64 ((M.getD k 0 : Nat) : Int) (2 ^ i) = ((M.getD k 0 ||| 2 ^ i : Nat) : Int) := by
              have := npow_le_128 i (by omega)
              have h2 := bits_or_nat (M.getD k 0) (2 ^ i) (by omega) (by omega)
              rw [← h2]; simp
            have hlaid : Hid (laid M i k = (M.set i (M.getD i 0 ||| 2 ^ k)).set k (M.getD k 0 ||| 2 ^ i)) := rfl
            generalize M.getD i 0 ||| 2 ^ k = X at o1 hlaid
            generalize M.getD k 0 ||| 2 ^ i = Y at o2 hlaid
            generalize ((M.getD i 0 : Nat) : Int) = xi at hi0 o1
            generalize ((M.getD k 0 : Nat) : Int) = xk at hk0 o2
            have hpi : (2 : Int) ^ i ≤ 256 ∧ (1 : Int) ≤ 2 ^ i := pow_le_256 i (by omega)
            have hpk : (2 : Int) ^ k ≤ 256 ∧ (1 : Int) ≤ 2 ^ k := pow_le_256 k (by omega)
            have hne : ¬ i = k := by omega
            have hne' : ¬ k = i := by omega
            have hkn : (k : Int) < (n : Int) := by omega
            clear hp8 hpn hxi hxk
            go_wp2_with fail
            go_roundw
            case rel =>
              refine ⟨k + 1, by omega, by go_num, laid M i k, l3, by rw [laid_length]; exact hM, hsymH.out.laid hkt (by omega), ?_, ?_, ?_⟩
              · rw [hlaid.out, ← cellsOf_set, ← cellsOf_set]
                exact (hbox3.put i _).put k _
              · exact hd3.other fun q hq => (Below.heap_setCell _ _ _ _ (by simp; omega)).trans (Below.heap_setCell _ _ _ _ (by simp; omega))
              · exact only_far (only_far hg4 (by simp; omega) _) (by simp; omega) _
            case measure => simp [intOf]; omega
          · have t0 : (t == 1) = false := by simpa using ht1
            clear ht1
            go_wp2_with fail
            go_roundw
            case rel => exact ⟨k + 1, by omega, by go_num, M, l3, hM, hsymH.out, hbox3, hd3, hg4⟩
            case measure => simp [intOf]; omega
        · have hrelH2 := Lib.hid hrel2
          clear hrel2
          go_wp2_with fail
          go_roundw
          case rel => exact ⟨i + 1, by omega, by go_num, hrelH2.out⟩
          case measure => simp [intOf]; omega
    · go_wp2_with fail
      go_ret
      obtain ⟨M, l2, hM, hsym, hbox, hd2, hg2⟩ := hrelH.out
      subst hM
      exact ⟨w1.heap.size, M, l2, rfl, hsym, hn1, hn8, hz1, hbox, hd2, hg2⟩

end Go.Proofs.Ytepodpdcillkmaa
