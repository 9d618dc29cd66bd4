/- Contracts of signalbrokermake: Mod, New, Next, Range: a deck is the list of the numbers that are left. -/
import Derived.Test.YtepodpdcillkmaaBase
import Derived.Deep.QuietTactic
import Derived.BigQuiet
namespace Go.Proofs.Ytepodpdcillkmaa
open Go.RowKit

theorem tmod_emod (v n : Int) (h1 : 1 ≤ n) : (if v.tmod n < 0 then v.tmod n + n else v.tmod n) = v % n := by
  have h2 : 0 ≤ v % n := Int.emod_nonneg _ (by omega)
  have h3 : v % n < n := Int.emod_lt_of_pos _ (by omega)
  rcases Int.le_total 0 v with h | h
  · rw [Int.tmod_eq_emod_of_nonneg h, if_neg (by omega)]
  · rw [Int.tmod_eq_emod]
    split <;> split <;> rename_i a b <;> simp_all <;> omega

set_option maxHeartbeats 400000 in
theorem mod_any (v n : Int) (w : World) (h1 : 1 ≤ n) (h2 : n ≤ 9223372036854775807) :
    Calls Try.prog 16 #[.int .i64 v, .int .i64 n] w fun e w' => e = .returned (.int .i64 (v % n)) ∧ w = w' := by
  have g1 : v.tmod n < n := Int.tmod_lt_of_pos _ (by omega)
  have g2 : -n < v.tmod n := by
    have := Int.lt_tmod_of_pos v (show 0 < n by omega)
    omega
  have HE := Lib.hid (tmod_emod v n h1)
  go_enter Try.func16, Try.ntmps16
  go_wp2
  · go_ret
    have h : v.tmod n < 0 := by assumption
    exact ⟨ret_i64 (by rw [← HE.out, if_pos h]), rfl⟩
  · go_ret
    have h : 0 ≤ v.tmod n := by assumption
    exact ⟨ret_i64 (by rw [← HE.out, if_neg (by omega)]), rfl⟩
theorem mod_right (v n : Int) (w : World) (h1 : 1 ≤ n) (h2 : n ≤ 9223372036854775807) :
    Calls Try.prog 16 #[.int .i64 v, .int .i64 n] w fun e w' => e = .returned (.int .i64 (v % n)) ∧ w' = w :=
  (mod_any v n w h1 h2).mono fun _ _ ⟨a, b⟩ => ⟨a, b.symm⟩

/-- The deck in block g holds the numbers l. -/
def DeckIs (w : World) (g : Nat) (l : List Int) : Prop :=
  ∃ (A : Option Addr) (cap k : Nat) (zs : List Int), Box w g 74 #[.slice A zs.length cap, .int .i64 k] ∧ k ≤ zs.length ∧ zs.length ≤ 9223372036854775807 ∧ l = zs.drop k ∧ Ints w g A zs

/-- The next number below n, and what is left. -/
def nx (n : Int) : List Int → Int × List Int
  | [] => (0, [])
  | x :: r => (x % n, r)
theorem nx_bd (n : Int) (l : List Int) (h : 1 ≤ n) : 0 ≤ (nx n l).1 ∧ (nx n l).1 < n := by
  cases l with
  | nil => simp [nx]; omega
  | cons x r => exact ⟨Int.emod_nonneg _ (by omega), Int.emod_lt_of_pos _ (by omega)⟩

theorem DeckIs.other {w w' : World} {g : Nat} {l : List Int} (h : DeckIs w g l) (hb : ∀ k, k ≤ g → w'.heap[k]? = w.heap[k]?) : DeckIs w' g l := by
  obtain ⟨A, cap, k, zs, hbox, hk, hm, hl, hi⟩ := h
  refine ⟨A, cap, k, zs, (hb g (Nat.le_refl _)).trans hbox, hk, hm, hl, fun i hlt => ?_⟩
  obtain ⟨b, off, e, hbg, hc⟩ := hi i hlt
  exact ⟨b, off, e, hbg, (World.cell?_of_block (w := w) (a := ⟨b, off + i, none⟩) (hb b (by omega))).trans hc⟩
theorem DeckIs.lt {w : World} {g : Nat} {l : List Int} (h : DeckIs w g l) : g < w.heap.size := by
  obtain ⟨A, cap, k, zs, hbox, _⟩ := h
  exact hbox.lt
theorem DeckIs.below {w w' : World} {g : Nat} {l : List Int} (h : DeckIs w g l) (hb : Below w.heap.size w w') : DeckIs w' g l :=
  h.other fun k hk => hb.block k (by have := h.lt; omega)
theorem DeckIs.bds {w : World} {g : Nat} {l : List Int} (h : DeckIs w g l) : l.length ≤ 9223372036854775807 := by
  obtain ⟨A, cap, k, zs, hbox, hk, hm, rfl, hi⟩ := h
  simp; omega

theorem only_refl (w : World) (row : Option Nat) : w.grownBy w row := ⟨rfl, rfl, rfl, Nat.le_refl _, fun _ _ _ => rfl⟩
theorem only_drew {a w : World} {row : Option Nat} (h : a.grownBy w row) : a.grownBy w.drew row := ⟨h.os, h.tape, h.output, h.size, h.block⟩
theorem only_drewN {a w : World} {row : Option Nat} (h : a.grownBy w row) (n : Nat) : a.grownBy (w.drewN n) row := ⟨h.os, h.tape, h.output, h.size, h.block⟩
theorem only_put {a w : World} {g : Nat} (h : a.grownBy w (some g)) (i : Nat) (u : Value) : a.grownBy (w.setCell ⟨g, i, none⟩ u) (some g) :=
  ⟨h.os, h.tape, h.output, by simpa [World.setCell] using h.size, fun k hk hne => (Below.heap_setCell w ⟨g, i, none⟩ u k (by rintro rfl; exact hne rfl)).trans (h.block k hk hne)⟩

set_option maxHeartbeats 400000 in
theorem next_sz (g : Nat) (l : List Int) (n : Int) (w : World) (h : DeckIs w g l) (h1 : 1 ≤ n) (h2 : n ≤ 9223372036854775807) :
    Calls Try.prog 47 #[.pointer (some ⟨g, 0, none⟩), .int .i64 n] w fun e w' =>
      e = .returned (.int .i64 (nx n l).1) ∧ DeckIs w' g (nx n l).2 ∧ w.grownBy w' (some g) ∧ w'.heap.size = w.heap.size := by
  obtain ⟨A, cap, k, zs, hbox, hk, hm, rfl, hi⟩ := h
  have c0 := hbox.cell 0
  have c1 := hbox.cell 1
  simp at c0 c1
  have f0 := hbox.frozen 0
  have f1 := hbox.frozen 1
  by_cases hlt : k < zs.length
  · obtain ⟨b, off, rfl, hbg, hc⟩ := hi k hlt
    have hE : Hid (nx n (zs.drop k) = (zs.getD k 0 % n, zs.drop (k + 1))) := by
      rw [List.drop_eq_getElem_cons hlt, List.getD, List.getElem?_eq_getElem hlt]; rfl
    generalize zs.getD k 0 = x at hc hE
    have HI := Lib.hid hi
    clear hi
    have hne : g ≠ b := by omega
    have hne' : b ≠ g := by omega
    have k0 : (0 : Int) ≤ (k : Int) := by omega
    have k1 : (k : Int) < (zs.length : Int) := by omega
    go_enter Try.func47, Try.ntmps47
    go_wp2
    go_quiet (fail)
    go_wp2
    have hw1 : IntKind.i64.wrap ((k : Int) + 1 - 1) = (k : Int) := by rw [IntKind.wrap_i64]; omega
    go_quiet ((go_at_call 16; refine Calls.quiet_of_same (mod_right _ _ _ h1 h2)))
    clear hw1
    go_wp2
    go_ret
    refine ⟨by rw [hE.out]; rfl, ?_, ?_, by simp⟩
    · rw [hE.out]
      refine ⟨some ⟨b, off, none⟩, cap, k + 1, zs, Box.put_eq (w := w) hbox (by simp), by omega, hm, rfl, fun i hi' => ?_⟩
      obtain ⟨b', off', e, hbg', hc'⟩ := HI.out i hi'
      refine ⟨b', off', e, hbg', ?_⟩
      exact (World.cell?_of_block (w := w) (a := ⟨b', off' + i, none⟩) (Below.heap_setCell w ⟨g, 1, none⟩ _ b' (by simp; omega))).trans hc'
    · exact only_drewN (only_put (only_drewN (only_refl _ _) _) _ _) _
  · have hE : Hid (nx n (zs.drop k) = (0, [])) := by
      rw [List.drop_of_length_le (by omega)]; rfl
    have k1 : (zs.length : Int) ≤ (k : Int) := by omega
    have HI := Lib.hid hi
    clear hi
    go_enter Try.func47, Try.ntmps47
    go_wp2
    go_quiet (fail)
    go_wp2
    go_ret
    refine ⟨by rw [hE.out]; rfl, ?_, only_drewN (only_refl _ _) _, by simp⟩
    rw [hE.out]
    exact ⟨A, cap, k, zs, hbox, hk, hm, by rw [List.drop_of_length_le (by omega)], HI.out⟩

theorem next_any (g : Nat) (l : List Int) (n : Int) (w : World) (h : DeckIs w g l) (h1 : 1 ≤ n) (h2 : n ≤ 9223372036854775807) :
    Calls Try.prog 47 #[.pointer (some ⟨g, 0, none⟩), .int .i64 n] w fun e w' =>
      e = .returned (.int .i64 (nx n l).1) ∧ DeckIs w' g (nx n l).2 ∧ w.grownBy w' (some g) :=
  (next_sz g l n w h h1 h2).mono fun _ _ ⟨a, b, c, _⟩ => ⟨a, b, c⟩

/-- There is a deck in block g. -/
def HasDeck (w : World) (g : Nat) : Prop := ∃ l, DeckIs w g l
theorem HasDeck.lt {w : World} {g : Nat} (h : HasDeck w g) : g < w.heap.size := h.elim fun _ h => h.lt
theorem HasDeck.other {w w' : World} {g : Nat} (h : HasDeck w g) (hb : ∀ k, k ≤ g → w'.heap[k]? = w.heap[k]?) : HasDeck w' g := h.elim fun l h => ⟨l, h.other hb⟩
theorem HasDeck.below {w w' : World} {g : Nat} (h : HasDeck w g) (hb : Below w.heap.size w w') : HasDeck w' g := h.elim fun l h => ⟨l, h.below hb⟩
theorem HasDeck.alloc {w : World} {g : Nat} (h : HasDeck w g) (o : Obj) : HasDeck (w.alloc o) g := h.below ((Below.refl _ _).alloc (Nat.le_refl _) _)
theorem HasDeck.far {w : World} {g : Nat} (h : HasDeck w g) {p : Addr} (hp : g < p.block) (u : Value) : HasDeck (w.setCell p u) g :=
  h.other fun k hk => Below.heap_setCell w p u k (by omega)
theorem HasDeck.drew {w : World} {g : Nat} (h : HasDeck w g) : HasDeck w.drew g := h
/-- A number between lo and hi is drawn from the deck; every other block is as it was. -/
structure Drawn (w : World) (g : Nat) (w' : World) : Prop where
  deck : HasDeck w' g
  size : w'.heap.size = w.heap.size
  cell : ∀ b o, b ≠ g → w'.cell? ⟨b, o, none⟩ = w.cell? ⟨b, o, none⟩
  frozen : ∀ b o, b ≠ g → w'.frozen? ⟨b, o, none⟩ = w.frozen? ⟨b, o, none⟩
  only : w.grownBy w' (some g)
theorem only_blocks {w w' : World} {g : Nat} (h : w.grownBy w' (some g)) (hs : w'.heap.size = w.heap.size) (b : Nat) (hb : b ≠ g) : w'.heap[b]? = w.heap[b]? := by
  by_cases hlt : b < w.heap.size
  · exact h.block b hlt (by intro e; injection e with e; exact hb e)
  · rw [Array.getElem?_eq_none (by omega), Array.getElem?_eq_none (by omega)]
def DrawnV (w : World) (g : Nat) (lo hi : Int) (e : Ending) (w' : World) : Prop := ∃ v : Int, e = .returned (.int .i64 v) ∧ lo ≤ v ∧ v ≤ hi ∧ Drawn w g w'
theorem next_has (g : Nat) (n : Int) (w : World) (h : HasDeck w g) (h1 : 1 ≤ n) (h2 : n ≤ 9223372036854775807) :
    Calls Try.prog 47 #[.pointer (some ⟨g, 0, none⟩), .int .i64 n] w (DrawnV w g 0 (n - 1)) := by
  obtain ⟨l, h⟩ := h
  have hb := nx_bd n l h1
  exact (next_sz g l n w h h1 h2).mono fun e w' ⟨he, hd, ho, hs⟩ =>
    ⟨_, he, hb.1, by omega, ⟨_, hd⟩, hs, fun b o hne => World.cell?_of_block (w := w) (a := ⟨b, o, none⟩) (only_blocks ho hs b hne), fun b o hne => World.frozen?_of_block (w := w) (a := ⟨b, o, none⟩) (only_blocks ho hs b hne), ho⟩

set_option maxHeartbeats 400000 in
theorem range_any (g : Nat) (l : List Int) (a b : Int) (w : World) (h : DeckIs w g l) (h0 : 0 ≤ a) (h1 : a ≤ b) (h2 : b ≤ 1000000) :
    Calls Try.prog 48 #[.pointer (some ⟨g, 0, none⟩), .int .i64 a, .int .i64 b] w fun e w' =>
      e = .returned (.int .i64 (a + (nx (b - a + 1) l).1)) ∧ DeckIs w' g (nx (b - a + 1) l).2 ∧ w.grownBy w' (some g) := by
  have hb := nx_bd (b - a + 1) l (by omega)
  go_enter Try.func48, Try.ntmps48
  go_wp2_with fail
  refine (next_any g l (b - a + 1) w h (by omega) (by omega)).mono ?_; rintro e w' ⟨rfl, hd, hg⟩
  have hdH := Lib.hid hd
  have hgH := Lib.hid hg
  clear hd hg
  go_wp2_with fail
  go_ret
  exact ⟨rfl, hdH.out, hgH.out⟩

set_option maxHeartbeats 400000 in
theorem range_has (g : Nat) (a b : Int) (w : World) (h : HasDeck w g) (h0 : 0 ≤ a) (h1 : a ≤ b) (h2 : b ≤ 1000000) :
    Calls Try.prog 48 #[.pointer (some ⟨g, 0, none⟩), .int .i64 a, .int .i64 b] w (DrawnV w g a b) := by
  go_enter Try.func48, Try.ntmps48
  go_wp2_with fail
  refine (next_has g (b - a + 1) w h (by omega) (by omega)).mono ?_; rintro e w' ⟨v, rfl, v0, v1, hd⟩
  have hdH := Lib.hid hd
  clear hd
  go_wp2_with fail
  go_ret
  exact ⟨_, rfl, by omega, by omega, hdH.out⟩

/-- A new deck lies in a block of its own. -/
theorem mknew_any (A : Option Addr) (cap : Nat) (zs : List Int) (w : World) (h : Ints w w.heap.size A zs) (hm : zs.length ≤ 9223372036854775807) :
    Calls Try.prog 14 #[.slice A zs.length cap] w fun e w' =>
      e = .returned (.pointer (some ⟨w.heap.size, 0, none⟩)) ∧ DeckIs w' w.heap.size zs ∧ Below w.heap.size w w' ∧ w'.heap.size = w.heap.size + 1 := by
  have H := Lib.hid h
  clear h
  go_enter Try.func14, Try.ntmps14
  go_wp2
  go_ret
  refine ⟨rfl, ⟨A, cap, 0, zs, Box.new _ _ _, by omega, hm, rfl, fun i hi => ?_⟩, (Below.refl _ _).alloc (Nat.le_refl _) _, by simp⟩
  obtain ⟨b, off, e, hb, hc⟩ := H.out i hi
  exact ⟨b, off, e, hb, (World.cell?_alloc_lt _ _ _ (by simpa using hb)).trans hc⟩

end Go.Proofs.Ytepodpdcillkmaa
