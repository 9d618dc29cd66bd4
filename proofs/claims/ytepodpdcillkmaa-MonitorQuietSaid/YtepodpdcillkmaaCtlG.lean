/- monitor.Seen; Valid of the reference's layer 9 on a control that keeps the invariant. -/
import Derived.Test.YtepodpdcillkmaaCtlE
import Derived.Test.YtepodpdcillkmaaMonOrd
namespace Go.Proofs.Ytepodpdcillkmaa
open Go.RowKit
set_option linter.unusedVariables false
set_option linter.unusedSimpArgs false

/-- The lamps, with green for the phase s. -/
def seen (L : List Lt) (s : Int) (k : Nat) : List Int := (List.range L.length).map fun i => if i < k then (if (i : Int) = s then 1 else (L.getD i lz).m) else 0
theorem seen_length (L : List Lt) (s : Int) (k : Nat) : (seen L s k).length = L.length := by simp [seen]
theorem seen_getD (L : List Lt) (s : Int) (k i : Nat) (h : i < L.length) : (seen L s k).getD i 0 = if i < k then (if (i : Int) = s then 1 else (L.getD i lz).m) else 0 := by
  simp [seen, List.getD, h]
theorem seen_zero (L : List Lt) (s : Int) : seen L s 0 = List.replicate L.length 0 := by
  apply List.ext_getElem
  · simp [seen]
  · intro i h1 h2; simp [seen]
theorem seen_succ (L : List Lt) (s : Int) (k : Nat) (h : k < L.length) : (seen L s k).set k (if (k : Int) = s then 1 else (L.getD k lz).m) = seen L s (k + 1) := by
  apply List.ext_getElem
  · simp [seen]
  · intro i h1 h2
    rw [List.getElem_set]
    simp only [seen, List.getElem_map, List.getElem_range]
    by_cases hik : k = i
    · subst hik; rw [if_pos rfl]; simp
    · rw [if_neg hik]
      by_cases hlt : i < k
      · have h3 : i < k + 1 := by omega
        simp only [hlt, h3, if_true]
      · have h3 : ¬ i < k + 1 := by omega
        simp only [hlt, h3, if_false]

def SeenPost (L : List Lt) (s : Int) (w : World) (e : Ending) (w' : World) : Prop := ∃ g, e = .returned (.slice (some ⟨g, 0, none⟩) L.length L.length) ∧ Ints w' w'.heap.size (some ⟨g, 0, none⟩) (seen L s L.length) ∧ Below w.heap.size w w'

set_option maxRecDepth 100000 in
set_option maxHeartbeats 4000000 in
theorem seen_any (A3 : Option Addr) (cap3 : Nat) (L : List Lt) (s : Int) (w : World) (hL : Lts w w.heap.size A3 L) (h8 : L.length ≤ 8) :
    Calls Try.prog 20 #[.slice A3 L.length cap3, .int .i64 s] w fun e w' => SeenPost L s w e w' := by
  have HL := Lib.hid hL
  clear hL
  go_enter Try.func20, Try.ntmps20
  have hmk := fun W => run_make_row' (P := Try.prog) 22 3 (.int .i64 0) 8 Try.underlying22 int_info rfl .i64 .i64 L.length (by omega) (by omega) W
  go_wp2_with fail
  clear hmk
  go_loopw [13] (fun v13 wr => ∃ k : Nat, k ≤ L.length ∧ v13 = .int .i64 k ∧ Box wr w.heap.size 3 (icells (seen L s k)) ∧ Below w.heap.size w wr) (fun v13 _ => L.length - (intOf v13).toNat)
  case atStart => exact ⟨0, by omega, rfl, by rw [seen_zero, ← icells_zero]; exact Box.new _ _ _, (Below.refl _ _).alloc (Nat.le_refl _) _⟩
  case round =>
    obtain ⟨k, hk, rfl, hbox, hb⟩ := hrel
    have hboxH := Lib.hid hbox
    have hbH := Lib.hid hb
    have hz := hbox.lt
    have hzb := hb.size
    clear hbox hb
    by_cases hlt : k < L.length
    · have hkl : (k : Int) < (L.length : Int) := by omega
      obtain ⟨b, off, rfl, hbl, l0, l1⟩ := (HL.out.below hbH.out) k hlt
      have hsc := Lib.hid (seen_succ L s k hlt)
      generalize (L.getD k lz).m = lm at l0 hsc
      generalize (L.getD k lz).t = lt at l1
      have c0 := hboxH.out.cell k
      rw [icells_at _ k (by rw [seen_length]; exact hlt)] at c0
      generalize (seen L s k).getD k 0 = x0 at c0
      have f0 := hboxH.out.frozen k
      have hbz : b < wr.heap.size := by omega
      have hne : b ≠ w.heap.size := by omega
      by_cases hks : (k : Int) = s
      · have hks' : ((k : Int) == s) = true := by simp [hks]
        have hsc2 := hsc.out
        rw [if_pos hks] at hsc2
        have hsc2H := Lib.hid hsc2
        clear hks hsc2
        go_wp2_with fail
        go_roundw
        case rel => exact ⟨k + 1, by omega, by go_num, ((hboxH.out.put k _).put_eq (i := k) (by rw [icells_set, icells_set, List.set_set, hsc2H.out])).alloc _, ((hbH.out.setCell (by simp) _).setCell (by simp) _).alloc (by simp; omega) _⟩
        case measure => simp [intOf]; omega
      · have hks' : ((k : Int) == s) = false := by simp [hks]
        have hsc2 := hsc.out
        rw [if_neg hks] at hsc2
        have hsc2H := Lib.hid hsc2
        clear hks hsc2
        go_wp2_with fail
        go_roundw
        case rel => exact ⟨k + 1, by omega, by go_num, (hboxH.out.put_eq (i := k) (by rw [icells_set, hsc2H.out])).alloc _, (hbH.out.setCell (by simp) _).alloc (by simp; omega) _⟩
        case measure => simp [intOf]; omega
    · have hkl : ¬ (k : Int) < (L.length : Int) := by omega
      obtain rfl : k = L.length := by omega
      go_wp2_with fail
      go_ret
      exact ⟨_, rfl, hboxH.out.iints hz, hbH.out⟩

end Go.Proofs.Ytepodpdcillkmaa
