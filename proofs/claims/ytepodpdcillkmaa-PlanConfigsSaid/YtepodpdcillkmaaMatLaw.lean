/- What the laws of layer 6 share: the opening, awake. -/
import Derived.Test.YtepodpdcillkmaaTab
namespace Go.Proofs.Ytepodpdcillkmaa
open Go.RowKit

theorem IsRow.opened {w : World} {a : Option Addr} {len cap : Nat} {zs : List Int} (h : IsRow w a len cap zs) :
    ∃ xs : List Int, len = xs.length ∧ Ints w w.heap.size a xs ∧ xs.length ≤ 9223372036854775807 := by
  have hl := h.len_le
  unfold maxLen at hl
  have hlen : len = (zs.take len).length := by
    rcases h with ⟨_, rfl, _, rfl⟩ | ⟨x, _, hle, _, hz, _, _⟩
    · rfl
    · rw [List.length_take]; omega
  refine ⟨zs.take len, hlen, fun i hi => ?_, by omega⟩
  obtain ⟨b, off, e, hb, hc⟩ := h.at_ i (by omega)
  refine ⟨b, off, e, hb, ?_⟩
  rw [hc]
  simp only [List.getD]
  rw [List.getElem?_take_of_lt (by omega)]

theorem Ints.drewN {w : World} {B : Nat} {A : Option Addr} {xs : List Int} (h : Ints w B A xs) (k : Nat) : Ints (w.drewN k) B A xs := h

theorem after_rows {w w1 w2 : World} (h1 : Below w.heap.size w w1) (h2 : w1.grownBy w2 (some w.heap.size)) : Below w.heap.size w w2 :=
  h1.grown h2 h1.size (fun k hk => by injection hk with hk; omega)

theorem hitVal_form (o : Option (Nat × Nat)) : ∃ r s : Int, hitVal o = .tuple #[.int .i64 r, .int .i64 s] := by
  rcases o with _ | ⟨p, q⟩
  · exact ⟨_, _, rfl⟩
  · exact ⟨_, _, rfl⟩

theorem ex_clash3 : firstHit ([2, 1, 0] : List Int).length (hitP [2, 1, 0] 3) = some (0, 1) := by decide
theorem ex_clash5 : firstHit ([2, 1, 0] : List Int).length (hitP [2, 1, 0] 5) = none := by decide
theorem ex_valid : validM [2, 1, 0] = true := by decide
theorem ex_allowed : allowedTo [2, 1, 0] 1 ([2, 1, 0] : List Int).length = 4 := by decide

set_option maxHeartbeats 1000000 in
theorem awake6_any (w : World) :
    Calls Try.prog 21 #[] w fun e w' => e = .returned (.bool true) ∧ Below w.heap.size w w' := by
  have hi : ∀ W : World, Hid (Ints (W.alloc (.cells #[.int .i64 2, .int .i64 1, .int .i64 0] 3)) (W.heap.size + 1) (some ⟨W.heap.size, 0, none⟩) [2, 1, 0]) := by
    intro W i hi
    refine ⟨W.heap.size, 0, rfl, by omega, ?_⟩
    have hb := (Box.new W 3 #[.int .i64 2, .int .i64 1, .int .i64 0]).cell i
    rw [Nat.zero_add, hb]
    match i, hi with
    | 0, _ => rfl
    | 1, _ => rfl
    | 2, _ => rfl
  go_enter Try.func21, Try.ntmps21
  go_wp2_with fail
  refine (clash_any (some ⟨w.heap.size, 0, none⟩) 3 _ [2, 1, 0] 3 _ (hi w).out (by decide) (by omega) (by omega)).mono ?_; rintro e w' ⟨rfl, rfl⟩
  rw [ex_clash3]
  unfold hitVal
  go_wp2_with fail
  refine (clash_any (some ⟨w.heap.size, 0, none⟩) 3 _ [2, 1, 0] 5 _ (hi w).out (by decide) (by omega) (by omega)).mono ?_; rintro e w' ⟨rfl, rfl⟩
  rw [ex_clash5]
  unfold hitVal
  go_wp2_with fail
  refine (valid_any (some ⟨w.heap.size, 0, none⟩) 3 _ [2, 1, 0] _ (hi w).out (by decide)).mono ?_; rintro e w' ⟨rfl, k, rfl⟩
  rw [ex_valid]
  go_wp2_with fail
  refine (allowed_any (some ⟨w.heap.size, 0, none⟩) 3 (w.heap.size + 1) [2, 1, 0] 1 _ (Ints.drewN (hi w).out k) (by decide) (by omega) (by omega)).mono ?_; rintro e w' ⟨rfl, rfl⟩
  rw [ex_allowed]
  go_wp2_with fail
  go_ret
  exact ⟨rfl, (Quiet.below ⟨k, rfl⟩ _ |> ((Below.refl _ w).alloc (Nat.le_refl _) _).trans)⟩

end Go.Proofs.Ytepodpdcillkmaa
