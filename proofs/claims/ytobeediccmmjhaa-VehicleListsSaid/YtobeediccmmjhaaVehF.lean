/- vehicle.Remove. -/
import Derived.Test.YtobeediccmmjhaaVehE
namespace Go.Proofs.Ytobeediccmmjhaa
open Go.RowKit
set_option linter.unusedVariables false
set_option linter.unusedSimpArgs false

def remE (vs : List Veh) (id : Int) : Int := if validV vs = false then 1 else if hasId vs id = true then 0 else 12
def remL (vs : List Veh) (id : Int) : List Veh := if remE vs id = 0 then vs.take (placeTo vs id) ++ vs.drop (placeTo vs id + 1) else []

theorem Src.more {w : World} {B B' : Nat} {ad : Addr} {us : List Veh} (h : Src w B ad us) (hB : B ≤ B') : Src w B' ad us := ⟨Nat.lt_of_lt_of_le h.1 hB, h.2.1, h.2.2⟩
theorem concat_at (gb : Nat) (ad1 ad2 : Addr) (c1 c2 n1 n2 : Nat) (xs ys : List Veh) (w : World) (e1 : xs.length = n1) (e2 : ys.length = n2) (hx : n1 ≤ 400) (hy : n2 ≤ 400) (h1 : Src w w.heap.size ad1 xs) (h2 : Src w w.heap.size ad2 ys)
    (hb : Box w gb 31 #[.slice (some ad1) n1 c1, .slice (some ad2) n2 c2]) :
    Calls Try.prog 26 #[.slice (some ⟨gb, 0, none⟩) 2 2] w fun e w' => ∃ v, e = .returned v ∧ w'.ownsRow w.heap.size 38 2 v (xs ++ ys).length (vcells (xs ++ ys)) ∧ Below w.heap.size w w' := by
  subst e1 e2
  exact concat_any gb ad1 ad2 c1 c2 xs ys w hx hy h1 h2 hb

set_option maxRecDepth 100000 in
set_option maxHeartbeats 4000000 in
theorem remove_any (A : Option Addr) (cap : Nat) (vs : List Veh) (id : Int) (w : World) (hA : Vehs w w.heap.size A vs) (hm : vs.length ≤ 9223372036854775807) (hS : Sl A vs.length cap) :
    Calls Try.prog 12 #[.slice A vs.length cap, .int .i64 id] w fun e w' => RegPost (remL vs id) (remE vs id) w e w' := by
  have HA := Lib.hid hA
  have HS := Lib.hid hS
  clear hA hS
  have hnil : ∀ er : Int, er ≠ 0 → remE vs id = er → ∀ W', Below w.heap.size w W' → RegPost (remL vs id) (remE vs id) w (.returned (.tuple #[.slice none 0 0, .int .i64 er])) W' := by
    intro er hne he W' hb
    have : remL vs id = [] := by unfold remL; rw [he, if_neg hne]
    rw [this, he]
    exact regPost_none hb
  have hnilH := Lib.hid hnil
  clear hnil
  go_enter Try.func12, Try.ntmps12
  go_wp2_with fail
  refine (valid_any A cap vs _ HA.out hm).mono ?_; rintro e w1 ⟨rfl, hb1⟩
  have hW1 := Lib.hid hb1
  have hVW1 : Hid (Vehs w1 w.heap.size A vs) := HA.out.below hb1
  have hz1 := hb1.size
  clear hb1
  cases hv : validV vs
  · have hE : Hid (remE vs id = 1) := Lib.hid (by unfold remE; rw [if_pos hv])
    clear hv
    go_wp2_with fail
    refine bodyPost_ret (v := .tuple #[.slice none 0 0, .int .i64 1]) (by simp [results, Try.results12, go_sem]) rfl (hnilH.out 1 (by decide) hE.out _ hW1.out)
  obtain ⟨h8, _⟩ := validV_ok hv
  have hvH := Lib.hid hv
  clear hv
  go_wp2_with fail
  refine (place_any A cap w.heap.size vs id _ hVW1.out hm).mono ?_; rintro e w' ⟨rfl, rfl⟩
  have hkle := placeTo_le vs id
  have hhas : Hid (hasId vs id = (decide (placeTo vs id < vs.length) && ((vs.getD (placeTo vs id) vz).id == id))) := rfl
  obtain ⟨k, hk⟩ : ∃ k, k = placeTo vs id := ⟨_, rfl⟩
  rw [← hk] at hkle hhas ⊢
  have hkH := Lib.hid hk
  clear hk
  by_cases hlt : k < vs.length
  rotate_left
  · have hE : Hid (remE vs id = 12) := Lib.hid (by unfold remE; rw [if_neg (by rw [hvH.out]; decide), hhas.out, decide_eq_false hlt, Bool.false_and, if_neg (by decide)])
    have hq : ((k : Int) == (vs.length : Int)) = true := by simp; omega
    clear hlt
    go_wp2_with fail
    refine bodyPost_ret (v := .tuple #[.slice none 0 0, .int .i64 12]) (by simp [results, Try.results12, go_sem]) rfl (hnilH.out 12 (by decide) hE.out _ hW1.out)
  have hkl : (k : Int) < (vs.length : Int) := by omega
  have hq : ((k : Int) == (vs.length : Int)) = false := by simp; omega
  obtain ⟨b, off, rfl, hbl, hc0, _⟩ := hVW1.out k hlt
  cases hy : ((vs.getD k vz).id == id)
  · have hE : Hid (remE vs id = 12) := Lib.hid (by unfold remE; rw [if_neg (by rw [hvH.out]; decide), hhas.out, hy, Bool.and_false, if_neg (by decide)])
    have hy2 : ((vs.getD k vz).id != id) = true := by rw [bne, hy]; rfl
    generalize (vs.getD k vz).id = y at hc0 hy hy2
    go_wp2_with fail
    refine bodyPost_ret (v := .tuple #[.slice none 0 0, .int .i64 12]) (by simp [results, Try.results12, go_sem]) rfl (hnilH.out 12 (by decide) hE.out _ hW1.out)
  have hE : Hid (remE vs id = 0) := Lib.hid (by unfold remE; rw [if_neg (by rw [hvH.out]; decide), hhas.out, hy, decide_eq_true hlt, if_pos (by decide)])
  have hEL : Hid (remL vs id = vs.take k ++ vs.drop (k + 1)) := Lib.hid (by unfold remL; rw [hE.out, if_pos rfl, hkH.out])
  have hy2 : ((vs.getD k vz).id != id) = false := by rw [bne, hy]; rfl
  have hlc : vs.length ≤ cap := by
    rcases HS.out with ⟨h, _⟩ | ⟨_, _, _, h⟩
    · cases h
    · exact h
  generalize (vs.getD k vz).id = y at hc0 hy hy2
  have hX1l : Hid ((vs.take k).length = k) := Lib.hid (by simp; omega)
  have hX2l : Hid ((vs.drop (k + 1)).length = vs.length - (k + 1)) := Lib.hid (by simp)
  have hS1 : Hid (Src w1 w1.heap.size ⟨b, off, none⟩ (vs.take k)) := ⟨Nat.lt_of_lt_of_le hbl hz1, rfl, vehs_take hVW1.out k⟩
  have hS2 : Hid (Src w1 w1.heap.size ⟨b, off + (k + 1) * 2, none⟩ (vs.drop (k + 1))) := ⟨Nat.lt_of_lt_of_le hbl hz1, rfl, vehs_drop hVW1.out (k + 1)⟩
  generalize vs.take k = X1 at hX1l hS1 hEL
  generalize vs.drop (k + 1) = X2 at hX2l hS2 hEL
  go_upto_region 6 with fail
  have hwr : IntKind.i64.wrap ((k : Int) + 1) = (k : Int) + 1 := by rw [IntKind.wrap_i64]; omega
  have hwr1 : 0 ≤ (k : Int) + 1 := by omega
  have hwr2 : (k : Int) + 1 ≤ (vs.length : Int) := by omega
  have hwr3 : ((k : Int) + 1).toNat = k + 1 := by omega
  have hki : (k : Int) ≤ (cap : Int) := by omega
  have hz : w.heap.size ≤ w1.drew.heap.size := hz1
  by_cases hc : cap = k + 1
  · obtain rfl : cap = k + 1 := hc
    have hX2n : Hid (X2 = []) := Lib.hid (List.eq_nil_of_length_eq_zero (by rw [hX2l.out]; omega))
    have hX20 : Hid (X2.length = 0) := Lib.hid (by rw [hX2n.out]; rfl)
    have hS2' : Hid (Src w1 w1.heap.size ⟨b, off, none⟩ X2) := Lib.hid ⟨Nat.lt_of_lt_of_le hbl hz1, rfl, fun j u hu => by rw [hX2n.out] at hu; simp [vcells] at hu⟩
    have hlen : vs.length - (k + 1) = 0 := by omega
    have hki2 : (k : Int) ≤ (k : Int) + 1 := by omega
    refine wp_region_still_tail 7 (by kernel_rfl) (by kernel_rfl) ?_
    simp only [List.take_succ_cons, List.take_zero, List.drop_succ_cons, List.drop_zero]
    repeat still_step
    refine wpStill_nil ?_
    change wpList _ _ _ _ _ w1.drew
    go_wp2_with fail
    have hbN : Below w1.heap.size w1 (w1.alloc (.cells #[.slice (some ⟨b, off, none⟩) k (k + 1), .slice (some ⟨b, off, none⟩) 0 0] 31)).drew := ((Below.refl _ _).alloc (Nat.le_refl _) _).drew
    refine (concat_at w1.heap.size ⟨b, off, none⟩ ⟨b, off, none⟩ _ _ k 0 X1 X2 _ hX1l.out hX20.out (by omega) (by omega) ((hS1.out.below hbN).more hbN.size) ((hS2'.out.below hbN).more hbN.size) (Box.new w1 31 _)).mono ?_
    rintro e w6 ⟨v, rfl, hown, hb6⟩
    have hb6H : Hid (Below w.heap.size w w6) := hW1.out.trans ((hbN.trans (hb6.mono hbN.size)).mono hz1)
    obtain ⟨A', cap', rfl, hSl, hVe, hfr⟩ := own_vehs hown
    have hSlH := Lib.hid hSl
    have hVeH := Lib.hid hVe
    have hfrH : Hid (∀ a, A' = some a → w.heap.size ≤ a.block) := Lib.hid fun a h => by have := hfr a h; simp at this; omega
    clear hown hSl hVe hb6 hbN hfr
    go_wp2_with fail
    refine bodyPost_ret (v := .tuple #[.slice A' (X1 ++ X2).length cap', .int .i64 0]) (by simp [results, Try.results12, go_sem]) rfl ?_
    rw [hEL.out, hE.out]
    exact ⟨A', cap', rfl, hSlH.out, hVeH.out, hb6H.out, hfrH.out⟩
  · refine wp_region_still_tail 7 (by kernel_rfl) (by kernel_rfl) ?_
    simp only [List.take_succ_cons, List.take_zero, List.drop_succ_cons, List.drop_zero]
    repeat still_step
    refine wpStill_nil ?_
    change wpList _ _ _ _ _ w1.drew
    go_wp2_with fail
    have hbN : Below w1.heap.size w1 (w1.alloc (.cells #[.slice (some ⟨b, off, none⟩) k cap, .slice (some ⟨b, off + (k + 1) * 2, none⟩) (vs.length - (k + 1)) (cap - (k + 1))] 31)).drew := ((Below.refl _ _).alloc (Nat.le_refl _) _).drew
    refine (concat_at w1.heap.size ⟨b, off, none⟩ ⟨b, off + (k + 1) * 2, none⟩ _ _ k (vs.length - (k + 1)) X1 X2 _ hX1l.out hX2l.out (by omega) (by omega) ((hS1.out.below hbN).more hbN.size) ((hS2.out.below hbN).more hbN.size) (Box.new w1 31 _)).mono ?_
    rintro e w6 ⟨v, rfl, hown, hb6⟩
    have hb6H : Hid (Below w.heap.size w w6) := hW1.out.trans ((hbN.trans (hb6.mono hbN.size)).mono hz1)
    obtain ⟨A', cap', rfl, hSl, hVe, hfr⟩ := own_vehs hown
    have hSlH := Lib.hid hSl
    have hVeH := Lib.hid hVe
    have hfrH : Hid (∀ a, A' = some a → w.heap.size ≤ a.block) := Lib.hid fun a h => by have := hfr a h; simp at this; omega
    clear hown hSl hVe hb6 hbN hfr
    go_wp2_with fail
    refine bodyPost_ret (v := .tuple #[.slice A' (X1 ++ X2).length cap', .int .i64 0]) (by simp [results, Try.results12, go_sem]) rfl ?_
    rw [hEL.out, hE.out]
    exact ⟨A', cap', rfl, hSlH.out, hVeH.out, hb6H.out, hfrH.out⟩

end Go.Proofs.Ytobeediccmmjhaa
