/- What the laws of layer 15 share: the example, the agency, Few, Left. -/
import Derived.Test.YtobeediccmmjhaaVehP
import Derived.Test.YtobeediccmmjhaaDeckV
namespace Go.Proofs.Ytobeediccmmjhaa
open Go.RowKit
set_option linter.unusedVariables false
set_option linter.unusedSimpArgs false

theorem few_any (A : Option Addr) (n cap : Nat) (w : World) (hn : n ≤ 9223372036854775807) :
    Calls Try.prog 6 #[.slice A n cap] w fun e w' => e = .returned (.bool (decide ((n : Int) ≤ 300))) ∧ w = w' := by
  go_enter Try.func6, Try.ntmps6
  go_wp2_with fail
  go_ret
  exact ⟨rfl, rfl⟩

theorem left_any (g : Nat) (l : List Int) (w : World) (h : DeckIs w g l) :
    Calls Try.prog 10 #[.pointer (some ⟨g, 0, none⟩)] w fun e w' => e = .returned (.bool (decide (0 < l.length))) ∧ ∃ n, w' = w.drewN n := by
  obtain ⟨A, cap, k, zs, hbox, hk, hm, rfl, hi⟩ := h
  have c0 := hbox.cell 0
  have c1 := hbox.cell 1
  have hg := hbox.lt
  simp at c0 c1
  have hE : Hid (decide (k < zs.length) = decide (0 < (zs.drop k).length)) := Lib.hid (by
    rw [List.length_drop]
    by_cases hlt : k < zs.length
    · rw [decide_eq_true (by omega), decide_eq_true (by omega)]
    · rw [decide_eq_false (by omega), decide_eq_false (by omega)])
  clear hbox hi
  go_enter Try.func10, Try.ntmps10
  go_wp2_with fail
  go_quiet (fail)
  go_wp2_with fail
  go_ret
  exact ⟨by rw [← hE.out]; rfl, _, rfl⟩

/-- The agency of the laws. -/
def agOf (n : Int) : Ag := ⟨none, 0, 0, 0, n % 4, none, 0, [n.tdiv 4 % 4, n.tdiv 16 % 9, 8, 3], 0, 0, 0, 0⟩
theorem agOf_lim (n : Int) : ∀ c, 0 ≤ limV (agOf n).lims c := by
  intro c
  unfold limV
  split
  · omega
  · have h1 : 0 ≤ n.tdiv 4 % 4 := Int.emod_nonneg _ (by omega)
    have h2 : 0 ≤ n.tdiv 16 % 9 := Int.emod_nonneg _ (by omega)
    rename_i h
    simp only [agOf, List.length_cons, List.length_nil] at h ⊢
    have : c.toNat = 0 ∨ c.toNat = 1 ∨ c.toNat = 2 ∨ c.toNat = 3 := by omega
    rcases this with e | e | e | e <;> rw [e] <;> simp [List.getD] <;> omega

theorem agency_any (n : Int) (w : World) (h0 : -9223372036854775808 ≤ n) (h1 : n ≤ 9223372036854775807) :
    Calls Try.prog 8 #[.int .i64 n] w fun e w' => ∃ L lc, e = .returned ({ agOf n with L := L, lc := lc } : Ag).val ∧ Ints w' w'.heap.size L (agOf n).lims ∧ Below w.heap.size w w' := by
  go_enter Try.func8, Try.ntmps8
  go_wp2_with fail
  refine (mod_any _ _ _ (by omega) (by omega)).mono ?_; rintro e w' ⟨rfl, rfl⟩
  go_wp2_with fail
  refine (mod_any _ _ _ (by omega) (by omega)).mono ?_; rintro e w' ⟨rfl, rfl⟩
  go_wp2_with fail
  refine (mod_any _ _ _ (by omega) (by omega)).mono ?_; rintro e w' ⟨rfl, rfl⟩
  generalize hx0 : n % 4 = x0
  generalize hx1 : n.tdiv 4 % 4 = x1
  generalize hx2 : n.tdiv 16 % 9 = x2
  have hA : Hid (∀ L lc, ({ agOf n with L := L, lc := lc } : Ag).val = .agg #[.slice none 0 0, .int .i64 0, .int .i64 x0, .slice L 4 lc, .int .i64 0, .int .i64 0, .int .i64 0, .int .i64 0]) := Lib.hid (by intro L lc; rw [← hx0]; rfl)
  have hL : Hid ((agOf n).lims = [x1, x2, 8, 3]) := Lib.hid (by rw [← hx1, ← hx2]; rfl)
  clear hx0 hx1 hx2
  go_wp2_with fail
  refine bodyPost_ret (v := .agg #[.slice none 0 0, .int .i64 0, .int .i64 x0, .slice (some ⟨w.heap.size + 1, 0, none⟩) 4 4, .int .i64 0, .int .i64 0, .int .i64 0, .int .i64 0]) (by simp [results, Try.results8, go_sem]) rfl ⟨some ⟨w.heap.size + 1, 0, none⟩, 4, by rw [hA.out], ?_, by go_grown⟩
  rw [hL.out]
  intro i hi
  have hb := fun j => (boxNew2 w (.cells #[.slice none 0 0, .int .i64 0, .int .i64 x0, .slice (some ⟨w.heap.size + 1, 0, none⟩) 4 4, .int .i64 0, .int .i64 0, .int .i64 0, .int .i64 0] 27) 3 #[.int .i64 x1, .int .i64 x2, .int .i64 8, .int .i64 3]).cell j
  refine ⟨w.heap.size + 1, 0, rfl, by simp, ?_⟩
  rw [Nat.zero_add, hb i]
  match i, hi with
  | 0, _ => rfl
  | 1, _ => rfl
  | 2, _ => rfl
  | 3, _ => rfl

theorem four_ints (W : World) (N : Nat) (h : W.heap.size = N) (a b c d : Int) : Ints (W.alloc (.cells #[.int .i64 a, .int .i64 b, .int .i64 c, .int .i64 d] 3)) (N + 1) (some ⟨N, 0, none⟩) [a, b, c, d] := by
  subst h
  intro i hi
  refine ⟨W.heap.size, 0, rfl, by omega, ?_⟩
  have hb := (Box.new W 3 #[.int .i64 a, .int .i64 b, .int .i64 c, .int .i64 d]).cell i
  rw [Nat.zero_add, hb]
  match i, hi with
  | 0, _ => rfl
  | 1, _ => rfl
  | 2, _ => rfl
  | 3, _ => rfl
theorem rgstr_at (A : Option Addr) (cap n : Nat) (vs : List Veh) (S : Option Addr) (sl sc : Nat) (ri acl : Int) (L : Option Addr) (ll lc : Nat) (lims : List Int) (rq se ra bu id cl : Int) (w : World) (hn : vs.length = n) (hll : lims.length = ll) (hA : Vehs w w.heap.size A vs) (hm : n ≤ 9223372036854775807) (hL : Ints w w.heap.size L lims) (hlm : ll ≤ 9223372036854775807) (hS : Sl A n cap) :
    Calls Try.prog 13 #[.slice A n cap, .agg #[.slice S sl sc, .int .i64 ri, .int .i64 acl, .slice L ll lc, .int .i64 rq, .int .i64 se, .int .i64 ra, .int .i64 bu], .agg #[.int .i64 id, .int .i64 cl]] w fun e w' => RegPost (regL vs acl lims id cl) (regE vs acl lims id cl) w e w' := by
  subst hn hll
  exact rgstr_any A cap vs ⟨S, sl, sc, ri, acl, L, lc, lims, rq, se, ra, bu⟩ id cl w hA hm hL hlm hS

theorem ex_r1 : regE [] 0 [1, 0, 0, 0] 5 0 = 0 := by decide
theorem ex_r1l : regL [] 0 [1, 0, 0, 0] 5 0 = [⟨5, 0⟩] := rfl
theorem ex_r2 : regE [⟨5, 0⟩] 0 [1, 0, 0, 0] 6 0 = 14 := by decide
theorem ex_r2l : regL [⟨5, 0⟩] 0 [1, 0, 0, 0] 6 0 = [] := rfl
theorem ex_r3 : regE [⟨5, 0⟩] 0 [1, 0, 0, 0] 6 1 = 17 := by decide
theorem ex_r3l : regL [⟨5, 0⟩] 0 [1, 0, 0, 0] 6 1 = [] := rfl

set_option maxHeartbeats 1000000 in
theorem awake15_any (w : World) :
    Calls Try.prog 7 #[] w fun e w' => e = .returned (.bool true) ∧ Below w.heap.size w w' := by
  go_enter Try.func7, Try.ntmps7
  go_wp2_with fail
  have hI : Hid (Ints ((w.alloc (.cells #[.int .i64 1, .int .i64 0, .int .i64 0, .int .i64 0] 3)).alloc (.cells #[.slice none 0 0, .int .i64 0, .int .i64 0, .slice (some ⟨w.heap.size, 0, none⟩) 4 4, .int .i64 0, .int .i64 0, .int .i64 0, .int .i64 0] 27)) (w.heap.size + 1) (some ⟨w.heap.size, 0, none⟩) [1, 0, 0, 0]) := (four_ints w w.heap.size rfl 1 0 0 0).below ((Below.refl _ _).alloc (by simp) _)
  have hJ : Hid (Box ((w.alloc (.cells #[.int .i64 1, .int .i64 0, .int .i64 0, .int .i64 0] 3)).alloc (.cells #[.slice none 0 0, .int .i64 0, .int .i64 0, .slice (some ⟨w.heap.size, 0, none⟩) 4 4, .int .i64 0, .int .i64 0, .int .i64 0, .int .i64 0] 27)) (w.heap.size + 1) 27 #[.slice none 0 0, .int .i64 0, .int .i64 0, .slice (some ⟨w.heap.size, 0, none⟩) 4 4, .int .i64 0, .int .i64 0, .int .i64 0, .int .i64 0]) := boxNew2 w _ _ _
  have hbW : Hid (Below w.heap.size w ((w.alloc (.cells #[.int .i64 1, .int .i64 0, .int .i64 0, .int .i64 0] 3)).alloc (.cells #[.slice none 0 0, .int .i64 0, .int .i64 0, .slice (some ⟨w.heap.size, 0, none⟩) 4 4, .int .i64 0, .int .i64 0, .int .i64 0, .int .i64 0] 27))) := Lib.hid (by go_grown)
  have hWz : (((w.alloc (.cells #[.int .i64 1, .int .i64 0, .int .i64 0, .int .i64 0] 3)).alloc (.cells #[.slice none 0 0, .int .i64 0, .int .i64 0, .slice (some ⟨w.heap.size, 0, none⟩) 4 4, .int .i64 0, .int .i64 0, .int .i64 0, .int .i64 0] 27))).heap.size = w.heap.size + 1 + 1 := by simp
  generalize ((w.alloc (.cells #[.int .i64 1, .int .i64 0, .int .i64 0, .int .i64 0] 3)).alloc (.cells #[.slice none 0 0, .int .i64 0, .int .i64 0, .slice (some ⟨w.heap.size, 0, none⟩) 4 4, .int .i64 0, .int .i64 0, .int .i64 0, .int .i64 0] 27)) = W at hI hJ hbW hWz ⊢
  have hCW : Hid (Below (w.heap.size + 2) W W) := Below.refl _ _
  have h1 := rgstr_at none 0 0 [] none 0 0 0 0 (some ⟨w.heap.size, 0, none⟩) 4 4 [1, 0, 0, 0] 0 0 0 0 5 0 W rfl rfl (fun i hi => by simp at hi) (by omega) ((hI.out.below (hCW.out.mono (by omega))).more (by have := hCW.out.size; omega)) (by omega) (.inl ⟨rfl, rfl, rfl⟩)
  rw [ex_r1, ex_r1l] at h1
  refine h1.mono ?_; rintro e w2 ⟨A2, c2, rfl, hS, hV, hb, _⟩
  clear h1
  have hS2 := Lib.hid hS
  have hV2 := Lib.hid hV
  have hCw2 : Hid (Below (w.heap.size + 2) W w2) := hb.mono (by omega)
  have hBw2 : Hid (Below w2.heap.size w2 w2) := Below.refl _ _
  clear hS hV hb
  have q0 := (hJ.out.below hCw2.out (by omega)).cell 0
  have q1 := (hJ.out.below hCw2.out (by omega)).cell 1
  have q2 := (hJ.out.below hCw2.out (by omega)).cell 2
  have q3 := (hJ.out.below hCw2.out (by omega)).cell 3
  have q4 := (hJ.out.below hCw2.out (by omega)).cell 4
  have q5 := (hJ.out.below hCw2.out (by omega)).cell 5
  have q6 := (hJ.out.below hCw2.out (by omega)).cell 6
  have q7 := (hJ.out.below hCw2.out (by omega)).cell 7
  simp at q0 q1 q2 q3 q4 q5 q6 q7
  have hzw2 : w.heap.size + 1 < w2.heap.size := by have := hCw2.out.size; omega
  go_wp2_with fail
  have h2 := rgstr_at A2 c2 1 [⟨5, 0⟩] none 0 0 0 0 (some ⟨w.heap.size, 0, none⟩) 4 4 [1, 0, 0, 0] 0 0 0 0 6 0 w2 rfl rfl ((hV2.out.below hBw2.out).more hBw2.out.size) (by omega) ((hI.out.below (hCw2.out.mono (by omega))).more (by have := hCw2.out.size; omega)) (by omega) hS2.out
  rw [ex_r2, ex_r2l] at h2
  refine h2.mono ?_; rintro e w3 ⟨A3, c3, rfl, hS, hV, hb, _⟩
  clear h2
  have hCw3 : Hid (Below (w.heap.size + 2) W w3) := hCw2.out.trans (hb.mono (by have := hCw2.out.size; omega))
  have hBw3 : Hid (Below w2.heap.size w2 w3) := hb
  clear hS hV hb q0 q1 q2 q3 q4 q5 q6 q7
  have q0 := (hJ.out.below hCw3.out (by omega)).cell 0
  have q1 := (hJ.out.below hCw3.out (by omega)).cell 1
  have q2 := (hJ.out.below hCw3.out (by omega)).cell 2
  have q3 := (hJ.out.below hCw3.out (by omega)).cell 3
  have q4 := (hJ.out.below hCw3.out (by omega)).cell 4
  have q5 := (hJ.out.below hCw3.out (by omega)).cell 5
  have q6 := (hJ.out.below hCw3.out (by omega)).cell 6
  have q7 := (hJ.out.below hCw3.out (by omega)).cell 7
  simp at q0 q1 q2 q3 q4 q5 q6 q7
  have hzw3 : w.heap.size + 1 < w3.heap.size := by have := hCw3.out.size; omega
  go_wp2_with fail
  have h3 := rgstr_at A2 c2 1 [⟨5, 0⟩] none 0 0 0 0 (some ⟨w.heap.size, 0, none⟩) 4 4 [1, 0, 0, 0] 0 0 0 0 6 1 w3 rfl rfl ((hV2.out.below hBw3.out).more hBw3.out.size) (by omega) ((hI.out.below (hCw3.out.mono (by omega))).more (by have := hCw3.out.size; omega)) (by omega) hS2.out
  rw [ex_r3, ex_r3l] at h3
  refine h3.mono ?_; rintro e w4 ⟨A4, c4, rfl, hS, hV, hb, _⟩
  clear h3
  have hB4 : Hid (Below w.heap.size w w4) := hbW.out.trans ((hCw3.out.trans (hb.mono (by have := hCw3.out.size; omega))).mono (by omega))
  clear hS hV hb q0 q1 q2 q3 q4 q5 q6 q7
  go_wp2_with fail
  go_ret
  exact ⟨rfl, hB4.out⟩

end Go.Proofs.Ytobeediccmmjhaa
