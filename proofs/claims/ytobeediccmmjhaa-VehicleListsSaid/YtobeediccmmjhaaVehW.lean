/- The walk of signalbrokerlaw15.VehicleOrder. -/
import Derived.Test.YtobeediccmmjhaaVehO
namespace Go.Proofs.Ytobeediccmmjhaa
open Go.RowKit
set_option linter.unusedVariables false
set_option linter.unusedSimpArgs false

/-- A list of vehicles that a slot holds. -/
def VL (v : Value) (vs : List Veh) (wx : World) : Prop := ∃ (A : Option Addr) (cap : Nat), v = .slice A vs.length cap ∧ Sl A vs.length cap ∧ Vehs wx wx.heap.size A vs
theorem VL.below {v : Value} {vs : List Veh} {w w' : World} (h : VL v vs w) (hb : Below w.heap.size w w') : VL v vs w' := by
  obtain ⟨A, cap, h1, h2, h3⟩ := h
  exact ⟨A, cap, h1, h2, (h3.below hb).more hb.size⟩
theorem VL.nil (w : World) : VL (.slice none 0 0) [] w := ⟨none, 0, rfl, .inl ⟨rfl, rfl, rfl⟩, fun i hi => by simp at hi⟩
theorem vl_new {vs : List Veh} {er : Int} {w w' : World} {e : Ending} (h : RegPost vs er w e w') : ∃ v, e = .returned (.tuple #[v, .int .i64 er]) ∧ VL v vs w' ∧ Below w.heap.size w w' := by
  obtain ⟨A, cap, rfl, hS, hV, hb, _⟩ := h
  exact ⟨_, rfl, ⟨A, cap, rfl, hS, hV⟩, hb⟩
theorem rgstr_vl (v : Value) (vs : List Veh) (acl : Int) (L : Option Addr) (ll lc : Nat) (lims : List Int) (id cl : Int) (w : World) (hv : VL v vs w) (hm : vs.length ≤ 1000) (hll : lims.length = ll) (hL : Ints w w.heap.size L lims) (hlm : ll ≤ 1000) :
    Calls Try.prog 13 #[v, .agg #[.slice none 0 0, .int .i64 0, .int .i64 acl, .slice L ll lc, .int .i64 0, .int .i64 0, .int .i64 0, .int .i64 0], .agg #[.int .i64 id, .int .i64 cl]] w
      fun e w' => ∃ u, e = .returned (.tuple #[u, .int .i64 (regE vs acl lims id cl)]) ∧ VL u (regL vs acl lims id cl) w' ∧ Below w.heap.size w w' := by
  obtain ⟨A, cap, rfl, hS, hV⟩ := hv
  exact (rgstr_at A cap vs.length vs none 0 0 0 acl L ll lc lims 0 0 0 0 id cl w rfl hll hV (by omega) hL (by omega) hS).mono fun e w' hp => vl_new hp
theorem remove_vl (v : Value) (vs : List Veh) (id : Int) (w : World) (hv : VL v vs w) (hm : vs.length ≤ 1000) :
    Calls Try.prog 12 #[v, .int .i64 id] w fun e w' => ∃ u, e = .returned (.tuple #[u, .int .i64 (remE vs id)]) ∧ VL u (remL vs id) w' ∧ Below w.heap.size w w' := by
  obtain ⟨A, cap, rfl, hS, hV⟩ := hv
  exact (remove_any A cap vs id w hV (by omega) hS).mono fun e w' hp => vl_new hp
theorem find_vl (v : Value) (vs : List Veh) (id : Int) (w : World) (hv : VL v vs w) (hm : vs.length ≤ 1000) :
    Calls Try.prog 19 #[v, .int .i64 id] w fun e w' => e = .returned (foundV vs id) ∧ Below w.heap.size w w' := by
  obtain ⟨A, cap, rfl, hS, hV⟩ := hv
  exact find_any A cap vs id w hV (by omega)
theorem valid_vl (v : Value) (vs : List Veh) (w : World) (hv : VL v vs w) (hm : vs.length ≤ 1000) :
    Calls Try.prog 15 #[v] w fun e w' => e = .returned (.bool (validV vs)) ∧ Below w.heap.size w w' := by
  obtain ⟨A, cap, rfl, hS, hV⟩ := hv
  exact valid_any A cap vs w hV (by omega)
theorem same_vl (v u : Value) (vs us : List Veh) (e : vs = us) (w : World) (hv : VL v vs w) (hu : VL u us w) (hm : vs.length ≤ 1000) :
    Calls Try.prog 24 #[v, u] w fun e w' => e = .returned (.bool true) ∧ Below w.heap.size w w' := by
  subst e
  obtain ⟨A, cap, rfl, _, hV⟩ := hv
  obtain ⟨A2, cap2, rfl, _, hV2⟩ := hu
  exact same_any A A2 cap cap2 vs w hV hV2 hm

/-- The numbers of the first i, and those from t on, round about. -/
def TI (xs : List Int) (i : Nat) (z : Int) : Prop := ∃ j, j < i ∧ xs.getD j 0 % 8 = z
def TS (xs : List Int) (t i : Nat) (z : Int) : Prop := ∃ j, j < i ∧ xs.getD ((j + t) % xs.length) 0 % 8 = z
theorem TI_succ (xs : List Int) (i : Nat) (z : Int) : TI xs (i + 1) z ↔ z = xs.getD i 0 % 8 ∨ TI xs i z := by
  constructor
  · rintro ⟨j, hj, e⟩
    by_cases h : j < i
    · exact .inr ⟨j, h, e⟩
    · obtain rfl : j = i := by omega
      exact .inl e.symm
  · rintro (e | ⟨j, hj, e⟩)
    · exact ⟨i, by omega, e.symm⟩
    · exact ⟨j, by omega, e⟩
theorem TS_succ (xs : List Int) (t i : Nat) (z : Int) : TS xs t (i + 1) z ↔ z = xs.getD ((i + t) % xs.length) 0 % 8 ∨ TS xs t i z := by
  constructor
  · rintro ⟨j, hj, e⟩
    by_cases h : j < i
    · exact .inr ⟨j, h, e⟩
    · obtain rfl : j = i := by omega
      exact .inl e.symm
  · rintro (e | ⟨j, hj, e⟩)
    · exact ⟨i, by omega, e.symm⟩
    · exact ⟨j, by omega, e⟩
theorem TI_TS (xs : List Int) (t : Nat) (ht : t < xs.length) (z : Int) : TI xs xs.length z ↔ TS xs t xs.length z := by
  constructor
  · rintro ⟨j, hj, e⟩
    by_cases h : t ≤ j
    · refine ⟨j - t, by omega, ?_⟩
      have : j - t + t = j := by omega
      rw [this, Nat.mod_eq_of_lt hj]; exact e
    · refine ⟨j + xs.length - t, by omega, ?_⟩
      have : j + xs.length - t + t = j + xs.length := by omega
      rw [this, Nat.add_mod_right, Nat.mod_eq_of_lt hj]; exact e
  · rintro ⟨j, hj, e⟩
    exact ⟨(j + t) % xs.length, Nat.mod_lt _ (by omega), e⟩
theorem Good.congr {xs : List Veh} {T S : Int → Prop} (h : Good xs T) (e : ∀ z, S z ↔ T z) : Good xs S := ⟨h.valid, h.cls, fun z => (h.mem z).trans (e z).symm⟩

set_option maxRecDepth 100000 in
set_option maxHeartbeats 4000000 in
theorem vorder_walk (A : Option Addr) (len cap : Nat) (zs : List Int) (turn id : Int) (w : World) (hA : IsRow w A len cap zs) (_ : (Lit.int .i64 turn).wf = true) (_ : (Lit.int .i64 id).wf = true) :
    Calls Try.prog 5 #[.slice A len cap, .int .i64 turn, .int .i64 id] w fun e w' => e = .returned (.bool true) ∧ Below w.heap.size w w' := by
  obtain ⟨xs, rfl, hI, hm⟩ := hA.opened
  have HI := Lib.hid hI
  clear hI hA
  go_enter Try.func5, Try.ntmps5
  by_cases hlen : 20 < xs.length
  · have hli : (20 : Int) < (xs.length : Int) := by omega
    go_wp2_with fail
    refine (awake15_any _).mono ?_; rintro e w4 ⟨rfl, hb4⟩
    go_wp2_with fail
    go_ret
    exact ⟨rfl, hb4⟩
  have hli : ¬ (20 : Int) < (xs.length : Int) := by omega
  go_wp2_with fail
  have hL8 : Hid (Ints ((w.alloc (.cells #[.int .i64 8, .int .i64 8, .int .i64 8, .int .i64 8] 3)).alloc (.cells #[.slice none 0 0, .int .i64 0, .int .i64 3, .slice (some ⟨w.heap.size, 0, none⟩) 4 4, .int .i64 0, .int .i64 0, .int .i64 0, .int .i64 0] 27)) (w.heap.size + 1) (some ⟨w.heap.size, 0, none⟩) l8) := (four_ints w w.heap.size rfl 8 8 8 8).below ((Below.refl _ _).alloc (by simp) _)
  have hJ : Hid (Box ((w.alloc (.cells #[.int .i64 8, .int .i64 8, .int .i64 8, .int .i64 8] 3)).alloc (.cells #[.slice none 0 0, .int .i64 0, .int .i64 3, .slice (some ⟨w.heap.size, 0, none⟩) 4 4, .int .i64 0, .int .i64 0, .int .i64 0, .int .i64 0] 27)) (w.heap.size + 1) 27 #[.slice none 0 0, .int .i64 0, .int .i64 3, .slice (some ⟨w.heap.size, 0, none⟩) 4 4, .int .i64 0, .int .i64 0, .int .i64 0, .int .i64 0]) := boxNew2 w _ _ _
  have hbW : Hid (Below w.heap.size w ((w.alloc (.cells #[.int .i64 8, .int .i64 8, .int .i64 8, .int .i64 8] 3)).alloc (.cells #[.slice none 0 0, .int .i64 0, .int .i64 3, .slice (some ⟨w.heap.size, 0, none⟩) 4 4, .int .i64 0, .int .i64 0, .int .i64 0, .int .i64 0] 27))) := Lib.hid (by go_grown)
  have hWz : (((w.alloc (.cells #[.int .i64 8, .int .i64 8, .int .i64 8, .int .i64 8] 3)).alloc (.cells #[.slice none 0 0, .int .i64 0, .int .i64 3, .slice (some ⟨w.heap.size, 0, none⟩) 4 4, .int .i64 0, .int .i64 0, .int .i64 0, .int .i64 0] 27))).heap.size = w.heap.size + 1 + 1 := by simp
  generalize ((w.alloc (.cells #[.int .i64 8, .int .i64 8, .int .i64 8, .int .i64 8] 3)).alloc (.cells #[.slice none 0 0, .int .i64 0, .int .i64 3, .slice (some ⟨w.heap.size, 0, none⟩) 4 4, .int .i64 0, .int .i64 0, .int .i64 0, .int .i64 0] 27)) = W at hL8 hJ hbW hWz ⊢
  have hWz1 : w.heap.size + 2 ≤ W.heap.size := by omega
  clear hWz
  have hl4 : Hid (l8.length = 4) := rfl
  go_loopw [8, 9, 32] (fun v8 v9 v32 wr => ∃ (i : Nat) (us vs : List Veh), i ≤ xs.length ∧ v32 = .int .i64 i ∧ VL v8 us wr ∧ VL v9 vs wr ∧ Good us (TI xs i) ∧ Good vs (TS xs (turn % (xs.length : Int)).toNat i) ∧ Below W.heap.size W wr) (fun _ _ v32 _ => xs.length - (intOf v32).toNat)
  case atStart => exact ⟨0, [], [], by omega, rfl, VL.nil _, VL.nil _, Good.nil.congr (fun z => ⟨fun ⟨j, hj, _⟩ => by omega, fun h => h.elim⟩), Good.nil.congr (fun z => ⟨fun ⟨j, hj, _⟩ => by omega, fun h => h.elim⟩), Below.refl _ _⟩
  case round =>
    obtain ⟨i, us, vs, hi, rfl, hv8, hv9, hgu, hgv, hb⟩ := hrel
    have hbH := Lib.hid hb
    have hv8H := Lib.hid hv8
    have hv9H := Lib.hid hv9
    have hguH := Lib.hid hgu
    have hgvH := Lib.hid hgv
    have hz := hb.size
    have hul := hgu.len
    have hvl := hgv.len
    clear hv8 hv9 hgu hgv
    by_cases hlt : i < xs.length
    · have hil : (i : Int) < (xs.length : Int) := by omega
      obtain ⟨t, ht⟩ : ∃ t : Nat, turn % (xs.length : Int) = (t : Int) := ⟨(turn % (xs.length : Int)).toNat, (Int.toNat_of_nonneg (Int.emod_nonneg _ (by omega))).symm⟩
      have htl : t < xs.length := by
        have := Int.emod_lt_of_pos turn (b := (xs.length : Int)) (by omega)
        omega
      have htH := Lib.hid ht
      rw [ht, Int.toNat_natCast] at hgvH
      clear ht
      have hxr : Hid (Ints wr w.heap.size A xs) := HI.out.below (hbW.out.trans (hb.mono (by omega)))
      have hm1 : (i + t) % xs.length < xs.length := Nat.mod_lt _ (by omega)
      obtain ⟨b, off, rfl, hbl, hc0⟩ := hxr.out i hlt
      obtain ⟨b', off', e', hbl', hc1⟩ := hxr.out ((i + t) % xs.length) hm1
      injection e' with e'
      injection e' with e1 e2
      subst e1 e2
      have hT := Lib.hid (TI_succ xs i)
      have hS := Lib.hid (TS_succ xs t i)
      generalize xs.getD i 0 = x0 at hc0 hT
      generalize xs.getD ((i + t) % xs.length) 0 = x1 at hc1 hS
      have hmi : ((i : Int) + (t : Int)) % (xs.length : Int) = (((i + t) % xs.length : Nat) : Int) := by simp
      have hmt : ((i : Int) + (t : Int)).tmod (xs.length : Int) = (((i + t) % xs.length : Nat) : Int) := by rw [Int.tmod_eq_emod_of_nonneg (by omega), hmi]
      have hmb : (((i + t) % xs.length : Nat) : Int) < (xs.length : Int) := by omega
      have hmb0 : (0 : Int) ≤ (((i + t) % xs.length : Nat) : Int) := by omega
      have hwr : IntKind.i64.wrap ((i : Int) + (t : Int)) = (i : Int) + (t : Int) := by rw [IntKind.wrap_i64]; omega
      generalize (i + t) % xs.length = mm at hc1 hmi hmt hmb hmb0
      have hbz : b < wr.heap.size := by omega
      have hcell : Hid (∀ o, wr.cell? ⟨w.heap.size + 1, o, none⟩ = W.cell? ⟨w.heap.size + 1, o, none⟩) := Lib.hid fun o => hb.cell (p := ⟨w.heap.size + 1, o, none⟩) (by dsimp only; omega)
      have q0 := (hcell.out 0).trans (hJ.out.cell 0)
      have q1 := (hcell.out 1).trans (hJ.out.cell 1)
      have q2 := (hcell.out 2).trans (hJ.out.cell 2)
      have q3 := (hcell.out 3).trans (hJ.out.cell 3)
      have q4 := (hcell.out 4).trans (hJ.out.cell 4)
      have q5 := (hcell.out 5).trans (hJ.out.cell 5)
      have q6 := (hcell.out 6).trans (hJ.out.cell 6)
      have q7 := (hcell.out 7).trans (hJ.out.cell 7)
      simp at q0 q1 q2 q3 q4 q5 q6 q7
      have hz2 : w.heap.size + 1 < wr.heap.size := by omega
      have hL8r : Hid (Ints wr wr.heap.size (some ⟨w.heap.size, 0, none⟩) l8) := (hL8.out.below (hb.mono (by omega))).more (by omega)
      clear hb
      go_wp2_with fail
      refine (mod_any _ _ _ (by omega) (by omega)).mono ?_; rintro e w' ⟨rfl, rfl⟩
      go_wp2_with fail
      refine (mod_any _ _ _ (by omega) (by omega)).mono ?_; rintro e w' ⟨rfl, rfl⟩
      rw [htH.out]
      go_wp2_with fail
      refine (mod_any _ _ _ (by omega) (by omega)).mono ?_; rintro e w' ⟨rfl, rfl⟩
      have k0 : 0 ≤ x0 % 8 := Int.emod_nonneg _ (by omega)
      have k7 : x0 % 8 ≤ 7 := by have := Int.emod_lt_of_pos x0 (b := 8) (by omega); omega
      have m0 : 0 ≤ x1 % 8 := Int.emod_nonneg _ (by omega)
      have m7 : x1 % 8 ≤ 7 := by have := Int.emod_lt_of_pos x1 (b := 8) (by omega); omega
      generalize x0 % 8 = k at k0 k7 hT ⊢
      generalize x1 % 8 = m at m0 m7 hS ⊢
      have hkt : k.tmod 4 = k % 4 := Int.tmod_eq_emod_of_nonneg k0
      have hmt4 : m.tmod 4 = m % 4 := Int.tmod_eq_emod_of_nonneg m0
      clear hc0 hc1 hmi hmt hmb hmb0 hwr hbz
      go_wp2_with fail
      refine (rgstr_vl _ us 3 (some ⟨w.heap.size, 0, none⟩) 4 4 l8 k (k % 4) wr hv8H.out (by omega) hl4.out hL8r.out (by omega)).mono ?_; rintro e w5 ⟨u5, rfl, hvl5, hb5⟩
      have hvl5H := Lib.hid hvl5
      have hbs : Hid (Below W.heap.size W w5) := hbH.out.trans (hb5.mono hz)
      have hv8' : Hid (VL _ us w5) := hv8H.out.below hb5
      have hv9' : Hid (VL _ vs w5) := hv9H.out.below hb5
      have hzs := hbs.out.size
      have hL8s : Hid (Ints w5 w5.heap.size (some ⟨w.heap.size, 0, none⟩) l8) := (hL8.out.below (hbs.out.mono (by omega))).more (by omega)
      have hcell5 : Hid (∀ o, w5.cell? ⟨w.heap.size + 1, o, none⟩ = W.cell? ⟨w.heap.size + 1, o, none⟩) := Lib.hid fun o => hbs.out.cell (p := ⟨w.heap.size + 1, o, none⟩) (by dsimp only; omega)
      clear q0 q1 q2 q3 q4 q5 q6 q7 hvl5 hb5 hz2
      have q0 := (hcell5.out 0).trans (hJ.out.cell 0)
      have q1 := (hcell5.out 1).trans (hJ.out.cell 1)
      have q2 := (hcell5.out 2).trans (hJ.out.cell 2)
      have q3 := (hcell5.out 3).trans (hJ.out.cell 3)
      have q4 := (hcell5.out 4).trans (hJ.out.cell 4)
      have q5 := (hcell5.out 5).trans (hJ.out.cell 5)
      have q6 := (hcell5.out 6).trans (hJ.out.cell 6)
      have q7 := (hcell5.out 7).trans (hJ.out.cell 7)
      simp at q0 q1 q2 q3 q4 q5 q6 q7
      have hz5 : w.heap.size + 1 < w5.heap.size := by omega
      cases he : (regE us 3 l8 k (k % 4) == 0)
      · have hk1 := hguH.out.kept k0 k7 (by simpa using he)
        have hgu2 := Lib.hid (hk1.2.congr hT.out)
        have he11 : (regE us 3 l8 k (k % 4) != 11) = false := by rw [hk1.1]; rfl
        clear hk1
        go_wp2_with fail
        refine (rgstr_vl _ vs 3 (some ⟨w.heap.size, 0, none⟩) 4 4 l8 m (m % 4) w5 hv9'.out (by omega) hl4.out hL8s.out (by omega)).mono ?_; rintro e w6 ⟨u6, rfl, hvl6, hb6⟩
        have hvl6H := Lib.hid hvl6
        have hb6H : Hid (Below W.heap.size W w6) := hbs.out.trans (hb6.mono hzs)
        have hvU6 : Hid (VL _ _ w6) := hv8'.out.below hb6
        have hv96 : Hid (VL _ vs w6) := hv9'.out.below hb6
        clear hvl6 hb6
        cases he2 : (regE vs 3 l8 m (m % 4) == 0)
        · have hk2 := Lib.hid (((hgvH.out.kept m0 m7 (by simpa using he2)).2).congr hS.out)
          go_wp2_with fail
          go_roundw
          case rel => exact ⟨i + 1, _, _, by omega, by go_num, hvU6.out, hv96.out, hgu2.out, by rw [htH.out]; exact hk2.out, hb6H.out⟩
          case measure => simp [intOf]; omega
        · have hk2 := Lib.hid ((hgvH.out.regd m0 m7 (by simpa using he2)).congr hS.out)
          go_wp2_with fail
          go_roundw
          case rel => exact ⟨i + 1, _, _, by omega, by go_num, hvU6.out, hvl6H.out, hgu2.out, by rw [htH.out]; exact hk2.out, hb6H.out⟩
          case measure => simp [intOf]; omega
      · have hgu2 := Lib.hid ((hguH.out.regd k0 k7 (by simpa using he)).congr hT.out)
        go_wp2_with fail
        refine (rgstr_vl _ vs 3 (some ⟨w.heap.size, 0, none⟩) 4 4 l8 m (m % 4) w5 hv9'.out (by omega) hl4.out hL8s.out (by omega)).mono ?_; rintro e w6 ⟨u6, rfl, hvl6, hb6⟩
        have hvl6H := Lib.hid hvl6
        have hb6H : Hid (Below W.heap.size W w6) := hbs.out.trans (hb6.mono hzs)
        have hvU6 : Hid (VL _ _ w6) := hvl5H.out.below hb6
        have hv96 : Hid (VL _ vs w6) := hv9'.out.below hb6
        clear hvl6 hb6
        cases he2 : (regE vs 3 l8 m (m % 4) == 0)
        · have hk2 := Lib.hid (((hgvH.out.kept m0 m7 (by simpa using he2)).2).congr hS.out)
          go_wp2_with fail
          go_roundw
          case rel => exact ⟨i + 1, _, _, by omega, by go_num, hvU6.out, hv96.out, hgu2.out, by rw [htH.out]; exact hk2.out, hb6H.out⟩
          case measure => simp [intOf]; omega
        · have hk2 := Lib.hid ((hgvH.out.regd m0 m7 (by simpa using he2)).congr hS.out)
          go_wp2_with fail
          go_roundw
          case rel => exact ⟨i + 1, _, _, by omega, by go_num, hvU6.out, hvl6H.out, hgu2.out, by rw [htH.out]; exact hk2.out, hb6H.out⟩
          case measure => simp [intOf]; omega
    · have hil : ¬ (i : Int) < (xs.length : Int) := by omega
      obtain rfl : i = xs.length := by omega
      have huv : us = vs := by
        by_cases h0 : xs.length = 0
        · refine hguH.out.eqT hgvH.out fun z => ⟨fun ⟨j, hj, _⟩ => by omega, fun ⟨j, hj, _⟩ => by omega⟩
        · have ht := Int.emod_lt_of_pos turn (b := (xs.length : Int)) (by omega)
          have ht0 := Int.emod_nonneg turn (b := (xs.length : Int)) (by omega)
          exact hguH.out.eqT hgvH.out fun z => TI_TS xs _ (by omega) z
      have huvH := Lib.hid huv
      clear huv
      go_wp2_with fail
      refine (same_vl _ _ us vs huvH.out wr hv8H.out hv9H.out (by omega)).mono ?_; rintro e w5 ⟨rfl, hb5⟩
      have hb5H : Hid (Below W.heap.size W w5) := hbH.out.trans (hb5.mono hz)
      have hv85 : Hid (VL _ us w5) := hv8H.out.below hb5
      have hz5 := hb5H.out.size
      clear hb5 hv9H hb
      go_wp2_with fail
      refine (valid_vl _ us w5 hv85.out (by omega)).mono ?_; rintro e w6 ⟨rfl, hb6⟩
      rw [hguH.out.valid]
      have hb6H : Hid (Below W.heap.size W w6) := hb5H.out.trans (hb6.mono hz5)
      have hv86 : Hid (VL _ us w6) := hv85.out.below hb6
      have hz6 := hb6H.out.size
      clear hb6 hv85
      go_wp2_with fail
      refine (mod_any _ _ _ (by omega) (by omega)).mono ?_; rintro e w' ⟨rfl, rfl⟩
      have n0 : 0 ≤ id % 100 := Int.emod_nonneg _ (by omega)
      have n1 : id % 100 < 100 := Int.emod_lt_of_pos _ (by omega)
      generalize id % 100 = nn at n0 n1 ⊢
      have hK0 : 8 ≤ 8 + nn := by omega
      have hK1 : 8 + nn ≤ 1000 := by omega
      have hbig := Lib.hid (hguH.out.big hK0 hK1)
      have hwr : IntKind.i64.wrap (8 + nn) = 8 + nn := by rw [IntKind.wrap_i64]; omega
      have hb67 : Below w6.heap.size w6 (w6.alloc (.cells #[.int .i64 (8 + nn), .int .i64 1] 38)) := (Below.refl _ _).alloc (Nat.le_refl _) _
      have hB7 : Hid (Below W.heap.size W (w6.alloc (.cells #[.int .i64 (8 + nn), .int .i64 1] 38))) := hb6H.out.trans (hb67.mono hz6)
      have hvx7 : Hid (Box (w6.alloc (.cells #[.int .i64 (8 + nn), .int .i64 1] 38)) w6.heap.size 38 #[.int .i64 (8 + nn), .int .i64 1]) := Box.new _ _ _
      have hv87 : Hid (VL _ us (w6.alloc (.cells #[.int .i64 (8 + nn), .int .i64 1] 38))) := hv86.out.below hb67
      have hL87 : Hid (Ints (w6.alloc (.cells #[.int .i64 (8 + nn), .int .i64 1] 38)) ((w6.alloc (.cells #[.int .i64 (8 + nn), .int .i64 1] 38))).heap.size (some ⟨w.heap.size, 0, none⟩) l8) := (hL8.out.below (hB7.out.mono (by omega))).more (by simp; omega)
      have hcell7 : Hid (∀ o, ((w6.alloc (.cells #[.int .i64 (8 + nn), .int .i64 1] 38))).cell? ⟨w.heap.size + 1, o, none⟩ = W.cell? ⟨w.heap.size + 1, o, none⟩) := Lib.hid fun o => hB7.out.cell (p := ⟨w.heap.size + 1, o, none⟩) (by dsimp only; omega)
      have hzz7 : w.heap.size + 1 < w6.heap.size := by omega
      have hcell6 : Hid (∀ o, w6.cell? ⟨w.heap.size + 1, o, none⟩ = W.cell? ⟨w.heap.size + 1, o, none⟩) := Lib.hid fun o => hb6H.out.cell (p := ⟨w.heap.size + 1, o, none⟩) (by dsimp only; omega)
      have q0 := (hcell6.out 0).trans (hJ.out.cell 0)
      have q1 := (hcell6.out 1).trans (hJ.out.cell 1)
      have q2 := (hcell6.out 2).trans (hJ.out.cell 2)
      have q3 := (hcell6.out 3).trans (hJ.out.cell 3)
      have q4 := (hcell6.out 4).trans (hJ.out.cell 4)
      have q5 := (hcell6.out 5).trans (hJ.out.cell 5)
      have q6 := (hcell6.out 6).trans (hJ.out.cell 6)
      have q7 := (hcell6.out 7).trans (hJ.out.cell 7)
      simp at q0 q1 q2 q3 q4 q5 q6 q7
      have hwz7 : w.heap.size ≤ w6.heap.size := by omega
      clear hb67
      obtain ⟨A8, cap8, rfl, hS8, hV8⟩ := hv87.out
      have hS8H := Lib.hid hS8
      have hV8H := Lib.hid hV8
      clear hS8 hV8 hv86 hv8H
      go_wp2_with fail
      refine (rgstr_vl _ us 3 (some ⟨w.heap.size, 0, none⟩) 4 4 l8 (8 + nn) 1 _ hv87.out (by omega) hl4.out hL87.out (by omega)).mono ?_; rintro e w8 ⟨u5, rfl, hvl8, hb8⟩
      have hvl8H := Lib.hid hvl8
      have hB8 : Hid (Below W.heap.size W w8) := hB7.out.trans (hb8.mono hB7.out.size)
      have hz8 : w6.heap.size < w8.heap.size := by have := hb8.size; simp at this; omega
      have hvx8 : Hid (Box w8 w6.heap.size 38 #[.int .i64 (8 + nn), .int .i64 1]) := hvx7.out.below hb8 (by simp)
      have hv88 : Hid (VL _ us w8) := hv87.out.below hb8
      have hall8 : Hid (Below w.heap.size w w8) := hbW.out.trans (hB8.out.mono (by omega))
      clear hvl8 hb8 q0 q1 q2 q3 q4 q5 q6 q7
      have x0 := hvx8.out.cell 0
      have x1 := hvx8.out.cell 1
      simp at x0 x1
      by_cases h8 : 8 ≤ us.length
      · have he : Hid (regE us 3 l8 (8 + nn) 1 = 10) := Lib.hid (by rw [hbig.out, if_pos h8])
        have hl8 : us.length = 8 := by omega
        have hli8 : ((us.length : Int) == 8) = true := by simp; omega
        clear hl8 h8
        rw [he.out]
        go_wp2_with fail
        refine (awake15_any _).mono ?_; rintro e w9 ⟨rfl, hb9⟩
        go_wp2_with fail
        go_ret
        exact ⟨rfl, hall8.out.trans (hb9.mono (by omega))⟩
      · have he0 : regE us 3 l8 (8 + nn) 1 = 0 := by rw [hbig.out, if_neg h8]
        have hn : hasId us (8 + nn) = false := (regE_zero he0).2.2.2.1
        have hvi : validV (ins us (placeTo us (8 + nn)) ⟨8 + nn, 1⟩) = true := reg_valid (by omega) he0
        have hrl : regL us 3 l8 (8 + nn) 1 = ins us (placeTo us (8 + nn)) ⟨8 + nn, 1⟩ := by unfold regL; rw [if_pos he0]
        have hri := rem_ins (v := ⟨8 + nn, 1⟩) hguH.out.pw hn hvi
        have hfi := find_ins (v := ⟨8 + nn, 1⟩) hguH.out.pw hn
        have hil := ins_length us (placeTo us (8 + nn)) ⟨8 + nn, 1⟩ (placeTo_le _ _)
        have he : Hid (regE us 3 l8 (8 + nn) 1 = 0) := he0
        rw [hrl] at hvl8H
        simp only at hri hfi
        rw [he.out]
        generalize ins us (placeTo us (8 + nn)) ⟨8 + nn, 1⟩ = ll at hvl8H hri hfi hil
        obtain ⟨hr1, hr2⟩ := hri
        have hr1H := Lib.hid hr1
        have hr2H := Lib.hid hr2
        have hfiH := Lib.hid hfi
        have hll9 : ll.length ≤ 1000 := by omega
        clear hr1 hr2 hfi hrl he0 hn hvi hil
        go_wp2_with fail
        refine (remove_vl _ ll (8 + nn) w8 hvl8H.out hll9).mono ?_; rintro e w9 ⟨u9, rfl, hvl9, hb9⟩
        rw [hr2H.out] at hvl9
        rw [hr1H.out]
        have hvl9H := Lib.hid hvl9
        have hvi9 : Hid (VL _ ll w9) := hvl8H.out.below hb9
        have hv89 : Hid (VL _ us w9) := hv88.out.below hb9
        have hz9 : w6.heap.size < w9.heap.size := Nat.lt_of_lt_of_le hz8 hb9.size
        have hvx9 : Hid (Box w9 w6.heap.size 38 #[.int .i64 (8 + nn), .int .i64 1]) := hvx8.out.below hb9 hz8
        have hall9 : Hid (Below w.heap.size w w9) := hall8.out.trans (hb9.mono (by omega))
        clear hvl9 hb9 x0 x1
        have x0 := hvx9.out.cell 0
        have x1 := hvx9.out.cell 1
        simp at x0 x1
        go_wp2_with fail
        refine (find_vl _ ll (8 + nn) w9 hvi9.out hll9).mono ?_; rintro e w10 ⟨rfl, hb10⟩
        rw [hfiH.out]
        have hz10 : w6.heap.size < w10.heap.size := Nat.lt_of_lt_of_le hz9 hb10.size
        have hvx10 : Hid (Box w10 w6.heap.size 38 #[.int .i64 (8 + nn), .int .i64 1]) := hvx9.out.below hb10 hz9
        have hall10 : Hid (Below w.heap.size w w10) := hall9.out.trans (hb10.mono (by omega))
        have hv810 : Hid (VL _ us w10) := hv89.out.below hb10
        have hvl10 : Hid (VL _ us w10) := hvl9H.out.below hb10
        clear hb10 x0 x1
        have x0 := hvx10.out.cell 0
        have x1 := hvx10.out.cell 1
        simp at x0 x1
        have hb1011 : Below w10.heap.size w10 (w10.alloc (.cells #[.int .i64 (8 + nn), .int .i64 1] 38)) := (Below.refl _ _).alloc (Nat.le_refl _) _
        have hb1011H := Lib.hid hb1011
        clear hb1011
        go_wp2_with fail
        refine (same_vl _ _ us us rfl _ (hvl10.out.below hb1011H.out) (hv810.out.below hb1011H.out) (by omega)).mono ?_; rintro e w12 ⟨rfl, hb12⟩
        have hB12 : Hid (Below w10.heap.size w10 w12) := hb1011H.out.trans (hb12.mono hb1011H.out.size)
        have hy12 := (Box.new w10 38 #[.int .i64 (8 + nn), .int .i64 1]).below hb12 (by simp)
        have hx12 := hvx10.out.below hB12.out hz10
        have hz12 := hy12.lt
        have hz12' := hx12.lt
        have y0 := hy12.cell 0
        have y1 := hy12.cell 1
        have xx0 := hx12.cell 0
        have xx1 := hx12.cell 1
        simp at y0 y1 xx0 xx1
        have hall12 : Hid (Below w.heap.size w w12) := hall10.out.trans (hB12.out.mono (by omega))
        clear hb12 hy12 hx12 x0 x1
        go_wp2_with fail
        refine (awake15_any _).mono ?_; rintro e w13 ⟨rfl, hb13⟩
        go_wp2_with fail
        go_ret
        exact ⟨rfl, hall12.out.trans (hb13.mono (by omega))⟩

end Go.Proofs.Ytobeediccmmjhaa
