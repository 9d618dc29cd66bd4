/- The walk of signalbrokerlaw15.VehicleLists. -/
import Derived.Test.YtobeediccmmjhaaVehT
namespace Go.Proofs.Ytobeediccmmjhaa
open Go.RowKit
set_option linter.unusedVariables false
set_option linter.unusedSimpArgs false

/-- The drawn row of vehicles. -/
def C123 (W : World) (s123 s124 s125 : Value) (wx : World) : Prop :=
  ∃ (g : Nat) (ks : List Veh), s123 = .slice (some ⟨g, 0, none⟩) 3 3 ∧ s124 = .int .i64 3 ∧ s125 = .int .i64 0 ∧ ks.length = 3 ∧ Vehs wx wx.heap.size (some ⟨g, 0, none⟩) ks ∧ Below W.heap.size W wx

set_option maxRecDepth 100000 in
set_option maxHeartbeats 4000000 in
theorem lists_core (rv : Value) (vs : List Veh) (A : Option Addr) (len cap : Nat) (zs : List Int) (vi vc n id : Int) (w : World) (hr : VL rv vs w) (hrm : vs.length ≤ 9223372036854775807) (hA : IsRow w A len cap zs) (hn : (Lit.int .i64 n).wf = true) :
    Calls Try.prog 4 #[rv, .slice A len cap, .agg #[.int .i64 vi, .int .i64 vc], .int .i64 n, .int .i64 id] w fun e w' => e = .returned (.bool true) ∧ Below w.heap.size w w' := by
  obtain ⟨hn0, hn1⟩ := wf_bd hn
  clear hn
  obtain ⟨xs, rfl, hI, hm⟩ := hA.opened
  have HI := Lib.hid hI
  clear hI hA
  obtain ⟨A0, cap0, rfl, hS0, hV0⟩ := hr
  have hr : VL (.slice A0 vs.length cap0) vs w := ⟨A0, cap0, rfl, hS0, hV0⟩
  have HR := Lib.hid hr
  clear hr hS0 hV0
  go_enter Try.func4, Try.ntmps4
  by_cases hlen : 30 < vs.length
  · have hli : (30 : Int) < (vs.length : Int) := by omega
    go_wp2_with fail
    refine (awake15_any _).mono ?_; rintro e w4 ⟨rfl, hb4⟩
    go_wp2_with fail
    go_ret
    exact ⟨rfl, ((Below.refl w.heap.size w).alloc (Nat.le_refl _) _).trans (hb4.mono (by simp))⟩
  have hli : ¬ (30 : Int) < (vs.length : Int) := by omega
  go_wp2_with fail
  have hbX : Below w.heap.size w (w.alloc (.cells #[.int .i64 vi, .int .i64 vc] 38)) := (Below.refl _ _).alloc (Nat.le_refl _) _
  have hBX : Hid (Box (w.alloc (.cells #[.int .i64 vi, .int .i64 vc] 38)) w.heap.size 38 #[.int .i64 vi, .int .i64 vc]) := Box.new _ _ _
  have hXz : (w.alloc (.cells #[.int .i64 vi, .int .i64 vc] 38)).heap.size = w.heap.size + 1 := World.size_alloc _ _
  have HRX : Hid (VL (.slice A0 vs.length cap0) vs (w.alloc (.cells #[.int .i64 vi, .int .i64 vc] 38))) := HR.out.below hbX
  have HIX : Hid (Ints (w.alloc (.cells #[.int .i64 vi, .int .i64 vc] 38)) w.heap.size A xs) := HI.out.below hbX
  have hbXH := Lib.hid hbX
  generalize (w.alloc (.cells #[.int .i64 vi, .int .i64 vc] 38)) = wX at hbX hBX hXz HRX HIX hbXH ⊢
  clear hbX HR HI
  refine (agency_any n wX hn0 hn1).mono ?_; rintro e w1 ⟨L, lc, rfl, hL, hb1⟩
  have hLH := Lib.hid hL
  have hz1 := hb1.size
  have HI1 : Hid (Ints w1 w1.heap.size A xs) := (HIX.out.below (hb1.mono (by omega))).more (by omega)
  have HR1 : Hid (VL (.slice A0 vs.length cap0) vs w1) := HRX.out.below hb1
  have hB1 : Hid (Box w1 w.heap.size 38 #[.int .i64 vi, .int .i64 vc]) := hBX.out.below hb1 (by omega)
  have hb1H : Hid (Below w.heap.size w w1) := hbXH.out.trans (hb1.mono (by omega))
  have hacl3 : (agOf n).cl ≤ 3 := by have : (agOf n).cl < 4 := Int.emod_lt_of_pos _ (by omega); omega
  have hll : Hid ((agOf n).lims.length = 4) := rfl
  have hval : ({ agOf n with L := L, lc := lc } : Ag).val = .agg #[.slice none 0 0, .int .i64 0, .int .i64 (agOf n).cl, .slice L 4 lc, .int .i64 0, .int .i64 0, .int .i64 0, .int .i64 0] := rfl
  rw [hval]
  generalize (agOf n).lims = lims at hLH hll
  generalize (agOf n).cl = acl at hacl3 hval ⊢
  have hw1z : w.heap.size < w1.heap.size := by omega
  clear hL hb1 hval hbXH HIX HRX hBX hXz hz1
  go_wp2_with fail
  have hbY : Below w1.heap.size w1 (w1.alloc (.cells #[.slice none 0 0, .int .i64 0, .int .i64 acl, .slice L 4 lc, .int .i64 0, .int .i64 0, .int .i64 0, .int .i64 0] 27)) := (Below.refl _ _).alloc (Nat.le_refl _) _
  have hJ : Hid (Box (w1.alloc (.cells #[.slice none 0 0, .int .i64 0, .int .i64 acl, .slice L 4 lc, .int .i64 0, .int .i64 0, .int .i64 0, .int .i64 0] 27)) w1.heap.size 27 #[.slice none 0 0, .int .i64 0, .int .i64 acl, .slice L 4 lc, .int .i64 0, .int .i64 0, .int .i64 0, .int .i64 0]) := Box.new _ _ _
  have hYz : (w1.alloc (.cells #[.slice none 0 0, .int .i64 0, .int .i64 acl, .slice L 4 lc, .int .i64 0, .int .i64 0, .int .i64 0, .int .i64 0] 27)).heap.size = w1.heap.size + 1 := World.size_alloc _ _
  have HRY : Hid (VL (.slice A0 vs.length cap0) vs (w1.alloc (.cells #[.slice none 0 0, .int .i64 0, .int .i64 acl, .slice L 4 lc, .int .i64 0, .int .i64 0, .int .i64 0, .int .i64 0] 27))) := HR1.out.below hbY
  have HIY : Hid (Ints (w1.alloc (.cells #[.slice none 0 0, .int .i64 0, .int .i64 acl, .slice L 4 lc, .int .i64 0, .int .i64 0, .int .i64 0, .int .i64 0] 27)) w1.heap.size A xs) := HI1.out.below hbY
  have hLY : Hid (Ints (w1.alloc (.cells #[.slice none 0 0, .int .i64 0, .int .i64 acl, .slice L 4 lc, .int .i64 0, .int .i64 0, .int .i64 0, .int .i64 0] 27)) w1.heap.size L lims) := hLH.out.below hbY
  have hBY : Hid (Box (w1.alloc (.cells #[.slice none 0 0, .int .i64 0, .int .i64 acl, .slice L 4 lc, .int .i64 0, .int .i64 0, .int .i64 0, .int .i64 0] 27)) w.heap.size 38 #[.int .i64 vi, .int .i64 vc]) := hB1.out.below hbY hw1z
  have hbYH : Hid (Below w.heap.size w (w1.alloc (.cells #[.slice none 0 0, .int .i64 0, .int .i64 acl, .slice L 4 lc, .int .i64 0, .int .i64 0, .int .i64 0, .int .i64 0] 27))) := hb1H.out.trans (hbY.mono (by omega))
  generalize (w1.alloc (.cells #[.slice none 0 0, .int .i64 0, .int .i64 acl, .slice L 4 lc, .int .i64 0, .int .i64 0, .int .i64 0, .int .i64 0] 27)) = W at hbY hJ hYz HRY HIY hLY hBY hbYH ⊢
  clear hbY HR1 HI1 hLH hB1 hb1H
  obtain ⟨J, hJe⟩ : ∃ J, J = w1.heap.size := ⟨_, rfl⟩
  rw [← hJe] at hJ hYz HIY hLY hw1z ⊢
  clear hJe
  refine (mknew_any A cap xs W (HIY.out.more (by omega)) hm).mono ?_; rintro e w2 ⟨rfl, hd, hb2, hz2⟩
  have hdH : Hid (DeckLe w2 W.heap.size xs.length) := ⟨xs, hd, Nat.le_refl _⟩
  have hb2H := Lib.hid hb2
  have hb2W : Hid (Below w.heap.size w w2) := hbYH.out.trans (hb2.mono (by omega))
  clear hd hb2 HIY
  obtain ⟨g, hg⟩ : ∃ g, g = W.heap.size := ⟨_, rfl⟩
  have hJg : J < g := by omega
  have hg2 : g < w2.heap.size := by omega
  have hgH := Lib.hid hg
  have hLg : Hid (Ints W g L lims) := hLY.out.more (by omega)
  have hgw : w.heap.size < g := by omega
  rw [← hg] at hdH hb2H ⊢
  clear hg hYz hz2 hLY
  go_wp2_with fail
  refine (vehicles_any g xs.length 3 (some ⟨w2.heap.size, 0, none⟩) 4 [3, 8, 8, 8] _ (hdH.out.below ((Below.refl _ _).alloc (Nat.le_refl _) _)) ((four_ints w2 _ rfl 3 8 8 8).more (by simp)) (fun a ha => by injection ha with ha; subst ha; dsimp only; omega) rfl (by omega)).mono ?_; rintro e w4 ⟨vx, rfl, ux, hvx, hux, ho4⟩
  have hvxH := Lib.hid hvx
  have hg3 := ho4.size
  simp at hg3
  have hb4H : Hid (Below g W w4) := (hb2H.out.alloc (by omega) _).grown ho4 (by simp; omega) (fun q hq => by injection hq with hq; omega)
  have hJ4 : Hid (Box w4 J _ _) := hJ.out.below hb4H.out hJg
  have hB4 : Hid (Box w4 w.heap.size _ _) := hBY.out.below hb4H.out hgw
  have hL4 : Hid (Ints w4 g L lims) := hLg.out.below hb4H.out
  have HR4 : Hid (VL (.slice A0 vs.length cap0) vs w4) := by
    have h1 := hb4H.out
    rw [hgH.out] at h1
    exact HRY.out.below h1
  have hW4 : Hid (Below w.heap.size w w4) := (hb2W.out.alloc hb2W.out.size _).grown ho4 (by simp; omega) (fun q hq => by injection hq with hq; omega)
  clear hvx ho4 hdH hb2H hJ hBY hLg hb4H HRY hgH hb2W hbYH
  go_wp2_with fail
  obtain ⟨i0, hi0, hzz0, hzz1, hzz2⟩ := info_parts veh_info
  have hgw4 : g < w4.heap.size := by omega
  go_loopw [13, 43] (fun v13 v43 wr => ∃ us : List Veh, us.length ≤ 8 ∧ v43 = .int .i64 us.length ∧ wr.ownsRow w4.heap.size 38 2 v13 us.length (vcells us) ∧ Below w4.heap.size w4 wr) (fun _ v43 _ => 8 - (intOf v43).toNat)
  case atStart => exact ⟨[], by simp, rfl, ⟨by simp [vcells], .inr ⟨w4.heap.size, 0, #[], rfl, Nat.le_refl _, Box.new w4 _ _, Nat.le_refl _, by simp, by simp, by simp [vcells]⟩⟩, (Below.refl _ _).alloc (Nat.le_refl _) _⟩
  case round =>
    obtain ⟨us, hus, rfl, hown, hb⟩ := hrel
    have hownH := Lib.hid hown
    have hbH := Lib.hid hb
    have hz := hb.size
    clear hown hb
    by_cases hk8 : us.length < 8
    · have hki : (us.length : Int) < 8 := by omega
      go_wp2_with fail
      refine (mod_any _ _ _ (by omega) (by omega)).mono ?_; rintro e w' ⟨rfl, rfl⟩
      generalize wrap64 (n + (us.length : Int)) % 4 = cl
      go_wp2_with (at_builtin; refine wpList_append_own _ rfl (.tmp 46) (.tmp 54) 31 rfl w4.heap.size 38 i0 vz.val 2 16 Try.underlying31 hi0 hzz0 hzz1 hzz2 rfl (by decide) _ _ _ rfl (hownH.out.alloc _) ⟨wr.heap.size, 0, none⟩ 1 1 (vcells [⟨2 * (us.length : Int), cl⟩]) rfl ?c1 ?c2 ?c3 ?c4 ?c5 ?c6 ?_)
      case c1 => rfl
      case c2 =>
        intro j u hu
        rw [Addr.add_lit, Nat.zero_add, (Box.new wr _ _).cell j]
        simpa [vcells] using hu
      case c3 => exact vcells_one _
      case c4 => unfold maxLen; omega
      case c5 => omega
      case c6 => simp; omega
      intro v2 w5 hown5 hg5 _
      have hbG : Hid (Below w4.heap.size w4 w5) := Below.grown (hbH.out.alloc hz _) hg5 (by simp; omega) (fun q hq => (hownH.out.lt q hq).1)
      have hown5H : Hid (w5.ownsRow w4.heap.size 38 2 v2 (us ++ [(⟨2 * (us.length : Int), cl⟩ : Veh)]).length (vcells (us ++ [(⟨2 * (us.length : Int), cl⟩ : Veh)]))) := Lib.hid (by rw [List.length_append, vcells_append]; exact hown5)
      clear hown5 hg5
      go_wp2_with fail
      go_roundw
      case rel => exact ⟨us ++ [(⟨2 * (us.length : Int), cl⟩ : Veh)], by simp; omega, by simp, hown5H.out, hbG.out⟩
      case measure => simp [intOf]; omega
    · have hki : ¬ (us.length : Int) < 8 := by omega
      obtain ⟨A3, cap3, rfl, hS3, hV3, _⟩ := own_vehs hownH.out
      have hv3 : VL (.slice A3 us.length cap3) us wr := ⟨A3, cap3, rfl, hS3, hV3⟩
      have hv3H := Lib.hid hv3
      have hvx3 : Hid (VL vx ux wr) := hvxH.out.below hbH.out
      obtain ⟨Ax, capx, rfl, hXn, hXs⟩ := hvx3.out.src
      have hXsH := Lib.hid hXs
      have hXnH := Lib.hid hXn
      clear hS3 hV3 hv3 hownH hXs hXn
      go_wp2_with (at_builtin; refine wpList_append_any _ rfl (.const (.slice none 0 0)) (.tmp 60) 31 rfl wr.heap.size 38 i0 vz.val 2 16 Try.underlying31 hi0 hzz0 hzz1 hzz2 rfl (by decide) (.slice none 0 0) 0 [] rfl (World.ownsRow_nil _ _ _ _) Ax ux.length capx (vcells ux) rfl hXnH.out (vcells_length ux) (hXsH.out _ (Below.refl _ _)) (vcells_one _) ?c1 ?c2 ?c3 ?_)
      case c1 => unfold maxLen; omega
      case c2 => omega
      intro v5 w5 hown5 hg5
      have hb5 : Hid (Below wr.heap.size wr w5) := (Below.refl wr.heap.size wr).grown hg5 (Nat.le_refl _) (fun q hq => by cases hq)
      have hz5 := hb5.out.size
      have hown5H := Lib.hid hown5
      clear hown5 hg5
      go_wp2_with (at_builtin; refine wpList_append_any _ rfl (.tmp 61) (.tmp 62) 31 rfl wr.heap.size 38 i0 vz.val 2 16 Try.underlying31 hi0 hzz0 hzz1 hzz2 rfl (by decide) _ _ _ rfl hown5H.out Ax ux.length capx (vcells ux) rfl hXnH.out (vcells_length ux) (hXsH.out _ hb5.out) (vcells_one _) ?d1 ?d2 ?d3 ?_)
      case d1 => unfold maxLen; omega
      case d2 => omega
      case d3 => exact hz5
      intro v6 w6 hown6 hg6
      have hb6 : Hid (Below wr.heap.size wr w6) := hb5.out.grown hg6 hz5 (fun q hq => (hown5H.out.lt q hq).1)
      rw [← vcells_append] at hown6
      have hown6' : w6.ownsRow wr.heap.size 38 2 v6 (ux ++ ux).length (vcells (ux ++ ux)) := by rw [List.length_append]; exact hown6
      obtain ⟨A6, cap6, rfl, hS6, hV6, _⟩ := own_vehs hown6'
      have hv6 : Hid (VL (.slice A6 (ux ++ ux).length cap6) (ux ++ ux) w6) := Lib.hid ⟨A6, cap6, rfl, hS6, hV6⟩
      clear hown6 hown6' hg6 hS6 hV6 hown5H
      go_wp2_with fail
      have hb67 : Below w6.heap.size w6 (w6.alloc (.cells #[.slice A0 vs.length cap0, .slice Ax ux.length capx, .slice A3 us.length cap3, .slice A6 (ux.length + ux.length) cap6] 31)) := (Below.refl _ _).alloc (Nat.le_refl _) _
      have hbr7 : Below wr.heap.size wr (w6.alloc (.cells #[.slice A0 vs.length cap0, .slice Ax ux.length capx, .slice A3 us.length cap3, .slice A6 (ux.length + ux.length) cap6] 31)) := hb6.out.trans (hb67.mono hb6.out.size)
      have hb47 : Below w4.heap.size w4 (w6.alloc (.cells #[.slice A0 vs.length cap0, .slice Ax ux.length capx, .slice A3 us.length cap3, .slice A6 (ux.length + ux.length) cap6] 31)) := hbH.out.trans (hbr7.mono hz)
      have hB7 : Hid (Box _ w.heap.size _ _) := hB4.out.below hb47 (by omega)
      have hJ7 : Hid (Box _ J _ _) := hJ4.out.below hb47 (by omega)
      have hL7 : Hid (Ints _ w4.heap.size L lims) := (hL4.out.more (by omega)).below hb47
      have hW7 : Hid (Below w.heap.size w _) := hW4.out.trans (hb47.mono (by omega))
      have hX7 := Box.new w6 31 #[.slice A0 vs.length cap0, .slice Ax ux.length capx, .slice A3 us.length cap3, .slice A6 (ux.length + ux.length) cap6]
      have hls : Hid (∀ i, i < 4 → ∃ (y : Value) (ys : List Veh), (w6.alloc (.cells #[.slice A0 vs.length cap0, .slice Ax ux.length capx, .slice A3 us.length cap3, .slice A6 (ux.length + ux.length) cap6] 31)).cell? ⟨w6.heap.size, i, none⟩ = some y ∧ VL y ys (w6.alloc (.cells #[.slice A0 vs.length cap0, .slice Ax ux.length capx, .slice A3 us.length cap3, .slice A6 (ux.length + ux.length) cap6] 31)) ∧ ys.length ≤ 30) := Lib.hid (by
        intro i hi
        rw [hX7.cell i]
        match i, hi with
        | 0, _ => exact ⟨_, vs, rfl, HR4.out.below hb47, by omega⟩
        | 1, _ => exact ⟨_, ux, rfl, hvxH.out.below hb47, by omega⟩
        | 2, _ => exact ⟨_, us, rfl, hv3H.out.below hbr7, by omega⟩
        | 3, _ => exact ⟨_, ux ++ ux, rfl, by have := hv6.out.below hb67; rw [List.length_append] at this; exact this, by rw [List.length_append]; omega⟩)
      have hzJ : J < w4.heap.size := by omega
      have hzw : w.heap.size < w4.heap.size := by omega
      have hz67 : w4.heap.size < (w6.alloc (.cells #[.slice A0 vs.length cap0, .slice Ax ux.length capx, .slice A3 us.length cap3, .slice A6 (ux.length + ux.length) cap6] 31)).heap.size := by have := hb6.out.size; simp; omega
      have hzN : w6.heap.size < (w6.alloc (.cells #[.slice A0 vs.length cap0, .slice Ax ux.length capx, .slice A3 us.length cap3, .slice A6 (ux.length + ux.length) cap6] 31)).heap.size := by simp
      generalize (w6.alloc (.cells #[.slice A0 vs.length cap0, .slice Ax ux.length capx, .slice A3 us.length cap3, .slice A6 (ux.length + ux.length) cap6] 31)) = W7 at hB7 hJ7 hL7 hW7 hls hz67 hzN ⊢
      generalize w6.heap.size = N at hls hzN ⊢
      clear hb67 hbr7 hb47 hX7 hB4 hJ4 hL4 hW4 HR4 hvxH hv3H hvx3 hv6 hXnH hXsH hb5 hb6
      simp only [List.length_append]
      go_loopg [66] (4) (fun kk v66 wx => ∃ i : Nat, kk + i = 4 ∧ v66 = .int .i64 i ∧ Below W7.heap.size W7 wx)
      case atStart => exact ⟨0, by omega, rfl, Below.refl _ _⟩
      case round =>
        obtain ⟨i, hi, rfl, hbx⟩ := hrel
        have hbxH := Lib.hid hbx
        have hzx := hbx.size
        by_cases hi4 : i < 4
        · have hii : (i : Int) < 4 := by omega
          obtain ⟨y, ys, hc, hvy, hys⟩ := hls.out i hi4
          have hcx := (hbx.cell (p := ⟨N, i, none⟩) (by dsimp only; omega)).trans hc
          have hvyx : Hid (VL y ys _) := hvy.below hbx
          have hvy7 := Lib.hid hvy
          clear hbx hc hvy
          go_wp2_with fail
          have hys3 : ys.length ≤ 1000 := by omega
          refine (valid_vl y ys _ hvyx.out hys3).mono ?_; rintro e w8 ⟨rfl, hb8⟩
          have hb8H : Hid (Below W7.heap.size W7 w8) := hbxH.out.trans (hb8.mono hzx)
          have hvy8 : Hid (VL y ys w8) := hvyx.out.below hb8
          have hz8 := hb8H.out.size
          clear hb8 hcx hvyx
          go_wp2_with fail
          refine (rvalid_vl y ys _ hvy8.out hys3).mono ?_; rintro e w9 ⟨rfl, hb9⟩
          have hb9H : Hid (Below W7.heap.size W7 w9) := hb8H.out.trans (hb9.mono hz8)
          have hvy9 : Hid (VL y ys w9) := hvy8.out.below hb9
          have hz9 := hb9H.out.size
          clear hb9 hvy8 hb8H hz8
          go_wp2_with fail
          refine (rvalid_vl y ys _ hvy9.out hys3).mono ?_; rintro e w10 ⟨rfl, hb10⟩
          have hb10H : Hid (Below W7.heap.size W7 w10) := hb9H.out.trans (hb10.mono hz9)
          have hvy10 : Hid (VL y ys w10) := hvy9.out.below hb10
          have hz10 := hb10H.out.size
          clear hb10 hvy9 hb9H hz9
          go_upto_if 76 with fail
          go_cut [] (fun wx => Below W7.heap.size W7 wx)
          case first =>
            cases hvv : validV ys
            · go_wp2_with fail
              go_meet
              exact hb10H.out
            · go_wp2_with fail
              refine (mod_any _ _ _ (by omega) (by omega)).mono ?_; rintro e w' ⟨rfl, rfl⟩
              obtain ⟨fa, fb, hf⟩ := found_form ys (id % 18)
              have hfH := Lib.hid hf
              clear hf
              obtain ⟨fid, hfid⟩ : ∃ x, x = id % 18 := ⟨_, rfl⟩
              have hfidH := Lib.hid hfid
              rw [← hfid] at hfH ⊢
              clear hfid
              generalize (findAt ys fid).isSome = fis at hfH
              go_wp2_with fail
              refine (find_vl y ys fid _ hvy10.out hys3).mono ?_; rintro e w11 ⟨rfl, hb11⟩
              rw [hfH.out]
              have hb11H : Hid (Below W7.heap.size W7 w11) := hb10H.out.trans (hb11.mono hz10)
              have hvy11 : Hid (VL y ys w11) := hvy10.out.below hb11
              have hz11 := hb11H.out.size
              clear hb11
              go_wp2_with fail
              have hbA : Below w11.heap.size w11 (w11.alloc (.cells #[.int .i64 fa, .int .i64 fb] 38)) := (Below.refl _ _).alloc (Nat.le_refl _) _
              have hBA : Hid (Box (w11.alloc (.cells #[.int .i64 fa, .int .i64 fb] 38)) w11.heap.size 38 #[.int .i64 fa, .int .i64 fb]) := Box.new _ _ _
              have hvyA : Hid (VL y ys (w11.alloc (.cells #[.int .i64 fa, .int .i64 fb] 38))) := hvy11.out.below hbA
              have hbAH : Hid (Below W7.heap.size W7 (w11.alloc (.cells #[.int .i64 fa, .int .i64 fb] 38))) := hb11H.out.trans (hbA.mono hz11)
              have hzA : w11.heap.size < (w11.alloc (.cells #[.int .i64 fa, .int .i64 fb] 38)).heap.size := by simp
              generalize (w11.alloc (.cells #[.int .i64 fa, .int .i64 fb] 38)) = wA at hbA hBA hvyA hbAH hzA ⊢
              generalize w11.heap.size = pA at hBA hzA ⊢
              have hzA7 := hbAH.out.size
              clear hbA
              refine (mod_any _ _ _ (by omega) (by omega)).mono ?_; rintro e w' ⟨rfl, rfl⟩
              rw [← hfidH.out]
              go_wp2_with fail
              refine (rfind_vl y ys fid _ hvyA.out hys3).mono ?_; rintro e w13 ⟨rfl, hb13⟩
              rw [hfH.out]
              have hb13H : Hid (Below W7.heap.size W7 w13) := hbAH.out.trans (hb13.mono hzA7)
              have hvy13 : Hid (VL y ys w13) := hvyA.out.below hb13
              have hB13 : Hid (Box w13 pA 38 #[.int .i64 fa, .int .i64 fb]) := hBA.out.below hb13 hzA
              have hz13 := hb13H.out.size
              have hzp13 : pA < w13.heap.size := Nat.lt_of_lt_of_le hzA hb13.size
              clear hb13
              have x0 := hB13.out.cell 0
              have x1 := hB13.out.cell 1
              simp at x0 x1
              go_wp2_with fail
              have hbA : Below w13.heap.size w13 (w13.alloc (.cells #[.int .i64 fa, .int .i64 fb] 38)) := (Below.refl _ _).alloc (Nat.le_refl _) _
              have hvyC : Hid (VL y ys (w13.alloc (.cells #[.int .i64 fa, .int .i64 fb] 38))) := hvy13.out.below hbA
              have hbCH : Hid (Below W7.heap.size W7 (w13.alloc (.cells #[.int .i64 fa, .int .i64 fb] 38))) := hb13H.out.trans (hbA.mono hz13)
              generalize (w13.alloc (.cells #[.int .i64 fa, .int .i64 fb] 38)) = wC at hbA hvyC hbCH ⊢
              have hzC7 := hbCH.out.size
              clear hbA x0 x1
              refine (mod_any _ _ _ (by omega) (by omega)).mono ?_; rintro e w' ⟨rfl, rfl⟩
              obtain ⟨nid, hnid⟩ : ∃ x, x = n % 5 := ⟨_, rfl⟩
              have hnidH := Lib.hid hnid
              rw [← hnid]
              clear hnid
              go_wp2_with fail
              refine (count_vl y ys nid _ hvyC.out hys3).mono ?_; rintro e w15 ⟨rfl, hb15⟩
              have hb15H : Hid (Below W7.heap.size W7 w15) := hbCH.out.trans (hb15.mono hzC7)
              have hvy15 : Hid (VL y ys w15) := hvyC.out.below hb15
              have hz15 := hb15H.out.size
              clear hb15
              obtain ⟨cn, hcn⟩ : ∃ x, x = countTo ys nid ys.length := ⟨_, rfl⟩
              have hcnH := Lib.hid hcn
              rw [← hcn]
              clear hcn
              go_wp2_with fail
              refine (mod_any _ _ _ (by omega) (by omega)).mono ?_; rintro e w' ⟨rfl, rfl⟩
              rw [← hnidH.out]
              go_wp2_with fail
              refine (rcount_vl y ys nid _ hvy15.out hys3).mono ?_; rintro e w16 ⟨rfl, hb16⟩
              rw [← hcnH.out]
              have hb16H : Hid (Below W7.heap.size W7 w16) := hb15H.out.trans (hb16.mono hz15)
              clear hb16
              go_wp2_with fail
              go_meet
              exact hb16H.out
          case rest =>
            obtain ⟨W8, rfl⟩ : ∃ x, x = wc := ⟨wc, rfl⟩
            have hbcH := Lib.hid hcut
            have hzc := hcut.size
            clear hcut
            have hvyc : Hid (VL y ys W8) := hvy7.out.below hbcH.out
            have hbx := (hB7.out.below hbcH.out (by omega))
            have x0 := hbx.cell 0
            have x1 := hbx.cell 1
            simp at x0 x1
            have hxz := hbx.lt
            clear hbx
            go_upto_region 21 with fail
            go_cut [123, 124, 125] (fun s123 s124 s125 wx => C123 W8 s123 s124 s125 wx)
            case first =>
              go_region_held3 (fun w' => Below W8.heap.size W8 w' ∧ ∀ b o, b < W8.heap.size → w'.cell? ⟨b, o, none⟩ = W8.cell? ⟨b, o, none⟩) (first | exact held_start _ | assumption | exact held_step (by assumption) (by assumption) | exact held_alloc (by assumption) _)
                (first
                  | (go_at_call 17; refine (mod_any _ _ _ (by omega) (by omega)).mono ?_; rintro e w' ⟨rfl, rfl⟩))
              go_wp2_with fail
              go_meet
              exact ⟨_, [⟨vi, vc⟩, ⟨vi % 18, _⟩, ⟨_, 0⟩], rfl, rfl, rfl, rfl, (three_vehs W8 _ rfl _ _ _ _ _ _).more (by simp), And.left (by with_reducible assumption)⟩
            case rest =>
              obtain ⟨g2, ks, rfl, rfl, rfl, hkl, hks, hbd⟩ := hcut
              have hksH := Lib.hid hks
              have hbdH : Hid (Below W7.heap.size W7 wc) := hbcH.out.trans (hbd.mono hzc)
              have hzd := hbdH.out.size
              have hzq : Hid (J < W7.heap.size) := Lib.hid (by omega)
              have hzr4 : Hid (w4.heap.size ≤ W7.heap.size) := Lib.hid (by omega)
              clear hks hbd x0 x1 hxz hvyc hbcH hn0 hn1 hm hrm hlen hli hw1z hJg hg2 hgw hux hg3 hi0 hzz0 hzz1 hzz2 hgw4 hus hz hk8 hki hz5 hzJ hzw hB7 hls hzN hzx hzc hb10H hvy10 hz10 hbxH hbH
              go_wp2_with fail
              go_loopw [125] (fun v125 wx => ∃ j : Nat, j ≤ 3 ∧ v125 = .int .i64 j ∧ Below wc.heap.size wc wx) (fun v125 _ => 3 - (intOf v125).toNat)
              case atStart => exact ⟨0, by omega, rfl, Below.refl _ _⟩
              case round =>
                obtain ⟨j, hj, rfl, hb⟩ := hrel
                by_cases hj3 : j < 3
                · have hji : (j : Int) < 3 := by omega
                  obtain ⟨b, off, e, hbl, hc0, hc1⟩ := hksH.out j (by omega)
                  injection e with e
                  injection e with e1 e2 _
                  subst e1 e2
                  have c0 := (hb.cell (p := ⟨g2, 0 + j * 2, none⟩) hbl).trans hc0
                  have c1 := (hb.cell (p := ⟨g2, 0 + j * 2 + 1, none⟩) hbl).trans hc1
                  simp only [Nat.zero_add] at c0 c1
                  have hbr : g2 < wr.heap.size := Nat.lt_of_lt_of_le hbl hb.size
                  have hbrH : Hid (Below W7.heap.size W7 wr) := hbdH.out.trans (hb.mono hzd)
                  have hbWH := Lib.hid hb
                  have hzr := hbrH.out.size
                  have hzcr := hb.size
                  generalize (ks.getD j vz).id = ki at c0 hc0
                  generalize (ks.getD j vz).cl = kc at c1 hc1
                  clear hc0 hc1 hbl hb
                  have a0 := (hJ7.out.below hbrH.out hzq.out).cell 0
                  have a1 := (hJ7.out.below hbrH.out hzq.out).cell 1
                  have a2 := (hJ7.out.below hbrH.out hzq.out).cell 2
                  have a3 := (hJ7.out.below hbrH.out hzq.out).cell 3
                  have a4 := (hJ7.out.below hbrH.out hzq.out).cell 4
                  have a5 := (hJ7.out.below hbrH.out hzq.out).cell 5
                  have a6 := (hJ7.out.below hbrH.out hzq.out).cell 6
                  have a7 := (hJ7.out.below hbrH.out hzq.out).cell 7
                  simp at a0 a1 a2 a3 a4 a5 a6 a7
                  have aJ := (hJ7.out.below hbrH.out hzq.out).lt
                  go_wp2_with fail
                  have hbX : Below wr.heap.size wr (wr.alloc (.cells #[.int .i64 ki, .int .i64 kc] 38)) := (Below.refl _ _).alloc (Nat.le_refl _) _
                  have hbXW : Hid (Below W7.heap.size W7 (wr.alloc (.cells #[.int .i64 ki, .int .i64 kc] 38))) := hbrH.out.trans (hbX.mono hzr)
                  have hbXc : Hid (Below wc.heap.size wc (wr.alloc (.cells #[.int .i64 ki, .int .i64 kc] 38))) := hbWH.out.trans (hbX.mono hzcr)
                  have hBX : Hid (Box (wr.alloc (.cells #[.int .i64 ki, .int .i64 kc] 38)) wr.heap.size 38 #[.int .i64 ki, .int .i64 kc]) := Box.new _ _ _
                  have hpX : wr.heap.size < (wr.alloc (.cells #[.int .i64 ki, .int .i64 kc] 38)).heap.size := by simp
                  generalize (wr.alloc (.cells #[.int .i64 ki, .int .i64 kc] 38)) = WX at hbX hbXW hbXc hBX hpX ⊢
                  obtain ⟨p22, hp22⟩ : ∃ x, x = wr.heap.size := ⟨_, rfl⟩
                  rw [← hp22] at hBX hpX ⊢
                  clear hp22
                  have hzX := hbXW.out.size
                  have hzXc := hbXc.out.size
                  clear hbX c0 c1
                  clear a0 a1 a2 a3 a4 a5 a6 a7 aJ
                  obtain ⟨re, hre⟩ : ∃ x, x = regE ys acl lims ki kc := ⟨_, rfl⟩
                  have hreH := Lib.hid hre
                  clear hre
                  obtain ⟨me, hme⟩ : ∃ x, x = remE ys ki := ⟨_, rfl⟩
                  have hmeH := Lib.hid hme
                  clear hme
                  refine (rgstr_vl y ys acl L 4 lc lims ki kc _ (hvy7.out.below hbXW.out) hys3 hll.out ((hL7.out.more hzr4.out).below hbXW.out |>.more (by omega)) (by omega)).mono ?_; rintro e wA1 ⟨vA1, rfl, hvvA1, hbb⟩
                  have hVA1A1 := Lib.hid hvvA1
                  have hbA1W : Hid (Below W7.heap.size W7 wA1) := hbXW.out.trans (hbb.mono hzX)
                  have hbA1c : Hid (Below wc.heap.size wc wA1) := hbXc.out.trans (hbb.mono hzXc)
                  have hBA1 : Hid (Box wA1 p22 38 #[.int .i64 ki, .int .i64 kc]) := hBX.out.below hbb hpX
                  have hpA1 : p22 < wA1.heap.size := Nat.lt_of_lt_of_le hpX hbb.size
                  have hzA1 := hbA1W.out.size
                  have hzA1c := hbA1c.out.size
                  have x0 := hBA1.out.cell 0
                  have x1 := hBA1.out.cell 1
                  simp at x0 x1
                  clear hbb hvvA1
                  rw [← hreH.out]
                  have a0 := (hJ7.out.below hbA1W.out hzq.out).cell 0
                  have a1 := (hJ7.out.below hbA1W.out hzq.out).cell 1
                  have a2 := (hJ7.out.below hbA1W.out hzq.out).cell 2
                  have a3 := (hJ7.out.below hbA1W.out hzq.out).cell 3
                  have a4 := (hJ7.out.below hbA1W.out hzq.out).cell 4
                  have a5 := (hJ7.out.below hbA1W.out hzq.out).cell 5
                  have a6 := (hJ7.out.below hbA1W.out hzq.out).cell 6
                  have a7 := (hJ7.out.below hbA1W.out hzq.out).cell 7
                  simp at a0 a1 a2 a3 a4 a5 a6 a7
                  have aJ := (hJ7.out.below hbA1W.out hzq.out).lt
                  go_wp2_with fail
                  refine (rregister_vl y ys acl L lc lims ki kc _ (hvy7.out.below hbA1W.out) hys3 hll.out ((hL7.out.more hzr4.out).below hbA1W.out |>.more (by omega)) hacl3).mono ?_; rintro e wA2 ⟨vA2, rfl, hvvA2, hbb⟩
                  have hVA2A2 := Lib.hid hvvA2
                  have hbA2W : Hid (Below W7.heap.size W7 wA2) := hbA1W.out.trans (hbb.mono hzA1)
                  have hbA2c : Hid (Below wc.heap.size wc wA2) := hbA1c.out.trans (hbb.mono hzA1c)
                  have hBA2 : Hid (Box wA2 p22 38 #[.int .i64 ki, .int .i64 kc]) := hBA1.out.below hbb hpA1
                  have hpA2 : p22 < wA2.heap.size := Nat.lt_of_lt_of_le hpA1 hbb.size
                  have hzA2 := hbA2W.out.size
                  have hzA2c := hbA2c.out.size
                  have x0 := hBA2.out.cell 0
                  have x1 := hBA2.out.cell 1
                  simp at x0 x1
                  have hVA1A2 := Lib.hid (hVA1A1.out.below hbb)
                  clear hbb hvvA2
                  rw [← hreH.out]
                  clear x0 x1
                  have x0 := hBA2.out.cell 0
                  have x1 := hBA2.out.cell 1
                  simp at x0 x1
                  clear a0 a1 a2 a3 a4 a5 a6 a7 aJ
                  go_wp2_with fail
                  refine (remove_vl y ys ki _ (hvy7.out.below hbA2W.out) hys3).mono ?_; rintro e wA3 ⟨vA3, rfl, hvvA3, hbb⟩
                  have hVA3A3 := Lib.hid hvvA3
                  have hbA3W : Hid (Below W7.heap.size W7 wA3) := hbA2W.out.trans (hbb.mono hzA2)
                  have hbA3c : Hid (Below wc.heap.size wc wA3) := hbA2c.out.trans (hbb.mono hzA2c)
                  have hBA3 : Hid (Box wA3 p22 38 #[.int .i64 ki, .int .i64 kc]) := hBA2.out.below hbb hpA2
                  have hpA3 : p22 < wA3.heap.size := Nat.lt_of_lt_of_le hpA2 hbb.size
                  have hzA3 := hbA3W.out.size
                  have hzA3c := hbA3c.out.size
                  have x0 := hBA3.out.cell 0
                  have x1 := hBA3.out.cell 1
                  simp at x0 x1
                  have hVA1A3 := Lib.hid (hVA1A2.out.below hbb)
                  have hVA2A3 := Lib.hid (hVA2A2.out.below hbb)
                  clear hbb hvvA3
                  rw [← hmeH.out]
                  go_wp2_with fail
                  refine (rremove_vl y ys ki _ (hvy7.out.below hbA3W.out) hys3).mono ?_; rintro e wA4 ⟨vA4, rfl, hvvA4, hbb⟩
                  have hVA4A4 := Lib.hid hvvA4
                  have hbA4W : Hid (Below W7.heap.size W7 wA4) := hbA3W.out.trans (hbb.mono hzA3)
                  have hbA4c : Hid (Below wc.heap.size wc wA4) := hbA3c.out.trans (hbb.mono hzA3c)
                  have hBA4 : Hid (Box wA4 p22 38 #[.int .i64 ki, .int .i64 kc]) := hBA3.out.below hbb hpA3
                  have hpA4 : p22 < wA4.heap.size := Nat.lt_of_lt_of_le hpA3 hbb.size
                  have hzA4 := hbA4W.out.size
                  have hzA4c := hbA4c.out.size
                  have x0 := hBA4.out.cell 0
                  have x1 := hBA4.out.cell 1
                  simp at x0 x1
                  have hVA1A4 := Lib.hid (hVA1A3.out.below hbb)
                  have hVA2A4 := Lib.hid (hVA2A3.out.below hbb)
                  have hVA3A4 := Lib.hid (hVA3A3.out.below hbb)
                  clear hbb hvvA4
                  rw [← hmeH.out]
                  have hrl := regL_len ys acl lims ki kc
                  have hml := remL_len ys ki
                  clear x0 x1
                  go_wp2_with fail
                  refine (same_vl _ _ _ _ rfl _ hVA1A4.out hVA2A4.out (by omega)).mono ?_; rintro e w15 ⟨rfl, hb15⟩
                  have hV3 := Lib.hid (hVA3A4.out.below hb15)
                  have hV4 := Lib.hid (hVA4A4.out.below hb15)
                  have hb15c : Hid (Below wc.heap.size wc w15) := hbA4c.out.trans (hb15.mono hzA4c)
                  have hz15c := hb15c.out.size
                  clear hb15
                  go_wp2_with fail
                  refine (same_vl _ _ _ _ rfl _ hV3.out hV4.out (by omega)).mono ?_; rintro e w16 ⟨rfl, hb16⟩
                  have hb16c : Hid (Below wc.heap.size wc w16) := hb15c.out.trans (hb16.mono hz15c)
                  clear hb16
                  go_wp2_with fail
                  go_roundw
                  case rel => exact ⟨j + 1, by omega, by go_num, hb16c.out⟩
                  case measure => simp [intOf]; omega
                · have hji : ¬ (j : Int) < 3 := by omega
                  have hbEH : Hid (Below W7.heap.size W7 wr) := hbdH.out.trans (hb.mono hzd)
                  clear hb
                  go_wp2_with fail
                  go_roundg (gk - 1)
                  case rel => exact ⟨i + 1, by omega, by go_num, hbEH.out⟩
                  case measure => omega
        · have hii : ¬ (i : Int) < 4 := by omega
          clear hbx
          go_wp2_with fail
          refine (awake15_any _).mono ?_; rintro e w9 ⟨rfl, hb9⟩
          go_wp2_with fail
          go_ret
          exact ⟨rfl, hW7.out.trans ((hbxH.out.trans (hb9.mono hzx)).mono (by omega))⟩

theorem vlists_walk (v : Value) (A : Option Addr) (len cap : Nat) (zs : List Int) (v2 : Value) (n id : Int) (w : World) (h : Raw w 31 v) (hA : IsRow w A len cap zs) (h2 : Raw w 38 v2) (hn : (Lit.int .i64 n).wf = true) (_ : (Lit.int .i64 id).wf = true) :
    Calls Try.prog 4 #[v, .slice A len cap, v2, .int .i64 n, .int .i64 id] w fun e w' => e = .returned (.bool true) ∧ Below w.heap.size w w' := by
  obtain ⟨vs, hv, hm⟩ := raw_list h
  obtain ⟨a, b, rfl⟩ := raw_veh h2
  exact lists_core v vs A len cap zs a b n id w hv hm hA hn

end Go.Proofs.Ytobeediccmmjhaa
