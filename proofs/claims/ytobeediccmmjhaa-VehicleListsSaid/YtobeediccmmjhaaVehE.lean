/- slices.Grow of nil, slices.Concat of two lists of vehicles, vehicle.Remove. -/
import Derived.Test.YtobeediccmmjhaaVehD
import Derived.Lib.AppendZeros
namespace Go.Proofs.Ytobeediccmmjhaa
open Go.RowKit
set_option linter.unusedVariables false
set_option linter.unusedSimpArgs false

theorem own_vehs {w : World} {base : Nat} {v : Value} {us : List Veh} (h : w.ownsRow base 38 2 v us.length (vcells us)) :
    ∃ (A : Option Addr) (cap : Nat), v = .slice A us.length cap ∧ Sl A us.length cap ∧ Vehs w w.heap.size A us ∧ ∀ a, A = some a → base ≤ a.block := by
  obtain ⟨_, h2⟩ := h
  rcases h2 with ⟨rfl, h0⟩ | ⟨g, cap, cur, rfl, hg, hh, hcap, _, hcs, ht⟩
  · exact ⟨none, 0, by rw [h0], .inl ⟨rfl, h0, rfl⟩, fun i hi => by omega, fun a h => by cases h⟩
  · refine ⟨_, _, rfl, .inr ⟨_, _, rfl, hcap⟩, fun i hi => ?_, fun a h => by injection h with h; subst h; exact hg⟩
    have hb : Box w g 38 cur := hh
    obtain ⟨h0, h1⟩ := vcells_at us i hi
    rw [← ht, List.getElem?_take_of_lt (by omega)] at h0 h1
    refine ⟨g, 0, rfl, hb.lt, ?_, ?_⟩
    · rw [Nat.zero_add, hb.cell]; simpa using h0
    · rw [Nat.zero_add, hb.cell]; simpa using h1
theorem size_zeroCells' (z : Array Value) (n : Nat) : (Builtin.zeroCells z n).size = n * z.size := by simp [Builtin.zeroCells]

set_option maxRecDepth 100000 in
set_option maxHeartbeats 1000000 in
theorem grow_any (n : Nat) (hn : n ≤ 1000) (w : World) :
    Calls Try.prog 28 #[.slice none 0 0, .int .i64 (n : Int)] w fun e w' => ∃ v, e = .returned v ∧ w'.ownsRow w.heap.size 38 2 v 0 [] ∧ Below w.heap.size w w' := by
  go_enter Try.func28, Try.ntmps28
  by_cases h0 : n = 0
  · subst h0
    go_wp2_with fail
    go_ret
    exact ⟨_, rfl, World.ownsRow_nil _ _ _ _, Below.refl _ _⟩
  · have h1 : (0 : Int) < (n : Int) := by omega
    obtain ⟨i, hi, hzz⟩ := Option.map_eq_some_iff.1 veh_info
    simp only [Prod.mk.injEq] at hzz
    obtain ⟨hz, hs, hb⟩ := hzz
    have hrun := Lib.run_append_nil_zeros (P := Try.prog) w 31 3 31 38 i vz.val .i64 .i64 Try.underlying31 Try.underlying3 hi hz n (by omega) (by omega) (by omega) (by rw [hb]; omega)
    have hge := grownCap_ge w n 0 38
    have hle := grownCap_le_maxLen w n 0 38 (by unfold maxLen; omega)
    generalize grownCap w n 0 38 = cap2 at hrun hge hle
    generalize hZ : (Builtin.zeroCells vz.val.cells n ++ Builtin.zeroCells vz.val.cells (cap2 - n)) = Z at hrun
    have hZs : Hid (Z.size = cap2 * 2) := Lib.hid (by
      rw [← hZ, Array.size_append, size_zeroCells', size_zeroCells']
      have : vz.val.cells.size = 2 := rfl
      rw [this]; omega)
    have hleH := Lib.hid hle
    have hrunH := Lib.hid hrun
    clear hZ hle hrun
    go_wp2_with (at_builtin; refine Lib.wpList_append_run _ rfl _ _ _ _ rfl _ _ rfl rfl _ _ hrunH.out ?_)
    go_ret
    exact ⟨_, rfl, ⟨rfl, .inr ⟨w.heap.size, cap2, Z, rfl, Nat.le_refl _, heap_alloc_new _ _, Nat.zero_le _, hleH.out, hZs.out, rfl⟩⟩, below_drewN ((Below.refl _ _).alloc (Nat.le_refl _) _) 1⟩

/-- Source cells of a list at an address, below block B. -/
def Src (w : World) (B : Nat) (ad : Addr) (us : List Veh) : Prop := ad.block < B ∧ ad.spot = none ∧ ∀ j u, (vcells us)[j]? = some u → w.cell? (ad.add j) = some u
theorem Src.below {w w' : World} {B : Nat} {ad : Addr} {us : List Veh} (h : Src w B ad us) (hb : Below B w w') : Src w' B ad us := by
  obtain ⟨h1, h2, h3⟩ := h
  refine ⟨h1, h2, fun j u hu => ?_⟩
  obtain ⟨b, o, spot⟩ := ad
  dsimp only at h1 h2
  subst h2
  have := h3 j u hu
  rw [Addr.add_lit] at this ⊢
  exact (hb.cell (p := ⟨b, o + j, none⟩) h1).trans this

set_option maxRecDepth 100000 in
set_option maxHeartbeats 2000000 in
theorem concat_any (gb : Nat) (ad1 ad2 : Addr) (c1 c2 : Nat) (xs ys : List Veh) (w : World) (hx : xs.length ≤ 400) (hy : ys.length ≤ 400) (h1 : Src w w.heap.size ad1 xs) (h2 : Src w w.heap.size ad2 ys)
    (hb : Box w gb 31 #[.slice (some ad1) xs.length c1, .slice (some ad2) ys.length c2]) :
    Calls Try.prog 26 #[.slice (some ⟨gb, 0, none⟩) 2 2] w fun e w' => ∃ v, e = .returned v ∧ w'.ownsRow w.heap.size 38 2 v (xs ++ ys).length (vcells (xs ++ ys)) ∧ Below w.heap.size w w' := by
  have H1 := Lib.hid h1
  have H2 := Lib.hid h2
  have HB := Lib.hid hb
  have hgz := hb.lt
  have b0 := hb.cell 0
  have b1 := hb.cell 1
  simp at b0 b1
  clear h1 h2 hb
  go_enter Try.func26, Try.ntmps26
  go_wp2_with fail
  go_loop [3, 11] (fun v3 v11 => ∃ i : Nat, i ≤ 2 ∧ v11 = .int .i64 i ∧ v3 = .int .i64 ((if i = 0 then 0 else if i = 1 then xs.length else xs.length + ys.length : Nat) : Int)) (fun _ v11 => 2 - (intOf v11).toNat)
  case atStart => exact ⟨0, by omega, rfl, rfl⟩
  case round =>
    obtain ⟨i, hi, rfl, rfl⟩ := hrel
    match i, hi with
    | 0, _ =>
      go_wp2_with fail
      go_round
      case rel => exact ⟨1, by omega, by go_num, by simp⟩
      case measure => simp [intOf]
    | 1, _ =>
      go_wp2_with fail
      go_round
      case rel => exact ⟨2, by omega, by go_num, by simp⟩
      case measure => simp [intOf]
    | 2, _ =>
      go_wp2_with fail
      have hgr := grow_any (xs.length + ys.length) (by omega) w
      rw [Int.natCast_add] at hgr
      refine hgr.mono ?_; rintro e w2 ⟨v, rfl, hown, hb2⟩
      have hownH := Lib.hid hown
      have hb2H := Lib.hid hb2
      have b0' := (hb2.cell (p := ⟨gb, 0, none⟩) hgz).trans b0
      have b1' := (hb2.cell (p := ⟨gb, 1, none⟩) hgz).trans b1
      have hgz2 : gb < w2.heap.size := Nat.lt_of_lt_of_le hgz hb2.size
      clear hown hb2 hgr
      obtain ⟨i0, hi0, hz0, hz10, hz20⟩ := info_parts veh_info
      go_wp2_with fail
      go_loopw [6, 27] (fun v6 v27 wr => ∃ i : Nat, i ≤ 2 ∧ v27 = .int .i64 i ∧ wr.ownsRow w.heap.size 38 2 v6 (if i = 0 then [] else if i = 1 then xs else xs ++ ys).length (vcells (if i = 0 then [] else if i = 1 then xs else xs ++ ys)) ∧ Below w.heap.size w wr) (fun _ v27 _ => 2 - (intOf v27).toNat)
      case atStart => exact ⟨0, by omega, rfl, hownH.out, hb2H.out⟩
      case round =>
        obtain ⟨i, hi, rfl, hown, hb⟩ := hrel
        have hbH := Lib.hid hb
        have b0'' := (hb.cell (p := ⟨gb, 0, none⟩) hgz).trans b0
        have b1'' := (hb.cell (p := ⟨gb, 1, none⟩) hgz).trans b1
        have hgz3 : gb < wr.heap.size := Nat.lt_of_lt_of_le hgz hb.size
        clear hb
        match i, hi with
        | 0, _ =>
          have hownH := Lib.hid (show wr.ownsRow w.heap.size 38 2 _ ([] : List Veh).length (vcells []) from hown)
          clear hown
          go_wp2_with (at_builtin; refine wpList_append_own _ rfl (.tmp 31) (.tmp 32) 31 rfl w.heap.size 38 i0 vz.val 2 16 Try.underlying31 hi0 hz0 hz10 hz20 rfl (by decide) _ _ _ rfl hownH.out ad1 xs.length c1 (vcells xs) rfl ?c1 ?c2 ?c3 ?c4 ?c5 ?c6 ?_)
          case c1 => rw [vcells_length]
          case c2 => exact (H1.out.below hbH.out).2.2
          case c3 => exact vcells_one _
          case c4 => unfold maxLen; (try simp); omega
          case c5 => (try simp); omega
          case c6 => exact hbH.out.size
          intro v2 w5 hown5 hg5 _
          have hbG : Hid (Below w.heap.size w w5) := Below.grown hbH.out hg5 hbH.out.size (fun q hq => (hownH.out.lt q hq).1)
          have hown5H : Hid (w5.ownsRow w.heap.size 38 2 v2 (xs).length (vcells (xs))) := Lib.hid (by
            have := hown5
            simpa [vcells_append, vcells_nil] using this)
          clear hown5 hg5
          go_wp2_with fail
          go_roundw
          case rel => exact ⟨1, by omega, by go_num, hown5H.out, hbG.out⟩
          case measure => simp [intOf]
        | 1, _ =>
          have hownH := Lib.hid (show wr.ownsRow w.heap.size 38 2 _ xs.length (vcells xs) from hown)
          clear hown
          go_wp2_with (at_builtin; refine wpList_append_own _ rfl (.tmp 31) (.tmp 32) 31 rfl w.heap.size 38 i0 vz.val 2 16 Try.underlying31 hi0 hz0 hz10 hz20 rfl (by decide) _ _ _ rfl hownH.out ad2 ys.length c2 (vcells ys) rfl ?c1 ?c2 ?c3 ?c4 ?c5 ?c6 ?_)
          case c1 => rw [vcells_length]
          case c2 => exact (H2.out.below hbH.out).2.2
          case c3 => exact vcells_one _
          case c4 => unfold maxLen; (try simp); omega
          case c5 => (try simp); omega
          case c6 => exact hbH.out.size
          intro v2 w5 hown5 hg5 _
          have hbG : Hid (Below w.heap.size w w5) := Below.grown hbH.out hg5 hbH.out.size (fun q hq => (hownH.out.lt q hq).1)
          have hown5H : Hid (w5.ownsRow w.heap.size 38 2 v2 (xs ++ ys).length (vcells (xs ++ ys))) := Lib.hid (by
            have := hown5
            simpa [vcells_append, vcells_nil] using this)
          clear hown5 hg5
          go_wp2_with fail
          go_roundw
          case rel => exact ⟨2, by omega, by go_num, hown5H.out, hbG.out⟩
          case measure => simp [intOf]
        | 2, _ =>
          have hownH2 := Lib.hid (show wr.ownsRow w.heap.size 38 2 _ (xs ++ ys).length (vcells (xs ++ ys)) from hown)
          clear hown
          go_wp2_with fail
          go_ret
          exact ⟨_, rfl, hownH2.out, hbH.out⟩

end Go.Proofs.Ytobeediccmmjhaa
