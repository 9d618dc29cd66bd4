/- Agencies and configurations in memory; plan.Agency and the reference's Agency (printed by tools/genCfgA.py). -/
import Derived.Test.YtepodpdcillkmaaJuncs
namespace Go.Proofs.Ytepodpdcillkmaa
open Go.RowKit
set_option linter.unusedVariables false
set_option linter.unusedSimpArgs false

/-- What an agency holds: the length of its secret, its numbers, its limits. -/
structure Ad where
  sl : Nat
  ri : Int
  cls : Int
  lims : List Int
  rq : Int
  se : Int
  ra : Int
  bu : Int
/-- What a junction holds. -/
structure Jd where
  P : List Ph
  C : List Int
  s : Int
def agOk (d : Ad) : Bool := decide (d.sl = 8) && (decide (d.lims.length = 4) && (d.lims.all (fun z => wi z 0 8) && (wi d.ri 0 63 && (wi d.cls 0 3 && (wi d.rq 0 4 && (wi d.se 1 2 && (wi d.bu 0 1000 && wi d.ra 0 d.bu)))))))
def limTo (l : List Int) (k : Nat) : Bool := (List.range k).all fun i => wi (l.getD i 0) 0 8
theorem limTo_all (l : List Int) : limTo l l.length = l.all (fun z => wi z 0 8) := by
  unfold limTo
  rw [Bool.eq_iff_iff, List.all_eq_true, List.all_eq_true]
  constructor
  · intro h z hz
    obtain ⟨i, hi, rfl⟩ := List.getElem_of_mem hz
    have := h i (List.mem_range.2 hi)
    simpa [List.getD, hi] using this
  · intro h i hi
    have hi := List.mem_range.1 hi
    have := h l[i] (List.getElem_mem _)
    simpa [List.getD, hi] using this
theorem all_no {l : List Int} {i : Nat} (hi : i < l.length) (h : wi (l.getD i 0) 0 8 = false) : l.all (fun z => wi z 0 8) = false := by
  rw [List.all_eq_false]
  exact ⟨l[i], List.getElem_mem _, by simpa [List.getD, hi] using h⟩
theorem all_yes {l : List Int} (h : ∀ i, i < l.length → wi (l.getD i 0) 0 8 = true) : l.all (fun z => wi z 0 8) = true := by
  rw [List.all_eq_true]
  intro z hz
  obtain ⟨i, hi, rfl⟩ := List.getElem_of_mem hz
  simpa [List.getD, hi] using h i hi

set_option maxRecDepth 100000 in
set_option maxHeartbeats 8000000 in
theorem agency_plan (sl : Nat) (ri cls : Int) (lims : List Int) (rq se ra bu : Int) (As : Option Addr) (sc : Nat) (L : Option Addr) (lc : Nat) (w : World) (hL : Ints w w.heap.size L lims) (hm : lims.length ≤ 1000) (hs : sl ≤ 1000) :
    Calls Try.prog 42 #[.agg #[.slice As sl sc, .int .i64 ri, .int .i64 cls, .slice L lims.length lc, .int .i64 rq, .int .i64 se, .int .i64 ra, .int .i64 bu]] w fun e w' => e = .returned (.bool (agOk ⟨sl, ri, cls, lims, rq, se, ra, bu⟩)) ∧ Below w.heap.size w w' := by
  have HL := Lib.hid hL
  have hE : Hid (agOk ⟨sl, ri, cls, lims, rq, se, ra, bu⟩ = (decide (sl = 8) && (decide (lims.length = 4) && (lims.all (fun z => wi z 0 8) && (wi ri 0 63 && (wi cls 0 3 && (wi rq 0 4 && (wi se 1 2 && (wi bu 0 1000 && wi ra 0 bu))))))))) := rfl
  generalize agOk ⟨sl, ri, cls, lims, rq, se, ra, bu⟩ = res at hE ⊢
  clear hL
  go_enter Try.func42, Try.ntmps42
  have hB : Hid (Box (w.alloc (.cells #[.slice As sl sc, .int .i64 ri, .int .i64 cls, .slice L lims.length lc, .int .i64 rq, .int .i64 se, .int .i64 ra, .int .i64 bu] 66)) w.heap.size 66 #[.slice As sl sc, .int .i64 ri, .int .i64 cls, .slice L lims.length lc, .int .i64 rq, .int .i64 se, .int .i64 ra, .int .i64 bu]) := Box.new _ _ _
  have hW : Hid (Below w.heap.size w (w.alloc (.cells #[.slice As sl sc, .int .i64 ri, .int .i64 cls, .slice L lims.length lc, .int .i64 rq, .int .i64 se, .int .i64 ra, .int .i64 bu] 66))) := (Below.refl _ _).alloc (Nat.le_refl _) _
  go_upto_region 1 with fail
  generalize (w.alloc (.cells #[.slice As sl sc, .int .i64 ri, .int .i64 cls, .slice L lims.length lc, .int .i64 rq, .int .i64 se, .int .i64 ra, .int .i64 bu] 66)) = W at hB hW ⊢
  have a0 := hB.out.cell 0
  have a1 := hB.out.cell 1
  have a2 := hB.out.cell 2
  have a3 := hB.out.cell 3
  have a4 := hB.out.cell 4
  have a5 := hB.out.cell 5
  have a6 := hB.out.cell 6
  have a7 := hB.out.cell 7
  have az := hB.out.lt
  simp at a0 a1 a2 a3 a4 a5 a6 a7
  by_cases h_sl : sl = 8
  rotate_left
  · have hx : ((sl : Int) != 8) = true := by simp; omega
    have hy : Hid (decide (sl = 8) = false) := Lib.hid (decide_eq_false h_sl)
    clear h_sl
    go_wp2_with fail
    go_ret
    exact ⟨by rw [hE.out, hy.out]; simp, hW.out⟩
  have hy_sl : Hid (decide (sl = 8) = true) := Lib.hid (decide_eq_true h_sl)
  have hx_sl : ((sl : Int) != 8) = false := by simp; omega
  clear h_sl
  by_cases h_li : lims.length = 4
  rotate_left
  · have hx : ((lims.length : Int) != 4) = true := by simp; omega
    have hy : Hid (decide (lims.length = 4) = false) := Lib.hid (decide_eq_false h_li)
    clear h_li
    go_wp2_with fail
    go_ret
    exact ⟨by rw [hE.out, hy.out]; simp, hW.out⟩
  have hy_li : Hid (decide (lims.length = 4) = true) := Lib.hid (decide_eq_true h_li)
  have hx_li : ((lims.length : Int) != 4) = false := by simp; omega
  have hl4 : lims.length ≤ 4 := by omega
  clear h_li
  go_wp2_with fail
  go_loopw [18] (fun v wr => ∃ k : Nat, k ≤ lims.length ∧ v = .int .i64 k ∧ (∀ i, i < k → wi (lims.getD i 0) 0 8 = true) ∧ W = wr) (fun v _ => lims.length - (intOf v).toNat)
  case atStart => exact ⟨0, by omega, rfl, fun i hi => by omega, by first | rfl | trivial⟩
  case round =>
    obtain ⟨k, hk, rfl, hall, rfl⟩ := hrel
    have hallH := Lib.hid hall
    clear hall
    by_cases hlt : k < lims.length
    · have hkl : (k : Int) < (lims.length : Int) := by omega
      obtain ⟨b, off, rfl, hbl, hc⟩ := (HL.out.below hW.out) k hlt
      have hwz := hW.out.size
      have hbz : b < W.heap.size := by omega
      have hno : Hid (wi (lims.getD k 0) 0 8 = false → lims.all (fun z => wi z 0 8) = false) := Lib.hid fun h => all_no hlt h
      generalize hz : lims.getD k 0 = z at hc hno
      have hzH := Lib.hid hz
      clear hz
      cases hwz8 : wi z 0 8
      · have hwz8H := Lib.hid hwz8
        have hnoH := Lib.hid (hno.out hwz8)
        clear hwz8
        go_wp2_with (refine (within_any _ _ _ _).mono ?_; rintro e w' ⟨rfl, rfl⟩; rw [hwz8H.out])
        go_ret
        exact ⟨by rw [hE.out, hnoH.out]; simp, hW.out⟩
      · have hwz8H := Lib.hid hwz8
        clear hwz8
        go_wp2_with (refine (within_any _ _ _ _).mono ?_; rintro e w' ⟨rfl, rfl⟩; rw [hwz8H.out])
        go_roundw
        case rel => exact ⟨k + 1, by omega, by go_num, fun i hi => by
          by_cases hik : i = k
          · subst hik; rw [hzH.out]; exact hwz8H.out
          · exact hallH.out i (by omega), by first | rfl | trivial⟩
        case measure => simp [intOf]; omega
    · have hkl : ¬ (k : Int) < (lims.length : Int) := by omega
      obtain rfl : k = lims.length := by omega
      have hya : Hid (lims.all (fun z => wi z 0 8) = true) := Lib.hid (all_yes hallH.out)
      cases hy_ri0 : wi ri 0 63
      · have hy_ri := Lib.hid hy_ri0
        clear hy_ri0
        go_wp2_with (refine (within_any _ _ _ _).mono ?_; rintro e w' ⟨rfl, rfl⟩; first | rw [hy_ri.out])
        go_ret
        exact ⟨by rw [hE.out, hy_ri.out]; simp, hW.out⟩
      have hy_ri := Lib.hid hy_ri0
      clear hy_ri0
      cases hy_cls0 : wi cls 0 3
      · have hy_cls := Lib.hid hy_cls0
        clear hy_cls0
        go_wp2_with (refine (within_any _ _ _ _).mono ?_; rintro e w' ⟨rfl, rfl⟩; first | rw [hy_ri.out] | rw [hy_cls.out])
        go_ret
        exact ⟨by rw [hE.out, hy_cls.out]; simp, hW.out⟩
      have hy_cls := Lib.hid hy_cls0
      clear hy_cls0
      cases hy_rq0 : wi rq 0 4
      · have hy_rq := Lib.hid hy_rq0
        clear hy_rq0
        go_wp2_with (refine (within_any _ _ _ _).mono ?_; rintro e w' ⟨rfl, rfl⟩; first | rw [hy_ri.out] | rw [hy_cls.out] | rw [hy_rq.out])
        go_ret
        exact ⟨by rw [hE.out, hy_rq.out]; simp, hW.out⟩
      have hy_rq := Lib.hid hy_rq0
      clear hy_rq0
      cases hy_se0 : wi se 1 2
      · have hy_se := Lib.hid hy_se0
        clear hy_se0
        go_wp2_with (refine (within_any _ _ _ _).mono ?_; rintro e w' ⟨rfl, rfl⟩; first | rw [hy_ri.out] | rw [hy_cls.out] | rw [hy_rq.out] | rw [hy_se.out])
        go_ret
        exact ⟨by rw [hE.out, hy_se.out]; simp, hW.out⟩
      have hy_se := Lib.hid hy_se0
      clear hy_se0
      cases hy_bu0 : wi bu 0 1000
      · have hy_bu := Lib.hid hy_bu0
        clear hy_bu0
        go_wp2_with (refine (within_any _ _ _ _).mono ?_; rintro e w' ⟨rfl, rfl⟩; first | rw [hy_ri.out] | rw [hy_cls.out] | rw [hy_rq.out] | rw [hy_se.out] | rw [hy_bu.out])
        go_ret
        exact ⟨by rw [hE.out, hy_bu.out]; simp, hW.out⟩
      have hy_bu := Lib.hid hy_bu0
      clear hy_bu0
      cases hy_ra0 : wi ra 0 bu
      · have hy_ra := Lib.hid hy_ra0
        clear hy_ra0
        go_wp2_with (refine (within_any _ _ _ _).mono ?_; rintro e w' ⟨rfl, rfl⟩; first | rw [hy_ri.out] | rw [hy_cls.out] | rw [hy_rq.out] | rw [hy_se.out] | rw [hy_bu.out] | rw [hy_ra.out])
        go_ret
        exact ⟨by rw [hE.out, hy_ra.out]; simp, hW.out⟩
      have hy_ra := Lib.hid hy_ra0
      clear hy_ra0
      go_wp2_with (refine (within_any _ _ _ _).mono ?_; rintro e w' ⟨rfl, rfl⟩; first | rw [hy_ri.out] | rw [hy_cls.out] | rw [hy_rq.out] | rw [hy_se.out] | rw [hy_bu.out] | rw [hy_ra.out])
      go_ret
      exact ⟨by rw [hE.out, hy_sl.out, hy_li.out, hya.out, hy_ri.out, hy_cls.out, hy_rq.out, hy_se.out, hy_bu.out, hy_ra.out]; rfl, hW.out⟩

set_option maxRecDepth 100000 in
set_option maxHeartbeats 8000000 in
theorem agency_ref (sl : Nat) (ri cls : Int) (lims : List Int) (rq se ra bu : Int) (As : Option Addr) (sc : Nat) (L : Option Addr) (lc : Nat) (w : World) (hL : Ints w w.heap.size L lims) (hm : lims.length ≤ 1000) (hs : sl ≤ 1000) :
    Calls Try.prog 43 #[.agg #[.slice As sl sc, .int .i64 ri, .int .i64 cls, .slice L lims.length lc, .int .i64 rq, .int .i64 se, .int .i64 ra, .int .i64 bu]] w fun e w' => e = .returned (.bool (agOk ⟨sl, ri, cls, lims, rq, se, ra, bu⟩)) ∧ Below w.heap.size w w' := by
  have HL := Lib.hid hL
  have hE : Hid (agOk ⟨sl, ri, cls, lims, rq, se, ra, bu⟩ = (decide (sl = 8) && (decide (lims.length = 4) && (lims.all (fun z => wi z 0 8) && (wi ri 0 63 && (wi cls 0 3 && (wi rq 0 4 && (wi se 1 2 && (wi bu 0 1000 && wi ra 0 bu))))))))) := rfl
  generalize agOk ⟨sl, ri, cls, lims, rq, se, ra, bu⟩ = res at hE ⊢
  clear hL
  go_enter Try.func43, Try.ntmps43
  have hB : Hid (Box (w.alloc (.cells #[.slice As sl sc, .int .i64 ri, .int .i64 cls, .slice L lims.length lc, .int .i64 rq, .int .i64 se, .int .i64 ra, .int .i64 bu] 66)) w.heap.size 66 #[.slice As sl sc, .int .i64 ri, .int .i64 cls, .slice L lims.length lc, .int .i64 rq, .int .i64 se, .int .i64 ra, .int .i64 bu]) := Box.new _ _ _
  have hW : Hid (Below w.heap.size w (w.alloc (.cells #[.slice As sl sc, .int .i64 ri, .int .i64 cls, .slice L lims.length lc, .int .i64 rq, .int .i64 se, .int .i64 ra, .int .i64 bu] 66))) := (Below.refl _ _).alloc (Nat.le_refl _) _
  go_upto_region 1 with fail
  generalize (w.alloc (.cells #[.slice As sl sc, .int .i64 ri, .int .i64 cls, .slice L lims.length lc, .int .i64 rq, .int .i64 se, .int .i64 ra, .int .i64 bu] 66)) = W at hB hW ⊢
  have a0 := hB.out.cell 0
  have a1 := hB.out.cell 1
  have a2 := hB.out.cell 2
  have a3 := hB.out.cell 3
  have a4 := hB.out.cell 4
  have a5 := hB.out.cell 5
  have a6 := hB.out.cell 6
  have a7 := hB.out.cell 7
  have az := hB.out.lt
  simp at a0 a1 a2 a3 a4 a5 a6 a7
  by_cases h_sl : sl = 8
  rotate_left
  · have hx : ((sl : Int) != 8) = true := by simp; omega
    have hy : Hid (decide (sl = 8) = false) := Lib.hid (decide_eq_false h_sl)
    clear h_sl
    go_wp2_with fail
    go_ret
    exact ⟨by rw [hE.out, hy.out]; simp, hW.out⟩
  have hy_sl : Hid (decide (sl = 8) = true) := Lib.hid (decide_eq_true h_sl)
  have hx_sl : ((sl : Int) != 8) = false := by simp; omega
  clear h_sl
  cases hy_ri0 : wi ri 0 63
  · have hy_ri := Lib.hid hy_ri0
    clear hy_ri0
    go_wp2_with (refine (rwithin_any _ _ _ _).mono ?_; rintro e w' ⟨rfl, rfl⟩; first | rw [hy_ri.out])
    go_ret
    exact ⟨by rw [hE.out, hy_ri.out]; simp, hW.out⟩
  have hy_ri := Lib.hid hy_ri0
  clear hy_ri0
  cases hy_cls0 : wi cls 0 3
  · have hy_cls := Lib.hid hy_cls0
    clear hy_cls0
    go_wp2_with (refine (rwithin_any _ _ _ _).mono ?_; rintro e w' ⟨rfl, rfl⟩; first | rw [hy_ri.out] | rw [hy_cls.out])
    go_ret
    exact ⟨by rw [hE.out, hy_cls.out]; simp, hW.out⟩
  have hy_cls := Lib.hid hy_cls0
  clear hy_cls0
  by_cases h_li : lims.length = 4
  rotate_left
  · have hx : ((lims.length : Int) != 4) = true := by simp; omega
    have hy : Hid (decide (lims.length = 4) = false) := Lib.hid (decide_eq_false h_li)
    clear h_li
    go_wp2_with (refine (rwithin_any _ _ _ _).mono ?_; rintro e w' ⟨rfl, rfl⟩; first | rw [hy_ri.out] | rw [hy_cls.out])
    go_ret
    exact ⟨by rw [hE.out, hy.out]; simp, hW.out⟩
  have hy_li : Hid (decide (lims.length = 4) = true) := Lib.hid (decide_eq_true h_li)
  have hx_li : ((lims.length : Int) != 4) = false := by simp; omega
  have hl4 : lims.length ≤ 4 := by omega
  clear h_li
  go_wp2_with (refine (rwithin_any _ _ _ _).mono ?_; rintro e w' ⟨rfl, rfl⟩; first | rw [hy_ri.out] | rw [hy_cls.out])
  go_loopw [30] (fun v wr => ∃ k : Nat, k ≤ lims.length ∧ v = .int .i64 k ∧ (∀ i, i < k → wi (lims.getD i 0) 0 8 = true) ∧ W = wr) (fun v _ => lims.length - (intOf v).toNat)
  case atStart => exact ⟨0, by omega, rfl, fun i hi => by omega, by first | rfl | trivial⟩
  case round =>
    obtain ⟨k, hk, rfl, hall, rfl⟩ := hrel
    have hallH := Lib.hid hall
    clear hall
    by_cases hlt : k < lims.length
    · have hkl : (k : Int) < (lims.length : Int) := by omega
      obtain ⟨b, off, rfl, hbl, hc⟩ := (HL.out.below hW.out) k hlt
      have hwz := hW.out.size
      have hbz : b < W.heap.size := by omega
      have hno : Hid (wi (lims.getD k 0) 0 8 = false → lims.all (fun z => wi z 0 8) = false) := Lib.hid fun h => all_no hlt h
      generalize hz : lims.getD k 0 = z at hc hno
      have hzH := Lib.hid hz
      clear hz
      cases hwz8 : wi z 0 8
      · have hwz8H := Lib.hid hwz8
        have hnoH := Lib.hid (hno.out hwz8)
        clear hwz8
        go_wp2_with (refine (rwithin_any _ _ _ _).mono ?_; rintro e w' ⟨rfl, rfl⟩; rw [hwz8H.out])
        go_ret
        exact ⟨by rw [hE.out, hnoH.out]; simp, hW.out⟩
      · have hwz8H := Lib.hid hwz8
        clear hwz8
        go_wp2_with (refine (rwithin_any _ _ _ _).mono ?_; rintro e w' ⟨rfl, rfl⟩; rw [hwz8H.out])
        go_roundw
        case rel => exact ⟨k + 1, by omega, by go_num, fun i hi => by
          by_cases hik : i = k
          · subst hik; rw [hzH.out]; exact hwz8H.out
          · exact hallH.out i (by omega), by first | rfl | trivial⟩
        case measure => simp [intOf]; omega
    · have hkl : ¬ (k : Int) < (lims.length : Int) := by omega
      obtain rfl : k = lims.length := by omega
      have hya : Hid (lims.all (fun z => wi z 0 8) = true) := Lib.hid (all_yes hallH.out)
      cases hy_rq0 : wi rq 0 4
      · have hy_rq := Lib.hid hy_rq0
        clear hy_rq0
        go_wp2_with (refine (rwithin_any _ _ _ _).mono ?_; rintro e w' ⟨rfl, rfl⟩; first | rw [hy_ri.out] | rw [hy_cls.out] | rw [hy_rq.out])
        go_ret
        exact ⟨by rw [hE.out, hy_rq.out]; simp, hW.out⟩
      have hy_rq := Lib.hid hy_rq0
      clear hy_rq0
      cases hy_se0 : wi se 1 2
      · have hy_se := Lib.hid hy_se0
        clear hy_se0
        go_wp2_with (refine (rwithin_any _ _ _ _).mono ?_; rintro e w' ⟨rfl, rfl⟩; first | rw [hy_ri.out] | rw [hy_cls.out] | rw [hy_rq.out] | rw [hy_se.out])
        go_ret
        exact ⟨by rw [hE.out, hy_se.out]; simp, hW.out⟩
      have hy_se := Lib.hid hy_se0
      clear hy_se0
      cases hy_bu0 : wi bu 0 1000
      · have hy_bu := Lib.hid hy_bu0
        clear hy_bu0
        go_wp2_with (refine (rwithin_any _ _ _ _).mono ?_; rintro e w' ⟨rfl, rfl⟩; first | rw [hy_ri.out] | rw [hy_cls.out] | rw [hy_rq.out] | rw [hy_se.out] | rw [hy_bu.out])
        go_ret
        exact ⟨by rw [hE.out, hy_bu.out]; simp, hW.out⟩
      have hy_bu := Lib.hid hy_bu0
      clear hy_bu0
      cases hy_ra0 : wi ra 0 bu
      · have hy_ra := Lib.hid hy_ra0
        clear hy_ra0
        go_wp2_with (refine (rwithin_any _ _ _ _).mono ?_; rintro e w' ⟨rfl, rfl⟩; first | rw [hy_ri.out] | rw [hy_cls.out] | rw [hy_rq.out] | rw [hy_se.out] | rw [hy_bu.out] | rw [hy_ra.out])
        go_ret
        exact ⟨by rw [hE.out, hy_ra.out]; simp, hW.out⟩
      have hy_ra := Lib.hid hy_ra0
      clear hy_ra0
      go_wp2_with (refine (rwithin_any _ _ _ _).mono ?_; rintro e w' ⟨rfl, rfl⟩; first | rw [hy_ri.out] | rw [hy_cls.out] | rw [hy_rq.out] | rw [hy_se.out] | rw [hy_bu.out] | rw [hy_ra.out])
      go_ret
      exact ⟨by rw [hE.out, hy_sl.out, hy_li.out, hya.out, hy_ri.out, hy_cls.out, hy_rq.out, hy_se.out, hy_bu.out, hy_ra.out]; rfl, hW.out⟩

end Go.Proofs.Ytepodpdcillkmaa
