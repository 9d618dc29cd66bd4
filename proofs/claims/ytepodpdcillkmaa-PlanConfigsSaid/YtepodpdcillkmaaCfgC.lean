/- plan.Config and the reference's Config (printed by tools/genCfgC.py). -/
import Derived.Test.YtepodpdcillkmaaCfgB
namespace Go.Proofs.Ytepodpdcillkmaa
open Go.RowKit
set_option linter.unusedVariables false
set_option linter.unusedSimpArgs false

set_option maxRecDepth 100000 in
set_option maxHeartbeats 8000000 in
theorem config_plan (vJ vA : Value) (Js : List Jd) (Ags : List Ad) (per cap hold lock : Int) (w : World) (hJ : SlE (JElem 60) w w.heap.size vJ Js) (hA : SlE (AElem 60) w w.heap.size vA Ags) (hm1 : Js.length ≤ 1000) (hm2 : Ags.length ≤ 1000) :
    Calls Try.prog 44 #[.agg #[vJ, vA, .int .i64 per, .int .i64 cap, .int .i64 hold, .int .i64 lock]] w fun e w' => e = .returned (.bool (cfgOk Js Ags per cap hold lock)) ∧ Below w.heap.size w w' := by
  obtain ⟨A1, c1, ecs1, rfl, hJ1, hJ2, hJ3⟩ := hJ
  obtain ⟨A2, c2, ecs2, rfl, hA1, hA2, hA3⟩ := hA
  have HJ : Hid (SlE (JElem 60) w w.heap.size (.slice A1 Js.length c1) Js) := ⟨A1, c1, ecs1, rfl, hJ1, hJ2, hJ3⟩
  have HA : Hid (SlE (AElem 60) w w.heap.size (.slice A2 Ags.length c2) Ags) := ⟨A2, c2, ecs2, rfl, hA1, hA2, hA3⟩
  clear hJ1 hJ2 hJ3 hA1 hA2 hA3
  have hE : Hid (cfgOk Js Ags per cap hold lock = (wi Js.length 1 4 && (wi Ags.length 1 4 && (Js.all jOk && (Ags.all agOk && (wi per 1 600 && (wi cap 0 100 && (wi hold 1 60 && wi lock 0 600)))))))) := rfl
  generalize cfgOk Js Ags per cap hold lock = res at hE ⊢
  go_enter Try.func44, Try.ntmps44
  go_upto_region 1 with fail
  have hB : Hid (Box (w.alloc (.cells #[.slice A1 Js.length c1, .slice A2 Ags.length c2, .int .i64 per, .int .i64 cap, .int .i64 hold, .int .i64 lock] 63)) w.heap.size 63 #[.slice A1 Js.length c1, .slice A2 Ags.length c2, .int .i64 per, .int .i64 cap, .int .i64 hold, .int .i64 lock]) := Box.new _ _ _
  have hW : Hid (Below w.heap.size w (w.alloc (.cells #[.slice A1 Js.length c1, .slice A2 Ags.length c2, .int .i64 per, .int .i64 cap, .int .i64 hold, .int .i64 lock] 63))) := (Below.refl _ _).alloc (Nat.le_refl _) _
  generalize (w.alloc (.cells #[.slice A1 Js.length c1, .slice A2 Ags.length c2, .int .i64 per, .int .i64 cap, .int .i64 hold, .int .i64 lock] 63)) = W at hB hW ⊢
  have hWz := hW.out.size
  have a0 := (hB.out).cell 0
  have a1 := (hB.out).cell 1
  have a2 := (hB.out).cell 2
  have a3 := (hB.out).cell 3
  have a4 := (hB.out).cell 4
  have a5 := (hB.out).cell 5
  have az := (hB.out).lt
  simp at a0 a1 a2 a3 a4 a5
  cases hy10 : wi (Js.length : Int) 1 4
  · have hy1 := Lib.hid hy10
    clear hy10
    go_wp2_with (refine (within_any _ _ _ _).mono ?_; rintro e w' ⟨rfl, rfl⟩; rw [hy1.out])
    go_ret
    exact ⟨by rw [hE.out, hy1.out]; rfl, hW.out⟩
  have hy1 := Lib.hid hy10
  clear hy10
  cases hy20 : wi (Ags.length : Int) 1 4
  · have hy2 := Lib.hid hy20
    clear hy20
    go_wp2_with (refine (within_any _ _ _ _).mono ?_; rintro e w' ⟨rfl, rfl⟩; first | rw [hy1.out] | rw [hy2.out])
    go_ret
    exact ⟨by rw [hE.out, hy1.out, hy2.out]; rfl, hW.out⟩
  have hy2 := Lib.hid hy20
  clear hy20
  go_wp2_with (refine (within_any _ _ _ _).mono ?_; rintro e w' ⟨rfl, rfl⟩; first | rw [hy1.out] | rw [hy2.out])
  go_loopw [22] (fun v wr => ∃ k : Nat, k ≤ Js.length ∧ v = .int .i64 k ∧ (∀ i (h : i < Js.length), i < k → jOk Js[i] = true) ∧ Below W.heap.size W wr) (fun v _ => Js.length - (intOf v).toNat)
  case atStart => exact ⟨0, by omega, rfl, fun i h hi => by omega, Below.refl _ _⟩
  case round =>
    obtain ⟨k, hk, rfl, hall, hb⟩ := hrel
    have hallH := Lib.hid hall
    have hbH := Lib.hid hb
    have hz := hb.size
    have hbw : Hid (Below w.heap.size w wr) := hW.out.trans (hb.mono hWz)
    have hbwz := hbw.out.size
    clear hall hb a0 a1 a2 a3 a4 a5 az
    by_cases hlt : k < Js.length
    · have hkl : (k : Int) < (Js.length : Int) := by omega
      obtain ⟨b, off, cc, c, he, hbl, ⟨P1, pc1, P2, pc2, rfl, hp1, hp2, hp3, hp4⟩, hcell⟩ := (slJ_below HJ.out hbw.out).at (k := 3) (by decide) (fun _ _ h => h.len) k hlt
      injection he with he hle hce
      subst he hce
      clear hle
      have g0 := hcell 0 (by decide)
      have g1 := hcell 1 (by decide)
      have g2 := hcell 2 (by decide)
      simp only [List.getElem?_cons_zero, List.getElem?_cons_succ, Nat.add_zero] at g0 g1 g2
      have hbz : b < wr.heap.size := by omega
      have hp1H := Lib.hid hp1
      have hp2H := Lib.hid hp2
      have hno : Hid (jOk Js[k] = false → Js.all jOk = false) := Lib.hid fun h => by
        rw [List.all_eq_false]; exact ⟨_, List.getElem_mem hlt, by simp [h]⟩
      have hdef : Hid (planJ Js[k].P Js[k].C Js[k].s = jOk Js[k]) := rfl
      generalize hjk : Js[k] = d at g0 g1 g2 hp1H hp2H hp3 hp4 hno hdef
      have hjkH := Lib.hid hjk
      clear hcell hp1 hp2 hjk
      obtain ⟨dP, dC, ds⟩ := d
      simp only at g0 g1 g2 hp1H hp2H hp3 hp4 hdef
      go_wp2_with fail
      refine (planJ_any P1 P2 pc1 pc2 dP dC ds _ ((hp1H.out.more hbwz).below ((Below.refl _ _).alloc (Nat.le_refl _) _) |>.more (by simp)) hp3 ((hp2H.out.more hbwz).below ((Below.refl _ _).alloc (Nat.le_refl _) _) |>.more (by simp)) hp4).mono ?_; rintro e w5 ⟨rfl, hb5⟩
      have hW5 : Hid (Below W.heap.size W w5) := (hbH.out.alloc hz _).trans (hb5.mono (by simp; omega))
      rw [hdef.out]
      clear hb5 g0 g1 g2
      cases hj0 : jOk ⟨dP, dC, ds⟩
      · have hnoH := Lib.hid (hno.out hj0)
        clear hj0
        go_wp2_with fail
        go_ret
        exact ⟨by rw [hE.out, hnoH.out]; simp, hW.out.trans (hW5.out.mono hWz)⟩
      · have hj := Lib.hid hj0
        clear hj0
        go_wp2_with fail
        go_roundw
        case rel => exact ⟨k + 1, by omega, by go_num, fun i h hi => by
          by_cases hik : i = k
          · subst hik; rw [hjkH.out]; exact hj.out
          · exact hallH.out i h (by omega), hW5.out⟩
        case measure => simp [intOf]; omega
    · have hkl : ¬ (k : Int) < (Js.length : Int) := by omega
      obtain rfl : k = Js.length := by omega
      have hjs : Hid (Js.all jOk = true) := Lib.hid (by
        rw [List.all_eq_true]; intro d hd; obtain ⟨i, hi, rfl⟩ := List.getElem_of_mem hd; exact hallH.out i hi hi)
      obtain ⟨V, rfl⟩ : ∃ x, x = wr := ⟨wr, rfl⟩
      clear hallH
      have a0 := (hB.out.below hbH.out hB.out.lt).cell 0
      have a1 := (hB.out.below hbH.out hB.out.lt).cell 1
      have a2 := (hB.out.below hbH.out hB.out.lt).cell 2
      have a3 := (hB.out.below hbH.out hB.out.lt).cell 3
      have a4 := (hB.out.below hbH.out hB.out.lt).cell 4
      have a5 := (hB.out.below hbH.out hB.out.lt).cell 5
      have az := (hB.out.below hbH.out hB.out.lt).lt
      simp at a0 a1 a2 a3 a4 a5
      go_wp2_with fail
      go_loopw [33] (fun v wr => ∃ k : Nat, k ≤ Ags.length ∧ v = .int .i64 k ∧ (∀ i (h : i < Ags.length), i < k → agOk Ags[i] = true) ∧ Below W.heap.size W wr) (fun v _ => Ags.length - (intOf v).toNat)
      case atStart => exact ⟨0, by omega, rfl, fun i h hi => by omega, hbH.out⟩
      case round =>
        obtain ⟨k, hk, rfl, hall, hb⟩ := hrel
        have hallH := Lib.hid hall
        have hbrH := Lib.hid hb
        have hz2 := hb.size
        have hbw2 : Hid (Below w.heap.size w wr) := hW.out.trans (hb.mono hWz)
        have hbwz2 := hbw2.out.size
        clear hall hb a0 a1 a2 a3 a4 a5 az
        by_cases hlt : k < Ags.length
        · have hkl : (k : Int) < (Ags.length : Int) := by omega
          obtain ⟨b, off, cc, c, he, hbl, ⟨Q1, qc1, Q2, qc2, rfl, hp1, hp3, hp4⟩, hcell⟩ := (slA_below HA.out hbw2.out).at (k := 8) (by decide) (fun _ _ h => h.len) k hlt
          injection he with he hle hce
          subst he hce
          clear hle
          have g0 := hcell 0 (by decide)
          have g1 := hcell 1 (by decide)
          have g2 := hcell 2 (by decide)
          have g3 := hcell 3 (by decide)
          have g4 := hcell 4 (by decide)
          have g5 := hcell 5 (by decide)
          have g6 := hcell 6 (by decide)
          have g7 := hcell 7 (by decide)
          simp only [List.getElem?_cons_zero, List.getElem?_cons_succ, Nat.add_zero] at g0 g1 g2 g3 g4 g5 g6 g7
          have hbz : b < wr.heap.size := by omega
          have hp1H := Lib.hid hp1
          have hno : Hid (agOk Ags[k] = false → Ags.all agOk = false) := Lib.hid fun h => by
            rw [List.all_eq_false]; exact ⟨_, List.getElem_mem hlt, by simp [h]⟩
          generalize hjk : Ags[k] = d at g0 g1 g2 g3 g4 g5 g6 g7 hp1H hp3 hp4 hno
          have hjkH := Lib.hid hjk
          clear hcell hp1 hjk
          obtain ⟨dsl, dri, dcls, dli, drq, dse, dra, dbu⟩ := d
          simp only at g0 g1 g2 g3 g4 g5 g6 g7 hp1H hp3 hp4
          go_wp2_with fail
          refine (agency_plan dsl dri dcls dli drq dse dra dbu Q1 qc1 Q2 qc2 _ ((hp1H.out.more hbwz2).below ((Below.refl _ _).alloc (Nat.le_refl _) _) |>.more (by simp)) (by omega) (by omega)).mono ?_; rintro e w5 ⟨rfl, hb5⟩
          have hW5 : Hid (Below W.heap.size W w5) := (hbrH.out.alloc hz2 _).trans (hb5.mono (by simp; omega))
          clear hb5 g0 g1 g2 g3 g4 g5 g6 g7
          cases hj0 : agOk ⟨dsl, dri, dcls, dli, drq, dse, dra, dbu⟩
          · have hnoH := Lib.hid (hno.out hj0)
            clear hj0
            go_wp2_with fail
            go_ret
            exact ⟨by rw [hE.out, hnoH.out]; simp, hW.out.trans (hW5.out.mono hWz)⟩
          · have hj := Lib.hid hj0
            clear hj0
            go_wp2_with fail
            go_roundw
            case rel => exact ⟨k + 1, by omega, by go_num, fun i h hi => by
              by_cases hik : i = k
              · subst hik; rw [hjkH.out]; exact hj.out
              · exact hallH.out i h (by omega), hW5.out⟩
            case measure => simp [intOf]; omega
        · have hkl : ¬ (k : Int) < (Ags.length : Int) := by omega
          obtain rfl : k = Ags.length := by omega
          have has : Hid (Ags.all agOk = true) := Lib.hid (by
            rw [List.all_eq_true]; intro d hd; obtain ⟨i, hi, rfl⟩ := List.getElem_of_mem hd; exact hallH.out i hi hi)
          have hend : Hid (Below w.heap.size w wr) := hbw2.out
          clear hallH
          have a0 := (hB.out.below hbrH.out hB.out.lt).cell 0
          have a1 := (hB.out.below hbrH.out hB.out.lt).cell 1
          have a2 := (hB.out.below hbrH.out hB.out.lt).cell 2
          have a3 := (hB.out.below hbrH.out hB.out.lt).cell 3
          have a4 := (hB.out.below hbrH.out hB.out.lt).cell 4
          have a5 := (hB.out.below hbrH.out hB.out.lt).cell 5
          have az := (hB.out.below hbrH.out hB.out.lt).lt
          simp at a0 a1 a2 a3 a4 a5
          cases hz_per0 : wi per 1 600
          · have hz_per := Lib.hid hz_per0
            clear hz_per0
            go_wp2_with (refine (within_any _ _ _ _).mono ?_; rintro e w' ⟨rfl, rfl⟩; first | rw [hz_per.out])
            go_ret
            exact ⟨by rw [hE.out, hz_per.out]; simp, hend.out⟩
          have hz_per := Lib.hid hz_per0
          clear hz_per0
          cases hz_cap0 : wi cap 0 100
          · have hz_cap := Lib.hid hz_cap0
            clear hz_cap0
            go_wp2_with (refine (within_any _ _ _ _).mono ?_; rintro e w' ⟨rfl, rfl⟩; first | rw [hz_per.out] | rw [hz_cap.out])
            go_ret
            exact ⟨by rw [hE.out, hz_cap.out]; simp, hend.out⟩
          have hz_cap := Lib.hid hz_cap0
          clear hz_cap0
          cases hz_hold0 : wi hold 1 60
          · have hz_hold := Lib.hid hz_hold0
            clear hz_hold0
            go_wp2_with (refine (within_any _ _ _ _).mono ?_; rintro e w' ⟨rfl, rfl⟩; first | rw [hz_per.out] | rw [hz_cap.out] | rw [hz_hold.out])
            go_ret
            exact ⟨by rw [hE.out, hz_hold.out]; simp, hend.out⟩
          have hz_hold := Lib.hid hz_hold0
          clear hz_hold0
          cases hz_lock0 : wi lock 0 600
          · have hz_lock := Lib.hid hz_lock0
            clear hz_lock0
            go_wp2_with (refine (within_any _ _ _ _).mono ?_; rintro e w' ⟨rfl, rfl⟩; first | rw [hz_per.out] | rw [hz_cap.out] | rw [hz_hold.out] | rw [hz_lock.out])
            go_ret
            exact ⟨by rw [hE.out, hz_lock.out]; simp, hend.out⟩
          have hz_lock := Lib.hid hz_lock0
          clear hz_lock0
          go_wp2_with (refine (within_any _ _ _ _).mono ?_; rintro e w' ⟨rfl, rfl⟩; first | rw [hz_per.out] | rw [hz_cap.out] | rw [hz_hold.out] | rw [hz_lock.out])
          go_ret
          exact ⟨by rw [hE.out, hy1.out, hy2.out, hjs.out, has.out, hz_per.out, hz_cap.out, hz_hold.out, hz_lock.out]; rfl, hend.out⟩

set_option maxRecDepth 100000 in
set_option maxHeartbeats 8000000 in
theorem config_ref (vJ vA : Value) (Js : List Jd) (Ags : List Ad) (per cap hold lock : Int) (w : World) (hJ : SlE (JElem 60) w w.heap.size vJ Js) (hA : SlE (AElem 60) w w.heap.size vA Ags) (hm1 : Js.length ≤ 1000) (hm2 : Ags.length ≤ 1000) :
    Calls Try.prog 45 #[.agg #[vJ, vA, .int .i64 per, .int .i64 cap, .int .i64 hold, .int .i64 lock]] w fun e w' => e = .returned (.bool (cfgOk Js Ags per cap hold lock)) ∧ Below w.heap.size w w' := by
  obtain ⟨A1, c1, ecs1, rfl, hJ1, hJ2, hJ3⟩ := hJ
  obtain ⟨A2, c2, ecs2, rfl, hA1, hA2, hA3⟩ := hA
  have HJ : Hid (SlE (JElem 60) w w.heap.size (.slice A1 Js.length c1) Js) := ⟨A1, c1, ecs1, rfl, hJ1, hJ2, hJ3⟩
  have HA : Hid (SlE (AElem 60) w w.heap.size (.slice A2 Ags.length c2) Ags) := ⟨A2, c2, ecs2, rfl, hA1, hA2, hA3⟩
  clear hJ1 hJ2 hJ3 hA1 hA2 hA3
  have hE : Hid (cfgOk Js Ags per cap hold lock = (wi Js.length 1 4 && (wi Ags.length 1 4 && (Js.all jOk && (Ags.all agOk && (wi per 1 600 && (wi cap 0 100 && (wi hold 1 60 && wi lock 0 600)))))))) := rfl
  generalize cfgOk Js Ags per cap hold lock = res at hE ⊢
  go_enter Try.func45, Try.ntmps45
  go_upto_region 1 with fail
  have hB : Hid (Box (w.alloc (.cells #[.slice A1 Js.length c1, .slice A2 Ags.length c2, .int .i64 per, .int .i64 cap, .int .i64 hold, .int .i64 lock] 63)) w.heap.size 63 #[.slice A1 Js.length c1, .slice A2 Ags.length c2, .int .i64 per, .int .i64 cap, .int .i64 hold, .int .i64 lock]) := Box.new _ _ _
  have hW : Hid (Below w.heap.size w (w.alloc (.cells #[.slice A1 Js.length c1, .slice A2 Ags.length c2, .int .i64 per, .int .i64 cap, .int .i64 hold, .int .i64 lock] 63))) := (Below.refl _ _).alloc (Nat.le_refl _) _
  generalize (w.alloc (.cells #[.slice A1 Js.length c1, .slice A2 Ags.length c2, .int .i64 per, .int .i64 cap, .int .i64 hold, .int .i64 lock] 63)) = W at hB hW ⊢
  have hWz := hW.out.size
  have a0 := (hB.out).cell 0
  have a1 := (hB.out).cell 1
  have a2 := (hB.out).cell 2
  have a3 := (hB.out).cell 3
  have a4 := (hB.out).cell 4
  have a5 := (hB.out).cell 5
  have az := (hB.out).lt
  simp at a0 a1 a2 a3 a4 a5
  cases hy10 : wi (Js.length : Int) 1 4
  · have hy1 := Lib.hid hy10
    clear hy10
    go_wp2_with (refine (rwithin_any _ _ _ _).mono ?_; rintro e w' ⟨rfl, rfl⟩; rw [hy1.out])
    go_ret
    exact ⟨by rw [hE.out, hy1.out]; rfl, hW.out⟩
  have hy1 := Lib.hid hy10
  clear hy10
  cases hy20 : wi (Ags.length : Int) 1 4
  · have hy2 := Lib.hid hy20
    clear hy20
    go_wp2_with (refine (rwithin_any _ _ _ _).mono ?_; rintro e w' ⟨rfl, rfl⟩; first | rw [hy1.out] | rw [hy2.out])
    go_ret
    exact ⟨by rw [hE.out, hy1.out, hy2.out]; rfl, hW.out⟩
  have hy2 := Lib.hid hy20
  clear hy20
  go_wp2_with (refine (rwithin_any _ _ _ _).mono ?_; rintro e w' ⟨rfl, rfl⟩; first | rw [hy1.out] | rw [hy2.out])
  go_loopw [22] (fun v wr => ∃ k : Nat, k ≤ Js.length ∧ v = .int .i64 k ∧ (∀ i (h : i < Js.length), i < k → jOk Js[i] = true) ∧ Below W.heap.size W wr) (fun v _ => Js.length - (intOf v).toNat)
  case atStart => exact ⟨0, by omega, rfl, fun i h hi => by omega, Below.refl _ _⟩
  case round =>
    obtain ⟨k, hk, rfl, hall, hb⟩ := hrel
    have hallH := Lib.hid hall
    have hbH := Lib.hid hb
    have hz := hb.size
    have hbw : Hid (Below w.heap.size w wr) := hW.out.trans (hb.mono hWz)
    have hbwz := hbw.out.size
    clear hall hb a0 a1 a2 a3 a4 a5 az
    by_cases hlt : k < Js.length
    · have hkl : (k : Int) < (Js.length : Int) := by omega
      obtain ⟨b, off, cc, c, he, hbl, ⟨P1, pc1, P2, pc2, rfl, hp1, hp2, hp3, hp4⟩, hcell⟩ := (slJ_below HJ.out hbw.out).at (k := 3) (by decide) (fun _ _ h => h.len) k hlt
      injection he with he hle hce
      subst he hce
      clear hle
      have g0 := hcell 0 (by decide)
      have g1 := hcell 1 (by decide)
      have g2 := hcell 2 (by decide)
      simp only [List.getElem?_cons_zero, List.getElem?_cons_succ, Nat.add_zero] at g0 g1 g2
      have hbz : b < wr.heap.size := by omega
      have hp1H := Lib.hid hp1
      have hp2H := Lib.hid hp2
      have hno : Hid (jOk Js[k] = false → Js.all jOk = false) := Lib.hid fun h => by
        rw [List.all_eq_false]; exact ⟨_, List.getElem_mem hlt, by simp [h]⟩
      have hdef : Hid (planJ Js[k].P Js[k].C Js[k].s = jOk Js[k]) := rfl
      generalize hjk : Js[k] = d at g0 g1 g2 hp1H hp2H hp3 hp4 hno hdef
      have hjkH := Lib.hid hjk
      clear hcell hp1 hp2 hjk
      obtain ⟨dP, dC, ds⟩ := d
      simp only at g0 g1 g2 hp1H hp2H hp3 hp4 hdef
      go_wp2_with fail
      refine (rplanJ_any P1 P2 pc1 pc2 dP dC ds _ ((hp1H.out.more hbwz).below ((Below.refl _ _).alloc (Nat.le_refl _) _) |>.more (by simp)) hp3 ((hp2H.out.more hbwz).below ((Below.refl _ _).alloc (Nat.le_refl _) _) |>.more (by simp)) hp4).mono ?_; rintro e w5 ⟨rfl, hb5⟩
      have hW5 : Hid (Below W.heap.size W w5) := (hbH.out.alloc hz _).trans (hb5.mono (by simp; omega))
      rw [hdef.out]
      clear hb5 g0 g1 g2
      cases hj0 : jOk ⟨dP, dC, ds⟩
      · have hnoH := Lib.hid (hno.out hj0)
        clear hj0
        go_wp2_with fail
        go_ret
        exact ⟨by rw [hE.out, hnoH.out]; simp, hW.out.trans (hW5.out.mono hWz)⟩
      · have hj := Lib.hid hj0
        clear hj0
        go_wp2_with fail
        go_roundw
        case rel => exact ⟨k + 1, by omega, by go_num, fun i h hi => by
          by_cases hik : i = k
          · subst hik; rw [hjkH.out]; exact hj.out
          · exact hallH.out i h (by omega), hW5.out⟩
        case measure => simp [intOf]; omega
    · have hkl : ¬ (k : Int) < (Js.length : Int) := by omega
      obtain rfl : k = Js.length := by omega
      have hjs : Hid (Js.all jOk = true) := Lib.hid (by
        rw [List.all_eq_true]; intro d hd; obtain ⟨i, hi, rfl⟩ := List.getElem_of_mem hd; exact hallH.out i hi hi)
      obtain ⟨V, rfl⟩ : ∃ x, x = wr := ⟨wr, rfl⟩
      clear hallH
      have a0 := (hB.out.below hbH.out hB.out.lt).cell 0
      have a1 := (hB.out.below hbH.out hB.out.lt).cell 1
      have a2 := (hB.out.below hbH.out hB.out.lt).cell 2
      have a3 := (hB.out.below hbH.out hB.out.lt).cell 3
      have a4 := (hB.out.below hbH.out hB.out.lt).cell 4
      have a5 := (hB.out.below hbH.out hB.out.lt).cell 5
      have az := (hB.out.below hbH.out hB.out.lt).lt
      simp at a0 a1 a2 a3 a4 a5
      go_wp2_with fail
      go_loopw [33] (fun v wr => ∃ k : Nat, k ≤ Ags.length ∧ v = .int .i64 k ∧ (∀ i (h : i < Ags.length), i < k → agOk Ags[i] = true) ∧ Below W.heap.size W wr) (fun v _ => Ags.length - (intOf v).toNat)
      case atStart => exact ⟨0, by omega, rfl, fun i h hi => by omega, hbH.out⟩
      case round =>
        obtain ⟨k, hk, rfl, hall, hb⟩ := hrel
        have hallH := Lib.hid hall
        have hbrH := Lib.hid hb
        have hz2 := hb.size
        have hbw2 : Hid (Below w.heap.size w wr) := hW.out.trans (hb.mono hWz)
        have hbwz2 := hbw2.out.size
        clear hall hb a0 a1 a2 a3 a4 a5 az
        by_cases hlt : k < Ags.length
        · have hkl : (k : Int) < (Ags.length : Int) := by omega
          obtain ⟨b, off, cc, c, he, hbl, ⟨Q1, qc1, Q2, qc2, rfl, hp1, hp3, hp4⟩, hcell⟩ := (slA_below HA.out hbw2.out).at (k := 8) (by decide) (fun _ _ h => h.len) k hlt
          injection he with he hle hce
          subst he hce
          clear hle
          have g0 := hcell 0 (by decide)
          have g1 := hcell 1 (by decide)
          have g2 := hcell 2 (by decide)
          have g3 := hcell 3 (by decide)
          have g4 := hcell 4 (by decide)
          have g5 := hcell 5 (by decide)
          have g6 := hcell 6 (by decide)
          have g7 := hcell 7 (by decide)
          simp only [List.getElem?_cons_zero, List.getElem?_cons_succ, Nat.add_zero] at g0 g1 g2 g3 g4 g5 g6 g7
          have hbz : b < wr.heap.size := by omega
          have hp1H := Lib.hid hp1
          have hno : Hid (agOk Ags[k] = false → Ags.all agOk = false) := Lib.hid fun h => by
            rw [List.all_eq_false]; exact ⟨_, List.getElem_mem hlt, by simp [h]⟩
          generalize hjk : Ags[k] = d at g0 g1 g2 g3 g4 g5 g6 g7 hp1H hp3 hp4 hno
          have hjkH := Lib.hid hjk
          clear hcell hp1 hjk
          obtain ⟨dsl, dri, dcls, dli, drq, dse, dra, dbu⟩ := d
          simp only at g0 g1 g2 g3 g4 g5 g6 g7 hp1H hp3 hp4
          go_wp2_with fail
          refine (agency_ref dsl dri dcls dli drq dse dra dbu Q1 qc1 Q2 qc2 _ ((hp1H.out.more hbwz2).below ((Below.refl _ _).alloc (Nat.le_refl _) _) |>.more (by simp)) (by omega) (by omega)).mono ?_; rintro e w5 ⟨rfl, hb5⟩
          have hW5 : Hid (Below W.heap.size W w5) := (hbrH.out.alloc hz2 _).trans (hb5.mono (by simp; omega))
          clear hb5 g0 g1 g2 g3 g4 g5 g6 g7
          cases hj0 : agOk ⟨dsl, dri, dcls, dli, drq, dse, dra, dbu⟩
          · have hnoH := Lib.hid (hno.out hj0)
            clear hj0
            go_wp2_with fail
            go_ret
            exact ⟨by rw [hE.out, hnoH.out]; simp, hW.out.trans (hW5.out.mono hWz)⟩
          · have hj := Lib.hid hj0
            clear hj0
            go_wp2_with fail
            go_roundw
            case rel => exact ⟨k + 1, by omega, by go_num, fun i h hi => by
              by_cases hik : i = k
              · subst hik; rw [hjkH.out]; exact hj.out
              · exact hallH.out i h (by omega), hW5.out⟩
            case measure => simp [intOf]; omega
        · have hkl : ¬ (k : Int) < (Ags.length : Int) := by omega
          obtain rfl : k = Ags.length := by omega
          have has : Hid (Ags.all agOk = true) := Lib.hid (by
            rw [List.all_eq_true]; intro d hd; obtain ⟨i, hi, rfl⟩ := List.getElem_of_mem hd; exact hallH.out i hi hi)
          have hend : Hid (Below w.heap.size w wr) := hbw2.out
          clear hallH
          have a0 := (hB.out.below hbrH.out hB.out.lt).cell 0
          have a1 := (hB.out.below hbrH.out hB.out.lt).cell 1
          have a2 := (hB.out.below hbrH.out hB.out.lt).cell 2
          have a3 := (hB.out.below hbrH.out hB.out.lt).cell 3
          have a4 := (hB.out.below hbrH.out hB.out.lt).cell 4
          have a5 := (hB.out.below hbrH.out hB.out.lt).cell 5
          have az := (hB.out.below hbrH.out hB.out.lt).lt
          simp at a0 a1 a2 a3 a4 a5
          cases hz_per0 : wi per 1 600
          · have hz_per := Lib.hid hz_per0
            clear hz_per0
            go_wp2_with (refine (rwithin_any _ _ _ _).mono ?_; rintro e w' ⟨rfl, rfl⟩; first | rw [hz_per.out])
            go_ret
            exact ⟨by rw [hE.out, hz_per.out]; simp, hend.out⟩
          have hz_per := Lib.hid hz_per0
          clear hz_per0
          cases hz_cap0 : wi cap 0 100
          · have hz_cap := Lib.hid hz_cap0
            clear hz_cap0
            go_wp2_with (refine (rwithin_any _ _ _ _).mono ?_; rintro e w' ⟨rfl, rfl⟩; first | rw [hz_per.out] | rw [hz_cap.out])
            go_ret
            exact ⟨by rw [hE.out, hz_cap.out]; simp, hend.out⟩
          have hz_cap := Lib.hid hz_cap0
          clear hz_cap0
          cases hz_hold0 : wi hold 1 60
          · have hz_hold := Lib.hid hz_hold0
            clear hz_hold0
            go_wp2_with (refine (rwithin_any _ _ _ _).mono ?_; rintro e w' ⟨rfl, rfl⟩; first | rw [hz_per.out] | rw [hz_cap.out] | rw [hz_hold.out])
            go_ret
            exact ⟨by rw [hE.out, hz_hold.out]; simp, hend.out⟩
          have hz_hold := Lib.hid hz_hold0
          clear hz_hold0
          cases hz_lock0 : wi lock 0 600
          · have hz_lock := Lib.hid hz_lock0
            clear hz_lock0
            go_wp2_with (refine (rwithin_any _ _ _ _).mono ?_; rintro e w' ⟨rfl, rfl⟩; first | rw [hz_per.out] | rw [hz_cap.out] | rw [hz_hold.out] | rw [hz_lock.out])
            go_ret
            exact ⟨by rw [hE.out, hz_lock.out]; simp, hend.out⟩
          have hz_lock := Lib.hid hz_lock0
          clear hz_lock0
          go_wp2_with (refine (rwithin_any _ _ _ _).mono ?_; rintro e w' ⟨rfl, rfl⟩; first | rw [hz_per.out] | rw [hz_cap.out] | rw [hz_hold.out] | rw [hz_lock.out])
          go_ret
          exact ⟨by rw [hE.out, hy1.out, hy2.out, hjs.out, has.out, hz_per.out, hz_cap.out, hz_hold.out, hz_lock.out]; rfl, hend.out⟩

end Go.Proofs.Ytepodpdcillkmaa
