/- Right and Secret of signalbrokermake (printed by tools/genCfgE.py). -/
import Derived.Test.YtepodpdcillkmaaCfgB
namespace Go.Proofs.Ytepodpdcillkmaa
open Go.RowKit
set_option linter.unusedVariables false
set_option linter.unusedSimpArgs false

/-- A raw configuration that is small enough. -/
def Small (Js : List Jd) (Ags : List Ad) : Prop := Js.length ≤ 6 ∧ Ags.length ≤ 6 ∧ (∀ i (h : i < Js.length), Js[i].P.length ≤ 12 ∧ Js[i].C.length ≤ 12) ∧ ∀ i (h : i < Ags.length), Ags[i].sl ≤ 40 ∧ Ags[i].lims.length ≤ 12
def RightPost (Js : List Jd) (Ags : List Ad) (w : World) (e : Ending) (w' : World) : Prop := ∃ b : Bool, e = .returned (.bool b) ∧ (b = true → Small Js Ags) ∧ Below w.heap.size w w'

set_option maxRecDepth 100000 in
set_option maxHeartbeats 8000000 in
theorem right_any (vJ vA : Value) (Js : List Jd) (Ags : List Ad) (per cap hold lock : Int) (w : World) (hJ : SlE (JElem 9223372036854775807) w w.heap.size vJ Js) (hA : SlE (AElem 9223372036854775807) w w.heap.size vA Ags) (hm1 : Js.length ≤ 9223372036854775807) (hm2 : Ags.length ≤ 9223372036854775807) :
    Calls Try.prog 39 #[.agg #[vJ, vA, .int .i64 per, .int .i64 cap, .int .i64 hold, .int .i64 lock]] w fun e w' => RightPost Js Ags w e w' := by
  obtain ⟨A1, c1, ecs1, rfl, hJ1, hJ2, hJ3⟩ := hJ
  obtain ⟨A2, c2, ecs2, rfl, hA1, hA2, hA3⟩ := hA
  have HJ : Hid (SlE (JElem 9223372036854775807) w w.heap.size (.slice A1 Js.length c1) Js) := ⟨A1, c1, ecs1, rfl, hJ1, hJ2, hJ3⟩
  have HA : Hid (SlE (AElem 9223372036854775807) w w.heap.size (.slice A2 Ags.length c2) Ags) := ⟨A2, c2, ecs2, rfl, hA1, hA2, hA3⟩
  clear hJ1 hJ2 hJ3 hA1 hA2 hA3
  have hno : Hid (∀ W', Below w.heap.size w W' → RightPost Js Ags w (.returned (.bool false)) W') := Lib.hid fun W' h => ⟨false, rfl, (fun e => by cases e), h⟩
  go_enter Try.func39, Try.ntmps39
  go_upto_region 1 with fail
  have hB : Hid (Box (w.alloc (.cells #[.slice A1 Js.length c1, .slice A2 Ags.length c2, .int .i64 per, .int .i64 cap, .int .i64 hold, .int .i64 lock] 63)) w.heap.size 63 #[.slice A1 Js.length c1, .slice A2 Ags.length c2, .int .i64 per, .int .i64 cap, .int .i64 hold, .int .i64 lock]) := Box.new _ _ _
  have hW : Hid (Below w.heap.size w (w.alloc (.cells #[.slice A1 Js.length c1, .slice A2 Ags.length c2, .int .i64 per, .int .i64 cap, .int .i64 hold, .int .i64 lock] 63))) := (Below.refl _ _).alloc (Nat.le_refl _) _
  generalize (w.alloc (.cells #[.slice A1 Js.length c1, .slice A2 Ags.length c2, .int .i64 per, .int .i64 cap, .int .i64 hold, .int .i64 lock] 63)) = W at hB hW ⊢
  have hWz := hW.out.size
  have a0 := (hB.out).cell 0
  have a1 := (hB.out).cell 1
  have a2 := (hB.out).cell 2
  have a3 := (hB.out).cell 3
  have a4 := (hB.out).cell 4
  have a5 := (hB.out).cell 5
  have az := (hB.out).lt
  simp at a0 a1 a2 a3 a4 a5
  by_cases h6 : 6 < Js.length
  · have h6i : (6 : Int) < (Js.length : Int) := by omega
    go_wp2_with fail
    go_ret
    exact hno.out _ hW.out
  have h6i : ¬ (6 : Int) < (Js.length : Int) := by omega
  by_cases h7 : 6 < Ags.length
  · have h7i : (6 : Int) < (Ags.length : Int) := by omega
    go_wp2_with fail
    go_ret
    exact hno.out _ hW.out
  have h7i : ¬ (6 : Int) < (Ags.length : Int) := by omega
  go_wp2_with fail
  go_loopw [20] (fun v wr => ∃ k : Nat, k ≤ Js.length ∧ v = .int .i64 k ∧ (∀ i (h : i < Js.length), i < k → Js[i].P.length ≤ 12 ∧ Js[i].C.length ≤ 12) ∧ Below W.heap.size W wr) (fun v _ => Js.length - (intOf v).toNat)
  case atStart => exact ⟨0, by omega, rfl, fun i h hi => by omega, Below.refl _ _⟩
  case round =>
    obtain ⟨k, hk, rfl, hall, hb⟩ := hrel
    have hallH := Lib.hid hall
    have hbH := Lib.hid hb
    have hz := hb.size
    have hbw : Hid (Below w.heap.size w wr) := hW.out.trans (hb.mono hWz)
    have hbwz := hbw.out.size
    clear hall hb a0 a1 a2 a3 a4 a5 az
    by_cases hlt : k < Js.length
    · have hkl : (k : Int) < (Js.length : Int) := by omega
      obtain ⟨b, off, cc, c, he, hbl, ⟨P1, pc1, P2, pc2, rfl, hp1, hp2, hp3, hp4⟩, hcell⟩ := (slJ_below HJ.out hbw.out).at (k := 3) (by decide) (fun _ _ h => h.len) k hlt
      injection he with he hle hce
      subst he hce
      clear hle
      have g0 := hcell 0 (by decide)
      have g1 := hcell 1 (by decide)
      have g2 := hcell 2 (by decide)
      simp only [List.getElem?_cons_zero, List.getElem?_cons_succ, Nat.add_zero] at g0 g1 g2
      have hbz : b < wr.heap.size := by omega
      have hbA : Hid (∀ o, Below W.heap.size W (wr.alloc o)) := Lib.hid fun o => hbH.out.alloc hz _
      generalize hjk : Js[k] = d at g0 g1 g2 hp1 hp2 hp3 hp4
      have hjkH := Lib.hid hjk
      clear hcell hp1 hp2 hjk
      obtain ⟨dP, dC, ds⟩ := d
      simp only at g0 g1 g2 hp3 hp4
      by_cases q1 : 12 < dP.length
      · have q1i : (12 : Int) < (dP.length : Int) := by omega
        go_wp2_with fail
        go_ret
        exact hno.out _ (hW.out.trans ((hbA.out _).mono hWz))
      have q1i : ¬ (12 : Int) < (dP.length : Int) := by omega
      by_cases q2 : 12 < dC.length
      · have q2i : (12 : Int) < (dC.length : Int) := by omega
        go_wp2_with fail
        go_ret
        exact hno.out _ (hW.out.trans ((hbA.out _).mono hWz))
      have q2i : ¬ (12 : Int) < (dC.length : Int) := by omega
      go_wp2_with fail
      go_roundw
      case rel => exact ⟨k + 1, by omega, by go_num, fun i h hi => by
        by_cases hik : i = k
        · subst hik; rw [hjkH.out]; exact ⟨by dsimp only; omega, by dsimp only; omega⟩
        · exact hallH.out i h (by omega), hbA.out _⟩
      case measure => simp [intOf]; omega
    · have hkl : ¬ (k : Int) < (Js.length : Int) := by omega
      obtain rfl : k = Js.length := by omega
      have hjs : Hid (∀ i (h : i < Js.length), Js[i].P.length ≤ 12 ∧ Js[i].C.length ≤ 12) := Lib.hid fun i h => hallH.out i h h
      clear hallH
      have a0 := (hB.out.below hbH.out hB.out.lt).cell 0
      have a1 := (hB.out.below hbH.out hB.out.lt).cell 1
      have a2 := (hB.out.below hbH.out hB.out.lt).cell 2
      have a3 := (hB.out.below hbH.out hB.out.lt).cell 3
      have a4 := (hB.out.below hbH.out hB.out.lt).cell 4
      have a5 := (hB.out.below hbH.out hB.out.lt).cell 5
      have az := (hB.out.below hbH.out hB.out.lt).lt
      simp at a0 a1 a2 a3 a4 a5
      go_wp2_with fail
      go_loopw [38] (fun v wr => ∃ k : Nat, k ≤ Ags.length ∧ v = .int .i64 k ∧ (∀ i (h : i < Ags.length), i < k → Ags[i].sl ≤ 40 ∧ Ags[i].lims.length ≤ 12) ∧ Below W.heap.size W wr) (fun v _ => Ags.length - (intOf v).toNat)
      case atStart => exact ⟨0, by omega, rfl, fun i h hi => by omega, hbH.out⟩
      case round =>
        obtain ⟨k, hk, rfl, hall, hb⟩ := hrel
        have hallH := Lib.hid hall
        have hbrH := Lib.hid hb
        have hz2 := hb.size
        have hbw2 : Hid (Below w.heap.size w wr) := hW.out.trans (hb.mono hWz)
        have hbwz2 := hbw2.out.size
        clear hall hb a0 a1 a2 a3 a4 a5 az
        by_cases hlt : k < Ags.length
        · have hkl : (k : Int) < (Ags.length : Int) := by omega
          obtain ⟨b, off, cc, c, he, hbl, ⟨Q1, qc1, Q2, qc2, rfl, hp1, hp3, hp4⟩, hcell⟩ := (slA_below HA.out hbw2.out).at (k := 8) (by decide) (fun _ _ h => h.len) k hlt
          injection he with he hle hce
          subst he hce
          clear hle
          have g0 := hcell 0 (by decide)
          have g1 := hcell 1 (by decide)
          have g2 := hcell 2 (by decide)
          have g3 := hcell 3 (by decide)
          have g4 := hcell 4 (by decide)
          have g5 := hcell 5 (by decide)
          have g6 := hcell 6 (by decide)
          have g7 := hcell 7 (by decide)
          simp only [List.getElem?_cons_zero, List.getElem?_cons_succ, Nat.add_zero] at g0 g1 g2 g3 g4 g5 g6 g7
          have hbz : b < wr.heap.size := by omega
          have hbA : Hid (∀ o, Below W.heap.size W (wr.alloc o)) := Lib.hid fun o => hbrH.out.alloc hz2 _
          generalize hjk : Ags[k] = d at g0 g1 g2 g3 g4 g5 g6 g7 hp1 hp3 hp4
          have hjkH := Lib.hid hjk
          clear hcell hp1 hjk
          obtain ⟨dsl, dri, dcls, dli, drq, dse, dra, dbu⟩ := d
          simp only at g0 g1 g2 g3 g4 g5 g6 g7 hp3 hp4
          by_cases q1 : 40 < dsl
          · have q1i : (40 : Int) < (dsl : Int) := by omega
            go_wp2_with fail
            go_ret
            exact hno.out _ (hW.out.trans ((hbA.out _).mono hWz))
          have q1i : ¬ (40 : Int) < (dsl : Int) := by omega
          by_cases q2 : 12 < dli.length
          · have q2i : (12 : Int) < (dli.length : Int) := by omega
            go_wp2_with fail
            go_ret
            exact hno.out _ (hW.out.trans ((hbA.out _).mono hWz))
          have q2i : ¬ (12 : Int) < (dli.length : Int) := by omega
          go_wp2_with fail
          go_roundw
          case rel => exact ⟨k + 1, by omega, by go_num, fun i h hi => by
            by_cases hik : i = k
            · subst hik; rw [hjkH.out]; exact ⟨by dsimp only; omega, by dsimp only; omega⟩
            · exact hallH.out i h (by omega), hbA.out _⟩
          case measure => simp [intOf]; omega
        · have hkl : ¬ (k : Int) < (Ags.length : Int) := by omega
          obtain rfl : k = Ags.length := by omega
          go_wp2_with fail
          go_ret
          exact ⟨true, rfl, fun _ => ⟨by omega, by omega, hjs.out, fun i h => hallH.out i h h⟩, hbw2.out⟩

theorem own_cap8 {w : World} {base g n n' cap : Nat} {e : TypeId} {size : Nat} {xs : List Value} (h : w.ownsRow base e size (.slice (some ⟨g, 0, none⟩) n cap) n' xs) : n' ≤ cap := by
  obtain ⟨_, h2⟩ := h
  rcases h2 with ⟨hv, _⟩ | ⟨g', cap', cur, hv, _, _, hle, _⟩
  · cases hv
  · injection hv with _ _ e2
    omega

/-- What Secret leaves. -/
def SecPost (w : World) (e : Ending) (w' : World) : Prop := ∃ g cap, e = .returned (.slice (some ⟨g, 0, none⟩) 8 cap) ∧ 8 ≤ cap ∧ Below w.heap.size w w'
theorem byte_info : (Try.prog.info? 5).map (fun i => (i.zero, i.size, i.bytes)) = some (some (.int .u8 0), 1, 1) := by kernel_rfl
set_option maxRecDepth 100000 in
set_option maxHeartbeats 8000000 in
theorem secret_any (n : Int) (w : World) :
    Calls Try.prog 41 #[.int .i64 n] w fun e w' => SecPost w e w' := by
  obtain ⟨i0, hi0, hz0, hz1, hz2⟩ := info_parts byte_info
  go_enter Try.func41, Try.ntmps41
  go_wp2_with fail
  go_loopw [3, 5] (fun v3 v5 wr => ∃ (k : Nat) (xs : List Value), k ≤ 8 ∧ v5 = .int .i64 k ∧ wr.ownsRow w.heap.size 5 1 v3 k xs ∧ Below w.heap.size w wr) (fun _ v5 _ => 8 - (intOf v5).toNat)
  case atStart => exact ⟨0, [], by omega, rfl, World.ownsRow_nil _ _ _ _, Below.refl _ _⟩
  case round =>
    obtain ⟨k, xs, hk, rfl, hown, hb⟩ := hrel
    have hownH := Lib.hid hown
    have hbH := Lib.hid hb
    have hz := hb.size
    clear hown hb
    by_cases hlt : k < 8
    · have hki : (k : Int) < 8 := by omega
      go_wp2_with (at_builtin; refine wpList_append_own _ rfl (.tmp 8) (.tmp 21) 64 rfl w.heap.size 5 i0 (.int .u8 0) 1 1 Try.underlying64 hi0 hz0 hz1 hz2 rfl (by decide) _ _ _ rfl (hownH.out.alloc _) ⟨wr.heap.size, 0, none⟩ 1 1 [.int .u8 (bits .xor .u8 (IntKind.u64.wrap n / 2 ^ (8 * k) % 256) (29 * (k : Int) + 7))] rfl rfl ?c1 ?c2 ?c3 ?c4 ?c5 ?_)
      case c1 => exact fun j u hu => news_new wr [_] _ j u hu
      case c2 => intro u hu; simp at hu; subst hu; rfl
      case c3 => unfold maxLen; omega
      case c4 => omega
      case c5 => simp; omega
      intro v2 w5 hown5 hg5 _
      have hbG : Hid (Below w.heap.size w w5) := Below.grown (hbH.out.alloc hz _) hg5 (by simp; omega) (fun q hq => (hownH.out.lt q hq).1)
      have hown5H := Lib.hid hown5
      clear hown5 hg5
      go_wp2_with fail
      go_roundw
      case rel => exact ⟨k + 1, _, by omega, by go_num, hown5H.out, hbG.out⟩
      case measure => simp [intOf]; omega
    · have hki : ¬ (k : Int) < 8 := by omega
      obtain rfl : k = 8 := by omega
      obtain ⟨g, cap, hv⟩ := Joins.ownsRow_form hownH.out (by omega)
      subst hv
      have hcap := own_cap8 hownH.out
      go_wp2_with fail
      go_ret
      exact ⟨g, cap, rfl, hcap, hbH.out⟩

end Go.Proofs.Ytepodpdcillkmaa
