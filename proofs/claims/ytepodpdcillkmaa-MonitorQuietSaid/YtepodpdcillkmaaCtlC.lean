/- candidate and begin of the reference's layer 9. -/
import Derived.Test.YtepodpdcillkmaaCtlB
namespace Go.Proofs.Ytepodpdcillkmaa
open Go.RowKit
set_option linter.unusedVariables false
set_option linter.unusedSimpArgs false

theorem cf_table (P : List Ph) (ex : Bool) (p q : Nat) (hp : p < P.length) (hq : q < P.length) : cf (ints (tableOf P ex)) p q = conf P ex p q := by
  rw [SymM.cf p q (by rw [tableOf_length]; exact hp) (by rw [tableOf_length]; exact hq), table_bit P ex p q hp hq]
theorem rconf_at (A : Option Addr) (cap B n : Nat) (c : List Int) (p q : Int) (w : World) (hc : c.length = n) (hA : Ints w B A c) (hn : n ≤ 60) :
    Calls Try.prog 26 #[.slice A n cap, .int .i64 p, .int .i64 q] w fun e w' => e = .returned (.bool (cf c p q)) ∧ w = w' := by
  subst hc
  exact rconflict_any A cap B c p q w hA hn

/-- No phase, or one of n. -/
def QOk (n : Nat) (z : Int) : Prop := z = -1 ∨ (0 ≤ z ∧ z < n)
def RetQ (n : Nat) (w : World) (e : Ending) (w' : World) : Prop := ∃ z, e = .returned (.int .i64 z) ∧ QOk n z ∧ Below w.heap.size w w'

set_option maxRecDepth 100000 in
set_option maxHeartbeats 4000000 in
theorem cand_any (A A2 : Option Addr) (cap n2 cap2 : Nat) (P : List Ph) (C : List Int) (s : Int) (A3 : Option Addr) (n3 cap3 : Nat) (gr : Int) (A4 : Option Addr) (cap4 : Nat) (N : List Int) (wt : Int) (r t : Nat) (w : World)
    (hA : Phs w w.heap.size A P) (hm : P.length ≤ 8) (hC : C.length = n2) (hC60 : n2 ≤ 60) (hA2 : Ints w w.heap.size A2 C) (hN : N.length = 2) (hA4 : Ints w w.heap.size A4 N) (hr : r < 2) (ht : t < P.length) :
    Calls Try.prog 65 #[.agg #[.slice A P.length cap, .slice A2 n2 cap2, .int .i64 s], .agg #[.slice A3 n3 cap3, .int .i64 gr, .slice A4 2 cap4, .int .i64 wt], .int .i64 r, .int .i64 t] w
      fun e w' => RetQ P.length w e w' := by
  have HA := Lib.hid hA
  have HA2 := Lib.hid hA2
  have HA4 := Lib.hid hA4
  have hCH := Lib.hid hC
  have hNH := Lib.hid hN
  obtain ⟨bt, offt, hAe, hblt, hatt⟩ := hA t ht
  subst hAe
  have ct := hatt.c0
  generalize (P.getD t pz).r = tr at ct
  have htl : (t : Int) < (P.length : Int) := by omega
  have hri : (r : Int) < 2 := by omega
  clear hA hA2 hA4 hC hN hatt
  go_enter Try.func65, Try.ntmps65
  by_cases htr : tr = r
  · subst htr
    go_wp2_with fail
    go_ret
    exact ⟨_, rfl, .inr ⟨by omega, by omega⟩, ((Below.refl _ _).alloc (Nat.le_refl _) _).alloc (by simp) _⟩
  have htr' : (tr == (r : Int)) = false := by simp [htr]
  go_wp2_with fail
  have hW : Below w.heap.size w ((w.alloc (.cells #[.slice (some ⟨bt, offt, none⟩) P.length cap, .slice A2 n2 cap2, .int .i64 s] 26)).alloc (.cells #[.slice A3 n3 cap3, .int .i64 gr, .slice A4 2 cap4, .int .i64 wt] 35)) := ((Below.refl _ _).alloc (Nat.le_refl _) _).alloc (by simp) _
  have hBJ : Hid (Box ((w.alloc (.cells #[.slice (some ⟨bt, offt, none⟩) P.length cap, .slice A2 n2 cap2, .int .i64 s] 26)).alloc (.cells #[.slice A3 n3 cap3, .int .i64 gr, .slice A4 2 cap4, .int .i64 wt] 35)) w.heap.size 26 #[.slice (some ⟨bt, offt, none⟩) P.length cap, .slice A2 n2 cap2, .int .i64 s]) := (Box.new _ _ _).alloc _
  have hBC : Hid (Box ((w.alloc (.cells #[.slice (some ⟨bt, offt, none⟩) P.length cap, .slice A2 n2 cap2, .int .i64 s] 26)).alloc (.cells #[.slice A3 n3 cap3, .int .i64 gr, .slice A4 2 cap4, .int .i64 wt] 35)) (w.heap.size + 1) 35 #[.slice A3 n3 cap3, .int .i64 gr, .slice A4 2 cap4, .int .i64 wt]) := boxNew2 _ _ _ _
  have hWz : ((w.alloc (.cells #[.slice (some ⟨bt, offt, none⟩) P.length cap, .slice A2 n2 cap2, .int .i64 s] 26)).alloc (.cells #[.slice A3 n3 cap3, .int .i64 gr, .slice A4 2 cap4, .int .i64 wt] 35)).heap.size = w.heap.size + 2 := by simp
  generalize ((w.alloc (.cells #[.slice (some ⟨bt, offt, none⟩) P.length cap, .slice A2 n2 cap2, .int .i64 s] 26)).alloc (.cells #[.slice A3 n3 cap3, .int .i64 gr, .slice A4 2 cap4, .int .i64 wt] 35)) = W at hW hBJ hBC hWz ⊢
  have hWH := Lib.hid hW
  have hWz1 : w.heap.size + 2 ≤ W.heap.size := by omega
  clear hW hWz ct hblt
  go_loopw [9, 24] (fun v9 v24 wr => ∃ (k : Nat) (z : Int), k ≤ P.length ∧ v24 = .int .i64 k ∧ v9 = .int .i64 z ∧ QOk P.length z ∧ Below W.heap.size W wr) (fun _ v24 _ => P.length - (intOf v24).toNat)
  case atStart => exact ⟨0, -1, by omega, rfl, rfl, .inl rfl, Below.refl _ _⟩
  case round =>
    obtain ⟨k, z, hk, rfl, rfl, hz, hb⟩ := hrel
    have hbH := Lib.hid hb
    have hzs := hb.size
    have hzH := Lib.hid hz
    clear hb hz
    by_cases hlt : k < P.length
    · have hkl : (k : Int) < (P.length : Int) := by omega
      have hbw : Hid (Below w.heap.size w wr) := hWH.out.trans (hbH.out.mono (by omega))
      obtain ⟨b, off, hAe, hbl, hat⟩ := (HA.out.below hbw.out) k hlt
      injection hAe with hAe
      injection hAe with e1 e2
      subst e1 e2
      obtain ⟨b4, off4, rfl, hbl4, hn0⟩ := (HA4.out.below hbw.out) r (by rw [hNH.out]; exact hr)
      have c0 := hat.c0
      have c1 := hat.c1
      have c2 := hat.c2
      have c3 := hat.c3
      have c4 := hat.c4
      have c5 := hat.c5
      have c6 := hat.c6
      have c7 := hat.c7
      clear hat
      generalize P.getD k pz = ph at c0 c1 c2 c3 c4 c5 c6 c7
      generalize N.getD r 0 = nr at hn0
      have hbxJ := hBJ.out.below hbH.out (by omega)
      have j0 := hbxJ.cell 0
      have j1 := hbxJ.cell 1
      have jz := hbxJ.lt
      have hbxC := hBC.out.below hbH.out (by omega)
      have k2 := hbxC.cell 2
      have kz := hbxC.lt
      simp at j0 j1 k2
      clear hbxJ hbxC
      have hbz : bt < wr.heap.size := by omega
      have hbz4 : b4 < wr.heap.size := by omega
      have hC2 : Hid (∀ o, Ints (wr.alloc o) w.heap.size A2 C) := Lib.hid fun o => (HA2.out.below hbw.out).below ((Below.refl _ _).alloc (by omega) _)
      have hbA : Hid (∀ o, Below W.heap.size W (wr.alloc o)) := Lib.hid fun o => hbH.out.alloc (by omega) _
      by_cases hr0 : ph.r = r
      · have hr1 : (ph.r != (r : Int)) = false := by simp [hr0]
        have hr2 := Lib.hid hr0
        clear hr0
        go_wp2_with fail
        refine (rconf_at _ _ _ _ C k t _ hCH.out (hC2.out _) hC60).mono ?_; rintro e w' ⟨rfl, rfl⟩
        cases hcf : cf C k t
        · by_cases hz0 : z < 0
          · by_cases hn : 0 ≤ nr
            · by_cases hkn : nr ≤ k
              · go_wp2_with fail
                go_ret
                exact ⟨_, rfl, .inr ⟨by omega, by omega⟩, hWH.out.trans ((hbA.out _).mono (by omega))⟩
              · have hkn' : (k : Int) < nr := by omega
                go_wp2_with fail
                go_roundw
                case rel => exact ⟨k + 1, k, by omega, by go_num, rfl, .inr ⟨by omega, by omega⟩, hbA.out _⟩
                case measure => simp [intOf]; omega
            · have hn' : nr < 0 := by omega
              go_wp2_with fail
              go_roundw
              case rel => exact ⟨k + 1, k, by omega, by go_num, rfl, .inr ⟨by omega, by omega⟩, hbA.out _⟩
              case measure => simp [intOf]; omega
          · have hz0' : 0 ≤ z := by omega
            by_cases hn : 0 ≤ nr
            · by_cases hkn : nr ≤ k
              · go_wp2_with fail
                go_ret
                exact ⟨_, rfl, .inr ⟨by omega, by omega⟩, hWH.out.trans ((hbA.out _).mono (by omega))⟩
              · have hkn' : (k : Int) < nr := by omega
                go_wp2_with fail
                go_roundw
                case rel => exact ⟨k + 1, z, by omega, by go_num, rfl, hzH.out, hbA.out _⟩
                case measure => simp [intOf]; omega
            · have hn' : nr < 0 := by omega
              go_wp2_with fail
              go_roundw
              case rel => exact ⟨k + 1, z, by omega, by go_num, rfl, hzH.out, hbA.out _⟩
              case measure => simp [intOf]; omega
        · go_wp2_with fail
          go_roundw
          case rel => exact ⟨k + 1, z, by omega, by go_num, rfl, hzH.out, hbA.out _⟩
          case measure => simp [intOf]; omega
      · have hr1 : (ph.r != (r : Int)) = true := by simp [hr0]
        go_wp2_with fail
        go_roundw
        case rel => exact ⟨k + 1, z, by omega, by go_num, rfl, hzH.out, hbA.out _⟩
        case measure => simp [intOf]; omega
    · have hkl : ¬ (k : Int) < (P.length : Int) := by omega
      go_wp2_with fail
      go_ret
      exact ⟨_, rfl, hzH.out, hWH.out.trans (hbH.out.mono (by omega))⟩

end Go.Proofs.Ytepodpdcillkmaa
