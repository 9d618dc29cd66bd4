/- The lights of the reference's layer 8; idle and Set of layer 9. -/
import Derived.Test.YtepodpdcillkmaaCtlA
namespace Go.Proofs.Ytepodpdcillkmaa
open Go.RowKit
set_option linter.unusedVariables false
set_option linter.unusedSimpArgs false

/-- A light that fits its phase. -/
def LtOk (p : Ph) (l : Lt) : Prop :=
  (l.m = 0 ∧ l.t = 0) ∨ (l.m = 1 ∧ 0 ≤ l.t ∧ l.t ≤ 1073741824) ∨ (l.m = 2 ∧ 0 ≤ l.t ∧ l.t < p.ye) ∨ (l.m = 3 ∧ 0 ≤ l.t ∧ l.t < p.re)

/-- The call returns some number, some Boolean. -/
def RetI (w : World) (e : Ending) (w' : World) : Prop := ∃ v, e = .returned (.int .i64 v) ∧ Below w.heap.size w w'
def RetB (w : World) (e : Ending) (w' : World) : Prop := ∃ b, e = .returned (.bool b) ∧ Below w.heap.size w w'

set_option maxRecDepth 100000 in
theorem need_any (p : Ph) (w : World) :
    Calls Try.prog 69 #[.agg #[.int .i64 p.r, .int .i64 p.g, .int .i64 p.mn, .int .i64 p.mx, .int .i64 p.ye, .int .i64 p.re, .int .i64 p.wa, .int .i64 p.cl]] w fun e w' => RetI w e w' := by
  go_enter Try.func69, Try.ntmps69
  go_wp2_with fail
  all_goals
    go_ret
    exact ⟨_, rfl, (Below.refl _ _).alloc (Nat.le_refl _) _⟩

/-- What the reference's Step of a light leaves. -/
def Step8Post (p : Ph) (l : Lt) (w : World) (e : Ending) (w' : World) : Prop :=
  ∃ m t : Int, e = .returned (.agg #[.int .i64 m, .int .i64 t]) ∧ LtOk p ⟨m, t⟩ ∧ (m ≠ 0 → l.m ≠ 0) ∧ Below w.heap.size w w'

set_option maxRecDepth 100000 in
set_option maxHeartbeats 2000000 in
theorem valid8_any (p : Ph) (l : Lt) (w : World) (h : LtOk p l) :
    Calls Try.prog 52 #[.agg #[.int .i64 p.r, .int .i64 p.g, .int .i64 p.mn, .int .i64 p.mx, .int .i64 p.ye, .int .i64 p.re, .int .i64 p.wa, .int .i64 p.cl], .agg #[.int .i64 l.m, .int .i64 l.t]] w
      fun e w' => e = .returned (.bool true) ∧ Below w.heap.size w w' := by
  obtain ⟨m, t⟩ := l
  have hfin : Hid (∀ o1 o2, Below w.heap.size w ((w.alloc o1).alloc o2)) := Lib.hid fun o1 o2 => ((Below.refl _ _).alloc (Nat.le_refl _) _).alloc (by simp) _
  rcases h with ⟨h0, h1⟩ | ⟨h0, h1, h2⟩ | ⟨h0, h1, h2⟩ | ⟨h0, h1, h2⟩
  · simp only at h0 h1
    subst h0 h1
    go_enter Try.func52, Try.ntmps52
    go_wp2_with fail
    go_ret
    exact ⟨rfl, hfin.out _ _⟩
  · simp only at h0 h1 h2
    subst h0
    go_enter Try.func52, Try.ntmps52
    go_wp2_with fail
    go_ret
    exact ⟨rfl, hfin.out _ _⟩
  · simp only at h0 h1 h2
    subst h0
    go_enter Try.func52, Try.ntmps52
    go_wp2_with fail
    go_ret
    exact ⟨rfl, hfin.out _ _⟩
  · simp only at h0 h1 h2
    subst h0
    go_enter Try.func52, Try.ntmps52
    go_wp2_with fail
    go_ret
    exact ⟨rfl, hfin.out _ _⟩

set_option maxRecDepth 100000 in
set_option maxHeartbeats 2000000 in
theorem idle_any (A A2 : Option Addr) (cap n2 cap2 : Nat) (P : List Ph) (s : Int) (A3 : Option Addr) (cap3 : Nat) (L : List Lt) (gr : Int) (A4 : Option Addr) (n4 cap4 : Nat) (wt r : Int) (w : World) (hA : Phs w w.heap.size A P) (hm : P.length ≤ 1000) (hL : Lts w w.heap.size A3 L) (hl : L.length = P.length) :
    Calls Try.prog 66 #[.agg #[.slice A P.length cap, .slice A2 n2 cap2, .int .i64 s], .agg #[.slice A3 P.length cap3, .int .i64 gr, .slice A4 n4 cap4, .int .i64 wt], .int .i64 r] w
      fun e w' => RetB w e w' := by
  have HA := Lib.hid hA
  have HL := Lib.hid hL
  have hlH := Lib.hid hl
  clear hA hL hl
  go_enter Try.func66, Try.ntmps66
  go_wp2_with fail
  have hW : Below w.heap.size w ((w.alloc (.cells #[.slice A P.length cap, .slice A2 n2 cap2, .int .i64 s] 26)).alloc (.cells #[.slice A3 P.length cap3, .int .i64 gr, .slice A4 n4 cap4, .int .i64 wt] 35)) := ((Below.refl _ _).alloc (Nat.le_refl _) _).alloc (by simp) _
  have hBJ : Hid (Box ((w.alloc (.cells #[.slice A P.length cap, .slice A2 n2 cap2, .int .i64 s] 26)).alloc (.cells #[.slice A3 P.length cap3, .int .i64 gr, .slice A4 n4 cap4, .int .i64 wt] 35)) w.heap.size 26 #[.slice A P.length cap, .slice A2 n2 cap2, .int .i64 s]) := (Box.new _ _ _).alloc _
  have hWz : ((w.alloc (.cells #[.slice A P.length cap, .slice A2 n2 cap2, .int .i64 s] 26)).alloc (.cells #[.slice A3 P.length cap3, .int .i64 gr, .slice A4 n4 cap4, .int .i64 wt] 35)).heap.size = w.heap.size + 2 := by simp
  generalize ((w.alloc (.cells #[.slice A P.length cap, .slice A2 n2 cap2, .int .i64 s] 26)).alloc (.cells #[.slice A3 P.length cap3, .int .i64 gr, .slice A4 n4 cap4, .int .i64 wt] 35)) = W at hW hBJ hWz ⊢
  have hWH := Lib.hid hW
  have hWz1 : w.heap.size + 2 ≤ W.heap.size := by omega
  clear hW hWz
  go_loopw [12] (fun v12 wr => ∃ k : Nat, k ≤ P.length ∧ v12 = .int .i64 k ∧ Below W.heap.size W wr) (fun v12 _ => P.length - (intOf v12).toNat)
  case atStart => exact ⟨0, by omega, rfl, Below.refl _ _⟩
  case round =>
    obtain ⟨k, hk, rfl, hb⟩ := hrel
    have hbH := Lib.hid hb
    have hz := hb.size
    clear hb
    by_cases hlt : k < P.length
    · have hkl : (k : Int) < (P.length : Int) := by omega
      have hbw : Hid (Below w.heap.size w wr) := hWH.out.trans (hbH.out.mono (by omega))
      obtain ⟨b, off, rfl, hbl, hat⟩ := (HA.out.below hbw.out) k hlt
      obtain ⟨b3, off3, rfl, hbl3, l0, l1⟩ := (HL.out.below hbw.out) k (by rw [hlH.out]; exact hlt)
      have c0 := hat.c0
      clear hat
      generalize (P.getD k pz).r = pr at c0
      generalize (L.getD k lz).m = lm at l0
      generalize (L.getD k lz).t = lt at l1
      have hbx := hBJ.out.below hbH.out (by omega)
      have j0 := hbx.cell 0
      have jz := hbx.lt
      simp at j0
      clear hbx
      have hbz : b < wr.heap.size := by omega
      have hbz3 : b3 < wr.heap.size := by omega
      by_cases hr : pr = r
      · by_cases h0 : lm = 0
        · subst h0 hr
          go_wp2_with fail
          go_roundw
          case rel => exact ⟨k + 1, by omega, by go_num, hbH.out.alloc (by omega) _⟩
          case measure => simp [intOf]; omega
        · have h0' : (lm != 0) = true := by simp [h0]
          subst hr
          go_wp2_with fail
          go_ret
          exact ⟨_, rfl, hbw.out.alloc (by omega) _⟩
      · have hr' : (pr == r) = false := by simp [hr]
        go_wp2_with fail
        go_roundw
        case rel => exact ⟨k + 1, by omega, by go_num, hbH.out.alloc (by omega) _⟩
        case measure => simp [intOf]; omega
    · have hkl : ¬ (k : Int) < (P.length : Int) := by omega
      go_wp2_with fail
      go_ret
      exact ⟨_, rfl, hWH.out.trans (hbH.out.mono (by omega))⟩

/-- The lights other than red. -/
def onL (L : List Lt) (i : Nat) : Bool := (L.getD i lz).m != 0

set_option maxRecDepth 100000 in
set_option maxHeartbeats 2000000 in
theorem set_any (A3 : Option Addr) (cap3 n : Nat) (L : List Lt) (gr : Int) (A4 : Option Addr) (n4 cap4 : Nat) (wt : Int) (w : World) (hL : Lts w w.heap.size A3 L) (hl : L.length = n) (hm : n ≤ 8) :
    Calls Try.prog 53 #[.agg #[.slice A3 n cap3, .int .i64 gr, .slice A4 n4 cap4, .int .i64 wt]] w
      fun e w' => e = .returned (.int .i64 ((bitsTo (onL L) n : Nat) : Int)) ∧ Below w.heap.size w w' := by
  have HL := Lib.hid hL
  have hlH := Lib.hid hl
  clear hL hl
  go_enter Try.func53, Try.ntmps53
  go_wp2_with fail
  have hW : Below w.heap.size w (w.alloc (.cells #[.slice A3 n cap3, .int .i64 gr, .slice A4 n4 cap4, .int .i64 wt] 35)) := (Below.refl _ _).alloc (Nat.le_refl _) _
  generalize (w.alloc (.cells #[.slice A3 n cap3, .int .i64 gr, .slice A4 n4 cap4, .int .i64 wt] 35)) = W at hW ⊢
  have hWH := Lib.hid hW
  have hWz1 := hW.size
  clear hW
  go_loopw [3, 9] (fun v3 v9 wr => ∃ k : Nat, k ≤ n ∧ v9 = .int .i64 k ∧ v3 = .int .i64 ((bitsTo (onL L) k : Nat) : Int) ∧ Below W.heap.size W wr) (fun _ v9 _ => n - (intOf v9).toNat)
  case atStart => exact ⟨0, by omega, rfl, rfl, Below.refl _ _⟩
  case round =>
    obtain ⟨k, hk, rfl, rfl, hb⟩ := hrel
    have hbH := Lib.hid hb
    have hz := hb.size
    clear hb
    by_cases hlt : k < n
    · have hkl : (k : Int) < (n : Int) := by omega
      have hbw : Hid (Below w.heap.size w wr) := hWH.out.trans (hbH.out.mono (by omega))
      obtain ⟨b3, off3, rfl, hbl3, l0, l1⟩ := (HL.out.below hbw.out) k (by rw [hlH.out]; exact hlt)
      have hon : Hid (onL L k = ((L.getD k lz).m != 0)) := rfl
      generalize (L.getD k lz).m = lm at l0 hon
      generalize (L.getD k lz).t = lt at l1
      have hbz3 : b3 < wr.heap.size := by omega
      have hlt8 := bitsTo_lt (onL L) k
      by_cases h0 : lm = 0
      · have hbt := Lib.hid (bitsTo_no (onL L) k (by rw [hon.out, h0]; rfl))
        have hb0 : (lm != 0) = false := by simp [h0]
        clear h0
        go_wp2_with fail
        go_roundw
        case rel => exact ⟨k + 1, by omega, by go_num, by rw [hbt.out], hbH.out.alloc (by omega) _⟩
        case measure => simp [intOf]; omega
      · have hb0 : (lm != 0) = true := by simp [h0]
        have hbt := Lib.hid (bitsTo_yes (onL L) k (by rw [hon.out]; exact hb0))
        obtain ⟨hp0, hp1⟩ := pow_le_256 k (by omega)
        go_wp2_with fail
        go_roundw
        case rel => exact ⟨k + 1, by omega, by go_num, by rw [hbt.out]; exact congrArg (Value.int .i64) (bits_add _ _ (by omega)), hbH.out.alloc (by omega) _⟩
        case measure => simp [intOf]; omega
    · obtain rfl : k = n := by omega
      have hkl : ¬ (k : Int) < (k : Int) := by omega
      go_wp2_with fail
      go_ret
      exact ⟨rfl, hWH.out.trans (hbH.out.mono (by omega))⟩

set_option maxRecDepth 100000 in
set_option maxHeartbeats 4000000 in
theorem step8_any (p : Ph) (l : Lt) (lv : Bool) (w : World) (h : LtOk p l) (hy : 1 ≤ p.ye) (hy2 : p.ye ≤ 1000000) (hr2 : p.re ≤ 1000000) :
    Calls Try.prog 64 #[.agg #[.int .i64 p.r, .int .i64 p.g, .int .i64 p.mn, .int .i64 p.mx, .int .i64 p.ye, .int .i64 p.re, .int .i64 p.wa, .int .i64 p.cl], .agg #[.int .i64 l.m, .int .i64 l.t], .bool lv] w
      fun e w' => Step8Post p l w e w' := by
  obtain ⟨m, t⟩ := l
  have ht : 0 ≤ t ∧ t ≤ 1073741824 := by
    unfold LtOk at h
    dsimp only at h
    omega
  have hwt : wrap64 (t + 1) = t + 1 := by unfold wrap64; omega
  obtain ⟨ht0, ht1⟩ := ht
  have hfin : Hid (∀ o1 o2 o3, Below w.heap.size w (((w.alloc o1).alloc o2).alloc o3)) := Lib.hid fun o1 o2 o3 => (((Below.refl _ _).alloc (Nat.le_refl _) _).alloc (by simp) _).alloc (by simp; omega) _
  rcases h with ⟨h0, h1⟩ | ⟨h0, h1, h2⟩ | ⟨h0, h1, h2⟩ | ⟨h0, h1, h2⟩
  · simp only at h0 h1
    subst h0 h1
    go_enter Try.func64, Try.ntmps64
    go_wp2_with fail
    refine bodyPost_ret (v := .agg #[.int .i64 0, .int .i64 (0)]) (by simp [results, Try.results64, go_sem]) rfl ⟨_, _, rfl, .inl ⟨rfl, rfl⟩, id, hfin.out _ _ _⟩
  · simp only at h0 h1 h2
    subst h0
    cases lv
    · skip
      by_cases hM : t + 1 ≤ 1073741824
      · go_enter Try.func64, Try.ntmps64
        go_wp2_with fail
        refine bodyPost_ret (v := .agg #[.int .i64 1, .int .i64 (t + 1)]) (by simp [results, Try.results64, go_sem]) rfl ⟨_, _, rfl, .inr (.inl ⟨rfl, by dsimp only; omega, by dsimp only; omega⟩), by simp, hfin.out _ _ _⟩
      · have hM' : 1073741824 < t + 1 := by omega
        go_enter Try.func64, Try.ntmps64
        go_wp2_with fail
        refine bodyPost_ret (v := .agg #[.int .i64 1, .int .i64 (1073741824)]) (by simp [results, Try.results64, go_sem]) rfl ⟨_, _, rfl, .inr (.inl ⟨rfl, by decide, by decide⟩), by simp, hfin.out _ _ _⟩
    · have hneed := Lib.hid (need_any p)
      go_enter Try.func64, Try.ntmps64
      go_wp2_with fail
      refine (hneed.out _).mono ?_; rintro e w2 ⟨v, rfl, hb2⟩
      have b0 : Hid (Box w2 w.heap.size 55 #[.int .i64 p.r, .int .i64 p.g, .int .i64 p.mn, .int .i64 p.mx, .int .i64 p.ye, .int .i64 p.re, .int .i64 p.wa, .int .i64 p.cl]) := Lib.hid ((((Box.new w 55 #[.int .i64 p.r, .int .i64 p.g, .int .i64 p.mn, .int .i64 p.mx, .int .i64 p.ye, .int .i64 p.re, .int .i64 p.wa, .int .i64 p.cl]).alloc _).alloc _).below hb2 (by simp; omega))
      have b1 : Hid (Box w2 (w.heap.size + 1) 38 #[.int .i64 1, .int .i64 t]) := Lib.hid (((boxNew2 w _ 38 #[.int .i64 1, .int .i64 t]).alloc _).below hb2 (by simp))
      have b2 : Hid (Box w2 (w.heap.size + 2) 38 #[.int .i64 0, .int .i64 0]) := Lib.hid (by
        have h := Box.new ((w.alloc (.cells #[.int .i64 p.r, .int .i64 p.g, .int .i64 p.mn, .int .i64 p.mx, .int .i64 p.ye, .int .i64 p.re, .int .i64 p.wa, .int .i64 p.cl] 55)).alloc (.cells #[.int .i64 1, .int .i64 t] 38)) 38 #[.int .i64 0, .int .i64 0]
        rw [World.size_alloc, World.size_alloc] at h
        exact h.below hb2 (by simp))
      have hall : Hid (Below w.heap.size w w2) := (hfin.out _ _ _).trans (hb2.mono (by simp; omega))
      clear hb2 hneed
      have e12 : w.heap.size + 1 + 1 = w.heap.size + 2 := rfl
      have x1 := b0.out.cell 4
      have x2 := b0.out.cell 5
      have y0 := b1.out.cell 0
      have y1 := b1.out.cell 1
      have v0 := b2.out.cell 0
      have v1 := b2.out.cell 1
      have f0 := b2.out.frozen 0
      have f1 := b2.out.frozen 1
      simp at x1 x2 y0 y1 v0 v1
      have k0 := b0.out.lt
      have k1 := b1.out.lt
      have k2 := b2.out.lt
      by_cases hv : v ≤ t + 1
      · go_wp2_with fail
        trace_state
        have hRF : Hid (Box ((w2.setCell ⟨w.heap.size + 2, 0, none⟩ (.int .i64 2)).setCell ⟨w.heap.size + 2, 1, none⟩ (.int .i64 (0))) (w.heap.size + 2) 38 #[.int .i64 2, .int .i64 (0)]) := (b2.out.put 0 _).put_eq (i := 1) (by simp)
        have hend : Hid (Below w.heap.size w ((w2.setCell ⟨w.heap.size + 2, 0, none⟩ (.int .i64 2)).setCell ⟨w.heap.size + 2, 1, none⟩ (.int .i64 (0)))) := (hall.out.setCell (by dsimp only; omega) _).setCell (by dsimp only; omega) _
        generalize ((w2.setCell ⟨w.heap.size + 2, 0, none⟩ (.int .i64 2)).setCell ⟨w.heap.size + 2, 1, none⟩ (.int .i64 (0))) = WF at hRF hend ⊢
        have z0 := hRF.out.cell 0
        have z1 := hRF.out.cell 1
        have zz := hRF.out.lt
        simp at z0 z1
        refine bodyPost_ret (v := .agg #[.int .i64 2, .int .i64 (0)]) (by simp [results, Try.results64, go_sem, z0, z1, zz]) rfl ⟨_, _, rfl, .inr (.inr (.inl ⟨rfl, by decide, by dsimp only; omega⟩)), by simp, hend.out⟩
      · have hv' : t + 1 < v := by omega
        by_cases hM : t + 1 ≤ 1073741824
        · go_wp2_with fail
          have hRF : Hid (Box ((w2.setCell ⟨w.heap.size + 2, 0, none⟩ (.int .i64 1)).setCell ⟨w.heap.size + 2, 1, none⟩ (.int .i64 (t + 1))) (w.heap.size + 2) 38 #[.int .i64 1, .int .i64 (t + 1)]) := (b2.out.put 0 _).put_eq (i := 1) (by simp)
          have hend : Hid (Below w.heap.size w ((w2.setCell ⟨w.heap.size + 2, 0, none⟩ (.int .i64 1)).setCell ⟨w.heap.size + 2, 1, none⟩ (.int .i64 (t + 1)))) := (hall.out.setCell (by dsimp only; omega) _).setCell (by dsimp only; omega) _
          generalize ((w2.setCell ⟨w.heap.size + 2, 0, none⟩ (.int .i64 1)).setCell ⟨w.heap.size + 2, 1, none⟩ (.int .i64 (t + 1))) = WF at hRF hend ⊢
          have z0 := hRF.out.cell 0
          have z1 := hRF.out.cell 1
          have zz := hRF.out.lt
          simp at z0 z1
          refine bodyPost_ret (v := .agg #[.int .i64 1, .int .i64 (t + 1)]) (by simp [results, Try.results64, go_sem, z0, z1, zz]) rfl ⟨_, _, rfl, .inr (.inl ⟨rfl, by dsimp only; omega, by dsimp only; omega⟩), by simp, hend.out⟩
        · have hM' : 1073741824 < t + 1 := by omega
          go_wp2_with fail
          have hRF : Hid (Box ((w2.setCell ⟨w.heap.size + 2, 0, none⟩ (.int .i64 1)).setCell ⟨w.heap.size + 2, 1, none⟩ (.int .i64 (1073741824))) (w.heap.size + 2) 38 #[.int .i64 1, .int .i64 (1073741824)]) := (b2.out.put 0 _).put_eq (i := 1) (by simp)
          have hend : Hid (Below w.heap.size w ((w2.setCell ⟨w.heap.size + 2, 0, none⟩ (.int .i64 1)).setCell ⟨w.heap.size + 2, 1, none⟩ (.int .i64 (1073741824)))) := (hall.out.setCell (by dsimp only; omega) _).setCell (by dsimp only; omega) _
          generalize ((w2.setCell ⟨w.heap.size + 2, 0, none⟩ (.int .i64 1)).setCell ⟨w.heap.size + 2, 1, none⟩ (.int .i64 (1073741824))) = WF at hRF hend ⊢
          have z0 := hRF.out.cell 0
          have z1 := hRF.out.cell 1
          have zz := hRF.out.lt
          simp at z0 z1
          refine bodyPost_ret (v := .agg #[.int .i64 1, .int .i64 (1073741824)]) (by simp [results, Try.results64, go_sem, z0, z1, zz]) rfl ⟨_, _, rfl, .inr (.inl ⟨rfl, by decide, by decide⟩), by simp, hend.out⟩
  · simp only at h0 h1 h2
    subst h0
    have hre : p.re ≤ 0 ∨ 0 < p.re := by omega
    by_cases hge : p.ye ≤ t + 1
    · rcases hre with hre | hre
      · go_enter Try.func64, Try.ntmps64
        go_wp2_with fail
        refine bodyPost_ret (v := .agg #[.int .i64 0, .int .i64 (0)]) (by simp [results, Try.results64, go_sem]) rfl ⟨_, _, rfl, .inl ⟨rfl, rfl⟩, by simp, hfin.out _ _ _⟩
      · go_enter Try.func64, Try.ntmps64
        go_wp2_with fail
        refine bodyPost_ret (v := .agg #[.int .i64 3, .int .i64 (0)]) (by simp [results, Try.results64, go_sem]) rfl ⟨_, _, rfl, .inr (.inr (.inr ⟨rfl, by decide, hre⟩)), by simp, hfin.out _ _ _⟩
    · have hge' : t + 1 < p.ye := by omega
      have hM : t + 1 ≤ 1073741824 := by omega
      go_enter Try.func64, Try.ntmps64
      go_wp2_with fail
      refine bodyPost_ret (v := .agg #[.int .i64 2, .int .i64 (t + 1)]) (by simp [results, Try.results64, go_sem]) rfl ⟨_, _, rfl, .inr (.inr (.inl ⟨rfl, by dsimp only; omega, by dsimp only; omega⟩)), by simp, hfin.out _ _ _⟩
  · simp only at h0 h1 h2
    subst h0
    by_cases hge : p.re ≤ t + 1
    · go_enter Try.func64, Try.ntmps64
      go_wp2_with fail
      refine bodyPost_ret (v := .agg #[.int .i64 0, .int .i64 (0)]) (by simp [results, Try.results64, go_sem]) rfl ⟨_, _, rfl, .inl ⟨rfl, rfl⟩, by simp, hfin.out _ _ _⟩
    · have hge' : t + 1 < p.re := by omega
      have hM : t + 1 ≤ 1073741824 := by omega
      go_enter Try.func64, Try.ntmps64
      go_wp2_with fail
      refine bodyPost_ret (v := .agg #[.int .i64 3, .int .i64 (t + 1)]) (by simp [results, Try.results64, go_sem]) rfl ⟨_, _, rfl, .inr (.inr (.inr ⟨rfl, by dsimp only; omega, by dsimp only; omega⟩)), by simp, hfin.out _ _ _⟩

end Go.Proofs.Ytepodpdcillkmaa
