/- Valid of the reference's layer 9 on a control that keeps the invariant. -/
import Derived.Test.YtepodpdcillkmaaCtlE
namespace Go.Proofs.Ytepodpdcillkmaa
open Go.RowKit
set_option linter.unusedVariables false
set_option linter.unusedSimpArgs false

/-- A control that a step may start from. -/
structure GoodV (P : List Ph) (ex : Bool) (st : Int) (L : List Lt) (gr : Int) (N : List Int) (wt : Int) : Prop where
  inv : Inv P ex L gr N
  w0 : 0 ≤ wt
  w1 : wt ≤ st
  red : wt = 0 ∨ ∀ i, onL L i = false
theorem valid8_held (p : Ph) (l : Lt) (W w : World) (hS : Below W.heap.size W w ∧ ∀ b o, b < W.heap.size → w.cell? ⟨b, o, none⟩ = W.cell? ⟨b, o, none⟩) (h : LtOk p l) :
    Calls Try.prog 52 #[.agg #[.int .i64 p.r, .int .i64 p.g, .int .i64 p.mn, .int .i64 p.mx, .int .i64 p.ye, .int .i64 p.re, .int .i64 p.wa, .int .i64 p.cl], .agg #[.int .i64 l.m, .int .i64 l.t]] w
      fun e w' => e = .returned (.bool true) ∧ Below w.heap.size w w' := valid8_any p l w h
theorem bits_none {f : Nat → Bool} (h : ∀ i, f i = false) (n : Nat) : bitsTo f n = 0 := by
  induction n with
  | zero => rfl
  | succ n ih => rw [bitsTo_no _ _ (h n), ih]
theorem ofTo_has {P : List Ph} {r g : Int} {i k : Nat} (hi : i < k) (h1 : (P.getD i pz).r = r) (h2 : (P.getD i pz).g = g) : (i : Int) ∈ ofTo P r g k := by
  simp only [ofTo, List.mem_map, List.mem_filter, List.mem_range, Bool.and_eq_true, beq_iff_eq]
  exact ⟨i, ⟨hi, h1, h2⟩, rfl⟩
theorem noClash {P : List Ph} {ex : Bool} {L : List Lt} {gr : Int} {N : List Int} (h : Inv P ex L gr N) : firstHit (ints (tableOf P ex)).length (hitR (ints (tableOf P ex)) ((bitsTo (onL L) P.length : Nat) : Int)) = none := by
  refine (firstHit_none _ _).2 fun r s hr hs => ?_
  rw [ints_length, tableOf_length] at hr hs
  unfold hitR
  rw [tb_nat, tb_nat, bitsTo_bit, bitsTo_bit, decide_eq_true hr, decide_eq_true hs, cf_table P ex r s hr hs]
  cases h1 : onL L r
  · rfl
  · cases h2 : onL L s
    · rfl
    · rw [h.cl r s hr hs h1 h2]; rfl

theorem rclash_none (A : Option Addr) (cap B n : Nat) (c : List Int) (set : Int) (w : World) (hc : c.length = n) (hA : Ints w B A c) (hn : n ≤ 60) (hh : firstHit c.length (hitR c set) = none) :
    Calls Try.prog 28 #[.slice A n cap, .int .i64 set] w fun e w' => e = .returned (.tuple #[.int .i64 (-1), .int .i64 (-1)]) ∧ w = w' := by
  subst hc
  refine (rclash_any A cap B c set w hA hn).mono ?_
  rintro e w' ⟨rfl, rfl⟩
  rw [hh]
  exact ⟨rfl, rfl⟩

set_option maxRecDepth 100000 in
set_option maxHeartbeats 8000000 in
theorem valid9_any (A A2 : Option Addr) (cap cap2 : Nat) (P : List Ph) (ex : Bool) (st : Int) (A3 : Option Addr) (cap3 : Nat) (L : List Lt) (gr : Int) (A4 : Option Addr) (cap4 : Nat) (N : List Int) (wt : Int) (w : World)
    (hA : Phs w w.heap.size A P) (h1 : 1 ≤ P.length) (hm : P.length ≤ 8) (hA2 : Ints w w.heap.size A2 (ints (tableOf P ex))) (hg : ∀ i, i < P.length → -1 ≤ (P.getD i pz).g ∧ (P.getD i pz).g ≤ 1000000)
    (hL : Lts w w.heap.size A3 L) (hN : Ints w w.heap.size A4 N) (hG : GoodV P ex st L gr N wt) :
    Calls Try.prog 19 #[.agg #[.slice A P.length cap, .slice A2 P.length cap2, .int .i64 st], .agg #[.slice A3 P.length cap3, .int .i64 gr, .slice A4 2 cap4, .int .i64 wt]] w
      fun e w' => e = .returned (.bool true) ∧ Below w.heap.size w w' := by
  have HA := Lib.hid hA
  have HA2 := Lib.hid hA2
  have HL := Lib.hid hL
  have HN := Lib.hid hN
  have HG := Lib.hid hG
  have hgH := Lib.hid hg
  have hLl := Lib.hid hG.inv.len
  have hNl := Lib.hid hG.inv.nx.1
  have hG0 := hG.inv.g0
  have hG1 := hG.inv.g1
  have hw0 := hG.w0
  have hw1 := hG.w1
  have hCl : Hid ((ints (tableOf P ex)).length = P.length) := Lib.hid (by rw [ints_length, tableOf_length])
  clear hA hA2 hL hN hG hg
  go_enter Try.func19, Try.ntmps19
  go_upto_region 1 with fail
  have hW : Hid (Below w.heap.size w ((w.alloc (.cells #[.slice A P.length cap, .slice A2 P.length cap2, .int .i64 st] 26)).alloc (.cells #[.slice A3 P.length cap3, .int .i64 gr, .slice A4 2 cap4, .int .i64 wt] 35))) := ((Below.refl _ _).alloc (Nat.le_refl _) _).alloc (by simp) _
  have hBJ : Hid (Box ((w.alloc (.cells #[.slice A P.length cap, .slice A2 P.length cap2, .int .i64 st] 26)).alloc (.cells #[.slice A3 P.length cap3, .int .i64 gr, .slice A4 2 cap4, .int .i64 wt] 35)) w.heap.size 26 #[.slice A P.length cap, .slice A2 P.length cap2, .int .i64 st]) := (Box.new _ _ _).alloc _
  have hBC : Hid (Box ((w.alloc (.cells #[.slice A P.length cap, .slice A2 P.length cap2, .int .i64 st] 26)).alloc (.cells #[.slice A3 P.length cap3, .int .i64 gr, .slice A4 2 cap4, .int .i64 wt] 35)) (w.heap.size + 1) 35 #[.slice A3 P.length cap3, .int .i64 gr, .slice A4 2 cap4, .int .i64 wt]) := boxNew2 _ _ _ _
  have hWz : ((w.alloc (.cells #[.slice A P.length cap, .slice A2 P.length cap2, .int .i64 st] 26)).alloc (.cells #[.slice A3 P.length cap3, .int .i64 gr, .slice A4 2 cap4, .int .i64 wt] 35)).heap.size = w.heap.size + 2 := by simp
  generalize ((w.alloc (.cells #[.slice A P.length cap, .slice A2 P.length cap2, .int .i64 st] 26)).alloc (.cells #[.slice A3 P.length cap3, .int .i64 gr, .slice A4 2 cap4, .int .i64 wt] 35)) = W at hW hBJ hBC hWz ⊢
  obtain ⟨gk, hgk⟩ : ∃ x, x = w.heap.size + 1 := ⟨_, rfl⟩
  rw [← hgk] at hBC ⊢
  have hk1 : w.heap.size < gk := by omega
  have hk2 : gk < W.heap.size := by omega
  clear hgk hWz
  have j0 := hBJ.out.cell 0
  have j1 := hBJ.out.cell 1
  have j2 := hBJ.out.cell 2
  have jz := hBJ.out.lt
  have c0 := hBC.out.cell 0
  have c1 := hBC.out.cell 1
  have c2 := hBC.out.cell 2
  have c3 := hBC.out.cell 3
  simp at j0 j1 j2 c0 c1 c2 c3
  have hPW : Hid (Phs W W.heap.size A P) := (HA.out.below hW.out).more (by omega)
  generalize hGe : groupsTo P P.length = G at hG1
  have hgrp : Hid (∀ w', Below W.heap.size W w' ∧ (∀ b o, b < W.heap.size → w'.cell? ⟨b, o, none⟩ = W.cell? ⟨b, o, none⟩) → Calls Try.prog 38 #[.agg #[.slice A P.length cap, .slice A2 P.length cap2, .int .i64 st]] w' fun e w'' => e = .returned (.int .i64 G) ∧ Below w'.heap.size w' w'') := Lib.hid fun w' h => by
    have := rgroups_any A A2 cap P.length cap2 P st w' ((hPW.out.below h.1).more h.1.size) (by omega) hgH.out
    rw [hGe] at this
    exact this
  clear hGe
  have hd1 : decide (gr < 0) = false := by simp; omega
  have hd2 : decide (G ≤ gr) = false := by simp; omega
  have hd3 : decide (wt < 0) = false := by simp; omega
  have hd4 : decide (st < wt) = false := by simp; omega
  have hd5 : ((P.length : Int) != (P.length : Int)) = false := by simp
  go_region_held3 (fun w' => Below W.heap.size W w' ∧ ∀ b o, b < W.heap.size → w'.cell? ⟨b, o, none⟩ = W.cell? ⟨b, o, none⟩) (first | exact held_start _ | exact held_step (by assumption) (by assumption))
    (first
      | (go_at_call 38; refine (hgrp.out _ (by with_reducible assumption)).mono ?_; rintro e w' ⟨rfl, hb⟩))
  rename_i hHX
  have hWV : Hid (Below W.heap.size W w') := hHX.1
  clear hHX
  obtain ⟨V, rfl⟩ : ∃ x, x = w' := ⟨w', rfl⟩
  have hVz := hWV.out.size
  have hVw : Hid (Below w.heap.size w V) := hW.out.trans (hWV.out.mono (by omega))
  clear j0 j1 j2 jz c0 c1 c2 c3 hd1 hd2 hd3 hd4 hd5 hgrp hb
  have hbJ := hBJ.out.below hWV.out (by omega)
  have hbC := hBC.out.below hWV.out hk2
  have j0 := hbJ.cell 0
  have j1 := hbJ.cell 1
  have j2 := hbJ.cell 2
  have jz := hbJ.lt
  have c0 := hbC.cell 0
  have c1 := hbC.cell 1
  have c2 := hbC.cell 2
  have c3 := hbC.cell 3
  have cz := hbC.lt
  simp at j0 j1 j2 c0 c1 c2 c3
  clear hbJ hbC
  go_wp2_with fail
  go_loopw [54] (fun v54 wr => ∃ k : Nat, k ≤ P.length ∧ v54 = .int .i64 k ∧ Below V.heap.size V wr) (fun v54 _ => P.length - (intOf v54).toNat)
  case atStart => exact ⟨0, by omega, rfl, Below.refl _ _⟩
  case round =>
    obtain ⟨k, hk, rfl, hb⟩ := hrel
    have hWr : Hid (Below W.heap.size W wr) := hWV.out.trans (hb.mono (by omega))
    have hbH := Lib.hid hb
    have hz := hb.size
    clear hb
    by_cases hlt : k < P.length
    · have hkl : (k : Int) < (P.length : Int) := by omega
      have hbw : Hid (Below w.heap.size w wr) := hW.out.trans (hWr.out.mono (by omega))
      obtain ⟨b, off, rfl, hbl, hat⟩ := (HA.out.below hbw.out) k hlt
      obtain ⟨b3, off3, rfl, hbl3, l0, l1⟩ := (HL.out.below hbw.out) k (by rw [hLl.out]; exact hlt)
      have hok := Lib.hid (HG.out.inv.lt k hlt)
      generalize P.getD k pz = ph at hat hok
      generalize L.getD k lz = lt at l0 l1 hok
      have hbz : b < wr.heap.size := by omega
      have hbz3 : b3 < wr.heap.size := by omega
      clear j0 j1 j2 jz c0 c1 c2 c3 cz
      go_upto_region 6 with fail
      have hb1 : Below wr.heap.size wr (wr.alloc (.cells #[.int .i64 lt.m, .int .i64 lt.t] 38)) := (Below.refl _ _).alloc (Nat.le_refl _) _
      have hLx : Hid (Box (wr.alloc (.cells #[.int .i64 lt.m, .int .i64 lt.t] 38)) wr.heap.size 38 #[.int .i64 lt.m, .int .i64 lt.t]) := Box.new _ _ _
      generalize (wr.alloc (.cells #[.int .i64 lt.m, .int .i64 lt.t] 38)) = X at hb1 hLx ⊢
      have hXz := hb1.size
      obtain ⟨p0, p1, p2, p3, p4, p5, p6, p7⟩ := hat.below hb1 hbz
      have hWX : Hid (Below W.heap.size W X) := hWr.out.trans (hb1.mono (by omega))
      have hVX : Hid (Below V.heap.size V X) := hbH.out.trans (hb1.mono (by omega))
      have hbzX : b < X.heap.size := by omega
      have l0x := hLx.out.cell 0
      have l1x := hLx.out.cell 1
      have lzx := hLx.out.lt
      simp at l0x l1x
      have hbJ := hBJ.out.below hWX.out (by omega)
      have j0 := hbJ.cell 0
      have jz := hbJ.lt
      simp at j0
      clear hbJ l0 l1 hat hb1
      go_region_held3 (fun w' => Below X.heap.size X w' ∧ ∀ b o, b < X.heap.size → w'.cell? ⟨b, o, none⟩ = X.cell? ⟨b, o, none⟩) (first | exact held_start _ | exact held_step (by assumption) (by assumption))
        (first
          | (go_at_call 52; refine (valid8_any ph lt _ hok.out).mono ?_; rintro e w' ⟨rfl, hb⟩))
      rename_i hHX
      have hVF : Hid (Below V.heap.size V w') := hVX.out.trans (hHX.1.mono (by omega))
      clear hHX
      go_wp2_with fail
      go_roundw
      case rel => exact ⟨k + 1, by omega, by go_num, hVF.out⟩
      case measure => simp [intOf]; omega
    · have hkl : ¬ (k : Int) < (P.length : Int) := by omega
      clear j0 j1 j2 jz c0 c1 c2 c3 cz
      obtain ⟨V1, rfl⟩ : ∃ x, x = wr := ⟨wr, rfl⟩
      have hz1 := hWr.out.size
      clear hbH hWV hVw hVz hz
      have hbJ := hBJ.out.below hWr.out (by omega)
      have hbC := hBC.out.below hWr.out hk2
      have j0 := hbJ.cell 0
      have j1 := hbJ.cell 1
      have j2 := hbJ.cell 2
      have jz := hbJ.lt
      have c0 := hbC.cell 0
      have c1 := hbC.cell 1
      have c2 := hbC.cell 2
      have c3 := hbC.cell 3
      have cz := hbC.lt
      simp at j0 j1 j2 c0 c1 c2 c3
      clear hbJ hbC
      go_wp2_with fail
      go_loopw [71] (fun v71 wr => ∃ r : Nat, r ≤ 2 ∧ v71 = .int .i64 r ∧ Below W.heap.size W wr) (fun v71 _ => 2 - (intOf v71).toNat)
      case atStart => exact ⟨0, by omega, rfl, hWr.out⟩
      case round =>
        obtain ⟨r, hr2, rfl, hb⟩ := hrel
        have hbH := Lib.hid hb
        have hz := hb.size
        clear hb j0 j1 j2 jz c0 c1 c2 c3 cz
        have hbw : Hid (Below w.heap.size w wr) := hW.out.trans (hbH.out.mono (by omega))
        have hbJ := hBJ.out.below hbH.out (by omega)
        have hbC := hBC.out.below hbH.out hk2
        have j0 := hbJ.cell 0
        have j1 := hbJ.cell 1
        have j2 := hbJ.cell 2
        have jz := hbJ.lt
        have c0 := hbC.cell 0
        have c1 := hbC.cell 1
        have c2 := hbC.cell 2
        have c3 := hbC.cell 3
        have cz := hbC.lt
        simp at j0 j1 j2 c0 c1 c2 c3
        clear hbJ hbC
        by_cases hr : r < 2
        · have hri : (r : Int) < 2 := by omega
          obtain ⟨b4, off4, rfl, hbl4, n0⟩ := (HN.out.below hbw.out) r (by rw [hNl.out]; exact hr)
          have haf : Hid (AfterOk P r gr (N.getD r 0)) := Lib.hid (by
            have h := HG.out.inv.nx
            match r, hr with
            | 0, _ => exact h.2.1
            | 1, _ => exact h.2.2)
          generalize N.getD r 0 = q at n0 haf
          have hbz4 : b4 < wr.heap.size := by omega
          have hPw : Hid (Phs wr wr.heap.size A P) := (HA.out.below hbw.out).more (by omega)
          go_wp2_with fail
          refine (rof_any A A2 cap P.length cap2 P st r gr wr hPw.out (by omega)).mono ?_; rintro e w5 ⟨Al, cl, rfl, hI, hb5⟩
          have hW5 : Hid (Below W.heap.size W w5) := hbH.out.trans (hb5.mono (by omega))
          have hIH := Lib.hid hI
          have hol := ofTo_len P r gr P.length
          have hmem : Hid (q = -1 ∨ ∃ i, i < (ofTo P r gr P.length).length ∧ (ofTo P r gr P.length).getD i 0 = q) := Lib.hid (by
            rcases haf.out with h | ⟨i, h1, h2, h3, h4⟩
            · exact .inl h
            · have := ofTo_has h1 h3 h4
              rw [← h2] at this
              obtain ⟨j, hj, hje⟩ := List.getElem_of_mem this
              exact .inr ⟨j, hj, by simp [List.getD, hj, hje]⟩)
          generalize ofTo P r gr P.length = l at hIH hol hmem
          clear hI hb5 hPw haf j0 j1 j2 jz c0 c1 c2 c3 cz
          go_wp2_with fail
          go_loopw [9, 84] (fun v9 v84 wx => ∃ (i : Nat) (d : Bool), i ≤ l.length ∧ v84 = .int .i64 i ∧ v9 = .bool d ∧ ((q = -1 ∨ ∃ j, j < i ∧ l.getD j 0 = q) → d = true) ∧ w5 = wx) (fun _ v84 _ => l.length - (intOf v84).toNat)
          case atStart => exact ⟨0, _, by omega, rfl, rfl, fun h => by rcases h with h | ⟨j, hj, _⟩; (· simp [h]); (· omega), by first | rfl | trivial⟩
          case round =>
            obtain ⟨i, d, hi, rfl, rfl, hd, rfl⟩ := hrel
            have hdH := Lib.hid hd
            clear hd
            by_cases hil : i < l.length
            · have hkl : (i : Int) < (l.length : Int) := by omega
              obtain ⟨b5, off5, rfl, hbl5, n5⟩ := hIH.out i hil
              have hle : Hid (∃ z, z = l.getD i 0) := ⟨_, rfl⟩
              obtain ⟨z, hz5⟩ := hle.out
              have hz5H := Lib.hid hz5
              rw [← hz5] at n5
              clear hz5 hle
              cases d
              · go_wp2_with fail
                go_roundw
                case rel => exact ⟨i + 1, z == q, by omega, by go_num, rfl, fun h => by
                  rcases h with h | ⟨j, hj, hje⟩
                  · exact absurd (hdH.out (.inl h)) (by decide)
                  · by_cases hji : j = i
                    · subst hji; rw [hz5H.out, hje]; simp
                    · exact absurd (hdH.out (.inr ⟨j, by omega, hje⟩)) (by decide), by first | rfl | trivial⟩
                case measure => simp [intOf]; omega
              · go_wp2_with fail
                go_roundw
                case rel => exact ⟨i + 1, true, by omega, by go_num, rfl, fun _ => rfl, by first | rfl | trivial⟩
                case measure => simp [intOf]; omega
            · have hkl : ¬ (i : Int) < (l.length : Int) := by omega
              obtain rfl : i = l.length := by omega
              obtain rfl : d = true := hdH.out hmem.out
              go_wp2_with fail
              go_roundw
              case rel => exact ⟨r + 1, by omega, by go_num, hW5.out⟩
              case measure => simp [intOf]; omega
        · have hri : ¬ (r : Int) < 2 := by omega
          have hLw : Hid (Lts wr wr.heap.size A3 L) := (HL.out.below hbw.out).more (by omega)
          have hCw : Hid (Ints wr wr.heap.size A2 (ints (tableOf P ex))) := (HA2.out.below hbw.out).more (by omega)
          have hzw := hbw.out.size
          go_upto_region 21 with fail
          go_region_held3 (fun w' => Below wr.heap.size wr w' ∧ ∀ b o, b < wr.heap.size → w'.cell? ⟨b, o, none⟩ = wr.cell? ⟨b, o, none⟩) (first | exact held_start _ | assumption | exact held_step (by assumption) (by assumption))
            (first
              | (go_at_call 53; refine (set_any A3 cap3 P.length L gr A4 2 cap4 wt _ ((hLw.out.below (And.left (show Below wr.heap.size wr _ ∧ _ by with_reducible assumption))).more (And.left (show Below wr.heap.size wr _ ∧ _ by with_reducible assumption)).size) hLl.out hm).mono ?_; rintro e w' ⟨rfl, hb⟩)
              | (go_at_call 28; refine (rclash_none A2 cap2 wr.heap.size P.length (ints (tableOf P ex)) _ _ hCl.out (hCw.out.below (And.left (show Below wr.heap.size wr _ ∧ _ by with_reducible assumption))) (by omega) (noClash HG.out.inv)).mono ?_; rintro e w' ⟨rfl, rfl⟩))
          rename_i hHX
          obtain ⟨V2, rfl⟩ : ∃ x, x = w' := ⟨w', rfl⟩
          have hVF : Hid (Below wr.heap.size wr V2) := hHX.1
          have hall : Hid (Below w.heap.size w V2) := hbw.out.trans (hHX.1.mono hzw)
          have hWF : Hid (Below W.heap.size W V2) := hbH.out.trans (hHX.1.mono hz)
          clear hHX j0 j1 j2 jz c0 c1 c2 c3 cz
          have hLF : Hid (Lts V2 V2.heap.size A3 L) := (hLw.out.below hVF.out).more hVF.out.size
          have hzF := hall.out.size
          have hzF2 := hWF.out.size
          have hbC := hBC.out.below hWF.out hk2
          have c0 := hbC.cell 0
          have c1 := hbC.cell 1
          have c2 := hbC.cell 2
          have c3 := hbC.cell 3
          have cz := hbC.lt
          simp at c0 c1 c2 c3
          clear hbC
          by_cases hw00 : wt = 0
          · subst hw00
            go_wp2_with fail
            go_ret
            exact ⟨rfl, hall.out⟩
          · have hw00' : (wt == 0) = false := by simp [hw00]
            have hbits : Hid (bitsTo (onL L) P.length = 0) := Lib.hid (bits_none (HG.out.red.resolve_left hw00) _)
            clear hw00
            go_wp2_with fail
            refine (set_any A3 cap3 P.length L gr A4 2 cap4 wt V2 hLF.out hLl.out hm).mono ?_; rintro e w9 ⟨rfl, hb9⟩
            rw [hbits.out]
            have hall9 : Hid (Below w.heap.size w w9) := hall.out.trans (hb9.mono hzF)
            clear hb9
            go_wp2_with fail
            go_ret
            exact ⟨rfl, hall9.out⟩

end Go.Proofs.Ytepodpdcillkmaa
