/- The walk of signalbrokerlaw16.RateBounds. -/
import Derived.Test.YtihpoacilccldaaRateA
import Derived.Test.YtihpoacilccldaaRateLaw
import Derived.Deep.AppendLies
import Derived.Lib.SmallJoins
namespace Go.Proofs.Ytihpoacilccldaa
open Go.RowKit

theorem int_info : (Try.prog.info? 3).map (fun i => (i.zero, i.size, i.bytes)) = some (some (.int .i64 0), 1, 8) := by kernel_rfl

/-- The relation of the first loop: the counter k, the closed counts T, the open count n, the level l. -/
def LoopA (w : World) (g : Nat) (R B : Int) (len : Nat) (v8 v9 v32 : Value) (wr : World) : Prop :=
  ∃ (k : Nat) (T : List Int) (n l : Int), k ≤ len ∧ v32 = .int .i64 k ∧ v9 = .int .i64 n ∧ wr.ownsRow (g + 1) 3 1 v8 T.length (T.map (Value.int .i64)) ∧
    Box wr g 24 #[.int .i64 l, .int .i64 R, .int .i64 B] ∧ Rated R B T n l ∧ T.length ≤ k ∧ n ≤ k ∧ Below w.heap.size w wr

set_option maxHeartbeats 1000000 in
theorem bounds_walk (A : Option Addr) (len cap : Nat) (zs : List Int) (r burst : Int) (w : World) (hA : IsRow w A len cap zs) (_ : (Lit.int .i64 r).wf = true) (_ : (Lit.int .i64 burst).wf = true) :
    Calls Try.prog 5 #[.slice A len cap, .int .i64 r, .int .i64 burst] w fun e w' => e = .returned (.bool true) ∧ Below w.heap.size w w' := by
  have hm := hA.len_le
  unfold maxLen at hm
  by_cases hlen : 200 < len
  · go_enter Try.func5, Try.ntmps5
    go_wp2_with fail
    refine (awake_any _).mono ?_; rintro e w1 ⟨rfl, hb⟩
    go_wp2_with fail
    go_ret
    exact ⟨rfl, hb⟩
  have b0 : 0 ≤ burst % 9 := Int.emod_nonneg _ (by omega)
  have b1 : burst % 9 < 9 := Int.emod_lt_of_pos _ (by omega)
  obtain ⟨B, hB⟩ : ∃ B, B = burst % 9 := ⟨_, rfl⟩
  rw [← hB] at b0 b1
  have r0 : 0 ≤ r % (B + 1) := Int.emod_nonneg _ (by omega)
  have r1 : r % (B + 1) < B + 1 := Int.emod_lt_of_pos _ (by omega)
  obtain ⟨R, hR⟩ : ∃ R, R = r % (B + 1) := ⟨_, rfl⟩
  rw [← hR] at r0 r1
  have HB := Lib.hid hB; clear hB
  have HR := Lib.hid hR; clear hR
  have HA := Lib.hid hA; clear hA
  obtain ⟨i0, hi0, hz0, hz1, hz2⟩ := info_parts int_info
  go_enter Try.func5, Try.ntmps5
  go_wp2_with fail
  refine (mod_any _ _ _ (by omega) (by omega)).mono ?_; rintro e w' ⟨rfl, rfl⟩
  rw [← HB.out]
  go_wp2_with fail
  refine (mod_any _ _ _ (by omega) (by omega)).mono ?_; rintro e w' ⟨rfl, rfl⟩
  rw [← HR.out]
  go_wp2_with fail
  refine (new_any _ _ _).mono ?_; rintro e w1 ⟨rfl, hb1⟩
  have z1 := hb1.size
  go_wp2_with fail
  go_loopw [8, 9, 32] (fun v8 v9 v32 wr => LoopA w w1.heap.size R B len v8 v9 v32 wr) (fun _ _ v32 _ => len - (intOf v32).toNat)
  case atStart => exact ⟨0, [], 0, B, by omega, rfl, rfl, World.ownsRow_nil _ _ _ _, Box.new _ _ _, Rated.start _ _ (by omega), by simp, by omega, hb1.alloc z1 _⟩
  case round =>
    obtain ⟨k, T, n, l, hk, rfl, rfl, hown, hbox, hrat, hT, hn, hbel⟩ := hrel
    have n0 := hrat.n0
    have l0 := hrat.l0
    have l1 := hrat.l1
    have hratH := Lib.hid hrat; clear hrat
    have c0 := hbox.cell 0
    have c1 := hbox.cell 1
    have c2 := hbox.cell 2
    simp at c0 c1 c2
    have f0 := hbox.frozen 0
    have f1 := hbox.frozen 1
    have f2 := hbox.frozen 2
    have hz := hbox.lt
    by_cases hlt : k < len
    · obtain ⟨b, off, rfl, hbl, hc⟩ := HA.out.at_ k hlt
      have hc1 := (hbel.cell (p := ⟨b, off + k, none⟩) hbl).trans hc
      clear hc
      generalize zs.getD k 0 = a at hc1
      have d0 : 0 ≤ a % 3 := Int.emod_nonneg _ (by omega)
      have d1 : a % 3 < 3 := Int.emod_lt_of_pos _ (by omega)
      have d2 : a % 3 ≤ 2 := by omega
      by_cases hz3 : a % 3 = 0
      · have t0 : (a % 3 == 0) = true := by simp [hz3]
        clear hz3 d0 d1 d2
        go_wp2_with fail
        refine (mod_any _ _ _ (by omega) (by omega)).mono ?_; rintro e w' ⟨rfl, rfl⟩
        go_wp2_with fail
        refine (tick_any _ _ _ _ (by omega) (by omega) (by omega) (by omega)).mono ?_; rintro e w2 ⟨rfl, hb⟩
        have hbox2 := (hbox.below hb hz)
        obtain ⟨l', hl'⟩ : ∃ l', l' = min (l + R) B := ⟨_, rfl⟩
        rw [← hl']
        have l0' : 0 ≤ l' := by omega
        have l1' : l' ≤ B := by omega
        have hv : validB l' R B = true := by unfold validB; simp; omega
        have hrat2 : Hid (Rated R B (T ++ [n]) 0 l') := by rw [hl']; exact Lib.hid (hratH.out.ticked (by omega) (by omega))
        clear hl'
        have d0 := hbox2.cell 0
        have d1 := hbox2.cell 1
        have d2 := hbox2.cell 2
        simp at d0 d1 d2
        have g0 := hbox2.frozen 0
        have g1 := hbox2.frozen 1
        have g2 := hbox2.frozen 2
        have hzz := hbox2.lt
        clear c0 c1 c2 f0 f1 f2 hc1
        have hown2 := ownsRow_setCell_below (ownsRow_setCell_below (ownsRow_setCell_below (own_below hown hb) (a := ⟨w1.heap.size, 0, none⟩) (by simp) (.int .i64 l')) (a := ⟨w1.heap.size, 1, none⟩) (by simp) (.int .i64 R)) (a := ⟨w1.heap.size, 2, none⟩) (by simp) (.int .i64 B)
        have hbel2 : Below w.heap.size w (((w2.setCell ⟨w1.heap.size, 0, none⟩ (.int .i64 l')).setCell ⟨w1.heap.size, 1, none⟩ (.int .i64 R)).setCell ⟨w1.heap.size, 2, none⟩ (.int .i64 B)) :=
          ((((hbel.trans (hb.mono (by omega))).setCell (by simp; omega) _).setCell (by simp; omega) _).setCell (by simp; omega) _)
        have hbox3 : Box (((w2.setCell ⟨w1.heap.size, 0, none⟩ (.int .i64 l')).setCell ⟨w1.heap.size, 1, none⟩ (.int .i64 R)).setCell ⟨w1.heap.size, 2, none⟩ (.int .i64 B)) w1.heap.size 24 #[.int .i64 l', .int .i64 R, .int .i64 B] :=
          Box.put_eq (Box.put_eq (Box.put_eq hbox2 rfl) rfl) rfl
        go_wp2_with (at_builtin; refine wpList_append_own _ rfl (.tmp 41) (.tmp 43) 33 rfl (w1.heap.size + 1) 3 i0 (.int .i64 0) 1 8 Try.underlying33 hi0 hz0 hz1 hz2 rfl (by decide) _ _ _ rfl (hown2.alloc _) ⟨w2.heap.size, 0, none⟩ 1 1 [.int .i64 n] rfl rfl ?d1 ?d2 ?d3 ?d4 ?d5 ?_)
        case d1 =>
          have h := cell_one_new (((w2.setCell ⟨w1.heap.size, 0, none⟩ (.int .i64 l')).setCell ⟨w1.heap.size, 1, none⟩ (.int .i64 R)).setCell ⟨w1.heap.size, 2, none⟩ (.int .i64 B)) (.int .i64 n) 3
          simpa using h
        case d2 => simp [Value.oneCell']
        case d3 => unfold maxLen; omega
        case d4 => omega
        case d5 => simp; omega
        intro v2 w3 hown3 hg3 _
        have hbox4 := (hbox3.alloc (.cells #[.int .i64 n] 3)).grown hg3 (fun e => by have := hown2.lt _ e.symm; omega)
        have hbel3 : Below w.heap.size w w3 := ((hbel2.alloc (by simp; omega) _).grown hg3 (by simp; omega) (fun q hq => by have := hown2.lt q hq; omega))
        have e0 := hbox4.cell 0
        have e1 := hbox4.cell 1
        have e2 := hbox4.cell 2
        simp at e0 e1 e2
        have hz4 := hbox4.lt
        clear d0 d1 d2 g0 g1 g2 hown hown2
        go_wp2_with fail
        refine (valid_any _ _ _ _).mono ?_; rintro e w4 ⟨rfl, hb4⟩
        rw [hv]
        have hbox5 := hbox4.below hb4 hz4
        go_wp2_with fail
        go_roundw
        case rel => exact ⟨k + 1, T ++ [n], 0, l', by omega, by go_num, rfl, by simpa using own_below hown3 hb4, hbox5, hrat2.out, by simp; omega, by omega, hbel3.trans (hb4.mono (by have := hbel3.size; omega))⟩
        case measure => simp [intOf]; omega
      · have t0 : (a % 3 == 0) = false := by simp [hz3]
        clear hz3 d0 d1 d2
        go_wp2_with fail
        refine (mod_any _ _ _ (by omega) (by omega)).mono ?_; rintro e w' ⟨rfl, rfl⟩
        go_wp2_with fail
        refine (take_any _ _ _ _ (by omega) (by omega)).mono ?_; rintro e w2 ⟨rfl, hb⟩
        have hbox2 := (hbox.below hb hz)
        have d0 := hbox2.cell 0
        have d1 := hbox2.cell 1
        have d2 := hbox2.cell 2
        simp at d0 d1 d2
        have g0 := hbox2.frozen 0
        have g1 := hbox2.frozen 1
        have g2 := hbox2.frozen 2
        have hzz := hbox2.lt
        have hown2 := own_below hown hb
        have hbel2 : Below w.heap.size w w2 := hbel.trans (hb.mono (by omega))
        clear c0 c1 c2 f0 f1 f2 hc1 hown hbel
        by_cases hl : 0 < l
        · have HT : took l R B = .tuple #[bkt (l - 1) R B, .bool true] := if_neg (by omega)
          rw [HT]
          clear HT
          have hv : validB (l - 1) R B = true := by unfold validB; simp; omega
          go_wp2_with fail
          refine (valid_any _ _ _ _).mono ?_; rintro e w4 ⟨rfl, hb4⟩
          rw [hv]
          go_wp2_with fail
          go_roundw
          case rel =>
            refine ⟨k + 1, T, n + 1, l - 1, by omega, by go_num, rfl, own_below ((ownsRow_setCell_below (ownsRow_setCell_below (ownsRow_setCell_below hown2 (by simp) _) (by simp) _) (by simp) _).alloc _) hb4,
              ((Box.put_eq (Box.put_eq (Box.put_eq hbox2 rfl) rfl) rfl).alloc _).below hb4 (by simp; omega), hratH.out.taken hl, by omega, by omega, ?_⟩
            exact (((((hbel2.setCell (by simp; omega) _).setCell (by simp; omega) _).setCell (by simp; omega) _).alloc (by simp; omega) _).trans (hb4.mono (by simp; omega)))
          case measure => simp [intOf]; omega
        · have HT : took l R B = .tuple #[bkt l R B, .bool false] := if_pos (by omega)
          rw [HT]
          clear HT
          have hv : validB l R B = true := by unfold validB; simp; omega
          go_wp2_with fail
          refine (valid_any _ _ _ _).mono ?_; rintro e w4 ⟨rfl, hb4⟩
          rw [hv]
          go_wp2_with fail
          go_roundw
          case rel =>
            refine ⟨k + 1, T, n, l, by omega, by go_num, rfl, own_below ((ownsRow_setCell_below (ownsRow_setCell_below (ownsRow_setCell_below hown2 (by simp) _) (by simp) _) (by simp) _).alloc _) hb4,
              ((Box.put_eq (Box.put_eq (Box.put_eq hbox2 rfl) rfl) rfl).alloc _).below hb4 (by simp; omega), hratH.out, by omega, by omega, ?_⟩
            exact (((((hbel2.setCell (by simp; omega) _).setCell (by simp; omega) _).setCell (by simp; omega) _).alloc (by simp; omega) _).trans (hb4.mono (by simp; omega)))
          case measure => simp [intOf]; omega
    · obtain rfl : k = len := by omega
      go_wp2_with (at_builtin; refine wpList_append_own _ rfl (.tmp 63) (.tmp 65) 33 rfl (w1.heap.size + 1) 3 i0 (.int .i64 0) 1 8 Try.underlying33 hi0 hz0 hz1 hz2 rfl (by decide) _ _ _ rfl (hown.alloc _) ⟨wr.heap.size, 0, none⟩ 1 1 [.int .i64 n] rfl rfl ?c1 ?c2 ?c3 ?c4 ?c5 ?_)
      case c1 => exact cell_one_new _ _ _
      case c2 => simp [Value.oneCell']
      case c3 => unfold maxLen; omega
      case c4 => omega
      case c5 => simp; omega
      intro v2 w2 hown2 hg2 _
      have hS := Lib.hid hratH.out.done
      have hbel2 : Below w.heap.size w w2 := ((hbel.alloc (by omega) _).grown hg2 (by simp; omega) (fun q hq => by have := (hown.alloc (.cells #[.int .i64 n] 3)).lt q hq; omega))
      have hown3 : w2.ownsRow (w1.heap.size + 1) 3 1 v2 (T ++ [n]).length ((T ++ [n]).map (Value.int .i64)) := by simpa using hown2
      clear hown2 hown hbel hbox c0 c1 c2 f0 f1 f2 hg2 hratH hz
      have hTl : (T ++ [n]).length ≤ k + 1 := by simp; omega
      have hT0 : 0 < (T ++ [n]).length := by simp
      generalize T ++ [n] = T2 at hS hown3 hTl hT0
      obtain ⟨g2, cap2, hv2⟩ := Joins.ownsRow_form hown3 hT0
      subst hv2
      have hm2 : T2.length ≤ 9223372036854775807 := by omega
      have hownH := Lib.hid hown3; clear hown3
      go_wp2_with fail
      go_loop [69] (fun v69 => ∃ i : Nat, i ≤ T2.length ∧ v69 = .int .i64 i) (fun v69 => T2.length - (intOf v69).toNat)
      case atStart => exact ⟨0, by omega, rfl⟩
      case round =>
        obtain ⟨i, hi, rfl⟩ := hrel
        by_cases hit : i < T2.length
        · go_wp2_with fail
          go_loop [15, 16] (fun v15 v16 => ∃ q : Nat, i ≤ q ∧ q ≤ T2.length ∧ v16 = .int .i64 q ∧ v15 = .int .i64 (seg T2 i q)) (fun _ v16 => T2.length - (intOf v16).toNat)
          case atStart => exact ⟨i, by omega, by omega, rfl, by rw [seg_self]⟩
          case round =>
            obtain ⟨q, hiq, hq, rfl, rfl⟩ := hrel
            by_cases hqt : q < T2.length
            · have hc := hownH.out.cellAt q (by omega)
              rw [List.getElem?_map, List.getElem?_eq_getElem hqt] at hc
              have hle := hS.out.le i q hiq hqt
              have hsucc := seg_succ T2 i q hqt
              rw [List.getD, List.getElem?_eq_getElem hqt] at hsucc
              simp only [Option.map_some, Option.getD_some] at hc hsucc
              have hn0 := hS.out.nonneg i q hiq (by omega)
              have hm := mul_bd q i R hiq (by omega) (by omega) (by omega)
              rw [hsucc] at hle
              have hsuccH := Lib.hid hsucc; clear hsucc
              have hx0 := hS.out.pos _ (List.getElem_mem hqt)
              go_wp2_with fail
              go_round
              case rel => exact ⟨q + 1, by omega, by omega, by go_num, by rw [hsuccH.out]⟩
              case measure => simp [intOf]; omega
            · go_wp2_with fail
              go_round
              case rel => exact ⟨i + 1, by omega, by go_num⟩
              case measure => simp [intOf]; omega
        · go_wp2_with fail
          refine (awake_any _).mono ?_; rintro e w3 ⟨rfl, hb⟩
          go_wp2_with fail
          go_ret
          exact ⟨rfl, hbel2.trans (hb.mono hbel2.size)⟩

end Go.Proofs.Ytihpoacilccldaa
