/- plan.Of and the reference's Of (printed by tools/genOf.py). -/
import Derived.Test.YtepodpdcillkmaaNeeds
namespace Go.Proofs.Ytepodpdcillkmaa
open Go.RowKit
set_option linter.unusedVariables false
set_option linter.unusedSimpArgs false

/-- The phases of ring r in group g among the first k. -/
def ofTo (P : List Ph) (r g : Int) (k : Nat) : List Int := ((List.range k).filter fun i => (P.getD i pz).r == r && (P.getD i pz).g == g).map fun (i : Nat) => (i : Int)
theorem ofTo_succ (P : List Ph) (r g : Int) (k : Nat) : ofTo P r g (k + 1) = if ((P.getD k pz).r == r && (P.getD k pz).g == g) = true then ofTo P r g k ++ [(k : Int)] else ofTo P r g k := by
  unfold ofTo
  rw [List.range_succ, List.filter_append, List.map_append]
  by_cases h : ((P.getD k pz).r == r && (P.getD k pz).g == g) = true
  · rw [if_pos h]; simp only [List.filter_cons, List.filter_nil]; rw [if_pos h]; rfl
  · rw [if_neg h]; simp only [List.filter_cons, List.filter_nil]; rw [if_neg h]; simp
theorem ofTo_len (P : List Ph) (r g : Int) (k : Nat) : (ofTo P r g k).length ≤ k := by
  unfold ofTo
  rw [List.length_map]
  have := List.length_filter_le (fun i => (P.getD i pz).r == r && (P.getD i pz).g == g) (List.range k)
  simpa using this
/-- What Of leaves: a slice that reads as the list. -/
def OfPost (P : List Ph) (r g : Int) (w : World) (e : Ending) (w' : World) : Prop :=
  ∃ (A : Option Addr) (cap : Nat), e = .returned (.slice A (ofTo P r g P.length).length cap) ∧ Ints w' w'.heap.size A (ofTo P r g P.length) ∧ Below w.heap.size w w'
theorem own_read {w : World} {base : Nat} {v : Value} {l : List Int} (h : w.ownsRow base 3 1 v l.length (l.map (Value.int .i64))) : ∃ (A : Option Addr) (cap : Nat), v = .slice A l.length cap ∧ Ints w w.heap.size A l := by
  by_cases h0 : 0 < l.length
  · obtain ⟨g, cap, hv⟩ := Joins.ownsRow_form h h0
    subst hv
    exact ⟨_, _, rfl, (rowI_of_own h rfl).ints (h.lt g rfl).2⟩
  · obtain rfl : l = [] := List.eq_nil_of_length_eq_zero (by omega)
    rcases Joins.ownsRow_forms h with ⟨hv, _⟩ | ⟨g, cap, hv⟩
    · exact ⟨_, _, hv, fun i hi => by simp at hi⟩
    · exact ⟨_, _, hv, fun i hi => by simp at hi⟩

set_option maxRecDepth 100000 in
set_option maxHeartbeats 2000000 in
theorem of_any (A A2 : Option Addr) (cap n2 cap2 : Nat) (P : List Ph) (s r g : Int) (w : World) (hA : Phs w w.heap.size A P) (hm : P.length ≤ 1000) :
    Calls Try.prog 35 #[.agg #[.slice A P.length cap, .slice A2 n2 cap2, .int .i64 s], .int .i64 r, .int .i64 g] w fun e w' => OfPost P r g w e w' := by
  have HA := Lib.hid hA
  clear hA
  go_enter Try.func35, Try.ntmps35
  go_wp2_with fail
  have hW : Hid (Below w.heap.size w (w.alloc (.cells #[.slice A P.length cap, .slice A2 n2 cap2, .int .i64 s] 26))) := (Below.refl _ _).alloc (Nat.le_refl _) _
  have hWz : (w.alloc (.cells #[.slice A P.length cap, .slice A2 n2 cap2, .int .i64 s] 26)).heap.size = w.heap.size + 1 := World.size_alloc _ _
  generalize (w.alloc (.cells #[.slice A P.length cap, .slice A2 n2 cap2, .int .i64 s] 26)) = W at hW hWz ⊢
  have hWz1 : w.heap.size + 1 ≤ W.heap.size := by omega
  have hWz2 : W.heap.size ≤ w.heap.size + 1 := by omega
  clear hWz
  go_loopw [7, 13] (fun v7 v13 wr => ∃ k : Nat, k ≤ P.length ∧ v13 = .int .i64 k ∧ wr.ownsRow (w.heap.size + 1) 3 1 v7 (ofTo P r g k).length ((ofTo P r g k).map (Value.int .i64)) ∧ Below (w.heap.size + 1) W wr) (fun _ v13 _ => P.length - (intOf v13).toNat)
  case atStart => exact ⟨0, by omega, rfl, World.ownsRow_nil _ _ _ _, Below.refl _ _⟩
  case round =>
    obtain ⟨k, hk, rfl, hown, hb⟩ := hrel
    have hownH := Lib.hid hown
    have hz := hb.size
    have hbH := Lib.hid hb
    have hol := ofTo_len P r g k
    clear hown hb
    by_cases hlt : k < P.length
    · have hkl : (k : Int) < (P.length : Int) := by omega
      obtain ⟨b, off, rfl, hbl, hat⟩ := (HA.out.below (hW.out.trans (hbH.out.mono (by omega)))) k hlt
      have hs := Lib.hid (ofTo_succ P r g k)
      have c0 := hat.c0
      have c1 := hat.c1
      have c2 := hat.c2
      have c3 := hat.c3
      have c4 := hat.c4
      have c5 := hat.c5
      have c6 := hat.c6
      have c7 := hat.c7
      clear hat
      generalize P.getD k pz = ph at c0 c1 c2 c3 c4 c5 c6 c7 hs
      have hbz : b < wr.heap.size := by omega
      by_cases hr : ph.r = r
      · have br : (ph.r == r) = true := by simp [hr]
        by_cases hg : ph.g = g
        · have bg : (ph.g == g) = true := by simp [hg]
          have hs2 : Hid (ofTo P r g (k + 1) = ofTo P r g k ++ [(k : Int)]) := Lib.hid (by rw [hs.out, br, bg]; rfl)
          clear hr hg hs
          obtain ⟨i0, hi0, hz0, hz10, hz20⟩ := info_parts int_info
          have hnews : ∀ (W2 : World) (N : Nat), W2.heap.size = N → ∀ j u, [Value.int .i64 (k : Int)][j]? = some u → (W2.alloc (.cells #[.int .i64 (k : Int)] 3)).cell? ((⟨N, 0, none⟩ : Addr).add j) = some u := by
            intro W2 N e j u hu
            subst e
            exact news_new W2 [.int .i64 (k : Int)] 3 j u hu
          have hnewsH := Lib.hid hnews
          clear hnews
          go_wp2_with (at_builtin; refine wpList_append_own _ rfl (.tmp 28) (.tmp 30) 22 rfl (w.heap.size + 1) 3 i0 (.int .i64 0) 1 8 Try.underlying22 hi0 hz0 hz10 hz20 rfl (by decide) _ _ _ rfl ((hownH.out.alloc _).alloc _) ⟨wr.heap.size + 1, 0, none⟩ 1 1 [.int .i64 (k : Int)] rfl rfl ?c1 ?c2 ?c3 ?c4 ?c5 ?_)
          case c1 => exact hnewsH.out _ _ (by simp)
          case c2 => intro u hu; simp at hu; subst hu; rfl
          case c3 => unfold maxLen; omega
          case c4 => omega
          case c5 => simp; omega
          intro v2 w5 hown5 hg5 _
          have hbG : Hid (Below (w.heap.size + 1) W w5) := Below.grown ((hbH.out.alloc (by omega) _).alloc (by simp; omega) _) hg5 (by simp; omega) (fun q hq => (hownH.out.lt q hq).1)
          have hown5H : Hid (w5.ownsRow (w.heap.size + 1) 3 1 v2 (ofTo P r g (k + 1)).length ((ofTo P r g (k + 1)).map (Value.int .i64))) := Lib.hid (by rw [hs2.out, List.length_append, List.map_append]; exact hown5)
          clear hown5 hg5
          go_wp2_with fail
          go_roundw
          case rel => exact ⟨k + 1, by omega, by go_num, hown5H.out, hbG.out⟩
          case measure => simp [intOf]; omega
        · have bg : (ph.g == g) = false := by simpa using hg
          have hs2 : Hid (ofTo P r g (k + 1) = ofTo P r g k) := Lib.hid (by rw [hs.out, br, bg]; rfl)
          clear hr hg hs
          go_wp2_with fail
          go_roundw
          case rel => exact ⟨k + 1, by omega, by go_num, by rw [hs2.out]; exact hownH.out.alloc _, hbH.out.alloc (by omega) _⟩
          case measure => simp [intOf]; omega
      · have br : (ph.r == r) = false := by simpa using hr
        have hs2 : Hid (ofTo P r g (k + 1) = ofTo P r g k) := Lib.hid (by rw [hs.out, br]; rfl)
        clear hr hs
        go_wp2_with fail
        go_roundw
        case rel => exact ⟨k + 1, by omega, by go_num, by rw [hs2.out]; exact hownH.out.alloc _, hbH.out.alloc (by omega) _⟩
        case measure => simp [intOf]; omega
    · have hkl : ¬ (k : Int) < (P.length : Int) := by omega
      obtain rfl : k = P.length := by omega
      obtain ⟨A', cap', rfl, hI⟩ := own_read hownH.out
      have hIH := Lib.hid hI
      clear hI
      go_wp2_with fail
      go_ret
      exact ⟨A', cap', rfl, hIH.out, hW.out.trans (hbH.out.mono (by omega))⟩

set_option maxRecDepth 100000 in
set_option maxHeartbeats 2000000 in
theorem rof_any (A A2 : Option Addr) (cap n2 cap2 : Nat) (P : List Ph) (s r g : Int) (w : World) (hA : Phs w w.heap.size A P) (hm : P.length ≤ 1000) :
    Calls Try.prog 36 #[.agg #[.slice A P.length cap, .slice A2 n2 cap2, .int .i64 s], .int .i64 r, .int .i64 g] w fun e w' => OfPost P r g w e w' := by
  have HA := Lib.hid hA
  clear hA
  go_enter Try.func36, Try.ntmps36
  go_wp2_with fail
  have hW : Hid (Below w.heap.size w (w.alloc (.cells #[.slice A P.length cap, .slice A2 n2 cap2, .int .i64 s] 26))) := (Below.refl _ _).alloc (Nat.le_refl _) _
  have hWz : (w.alloc (.cells #[.slice A P.length cap, .slice A2 n2 cap2, .int .i64 s] 26)).heap.size = w.heap.size + 1 := World.size_alloc _ _
  generalize (w.alloc (.cells #[.slice A P.length cap, .slice A2 n2 cap2, .int .i64 s] 26)) = W at hW hWz ⊢
  have hWz1 : w.heap.size + 1 ≤ W.heap.size := by omega
  have hWz2 : W.heap.size ≤ w.heap.size + 1 := by omega
  clear hWz
  go_loopw [7, 13] (fun v7 v13 wr => ∃ k : Nat, k ≤ P.length ∧ v13 = .int .i64 k ∧ wr.ownsRow (w.heap.size + 1) 3 1 v7 (ofTo P r g k).length ((ofTo P r g k).map (Value.int .i64)) ∧ Below (w.heap.size + 1) W wr) (fun _ v13 _ => P.length - (intOf v13).toNat)
  case atStart => exact ⟨0, by omega, rfl, World.ownsRow_nil _ _ _ _, Below.refl _ _⟩
  case round =>
    obtain ⟨k, hk, rfl, hown, hb⟩ := hrel
    have hownH := Lib.hid hown
    have hz := hb.size
    have hbH := Lib.hid hb
    have hol := ofTo_len P r g k
    clear hown hb
    by_cases hlt : k < P.length
    · have hkl : (k : Int) < (P.length : Int) := by omega
      obtain ⟨b, off, rfl, hbl, hat⟩ := (HA.out.below (hW.out.trans (hbH.out.mono (by omega)))) k hlt
      have hs := Lib.hid (ofTo_succ P r g k)
      have c0 := hat.c0
      have c1 := hat.c1
      have c2 := hat.c2
      have c3 := hat.c3
      have c4 := hat.c4
      have c5 := hat.c5
      have c6 := hat.c6
      have c7 := hat.c7
      clear hat
      generalize P.getD k pz = ph at c0 c1 c2 c3 c4 c5 c6 c7 hs
      have hbz : b < wr.heap.size := by omega
      by_cases hr : ph.r = r
      · have br : (ph.r == r) = true := by simp [hr]
        by_cases hg : ph.g = g
        · have bg : (ph.g == g) = true := by simp [hg]
          have hs2 : Hid (ofTo P r g (k + 1) = ofTo P r g k ++ [(k : Int)]) := Lib.hid (by rw [hs.out, br, bg]; rfl)
          clear hr hg hs
          obtain ⟨i0, hi0, hz0, hz10, hz20⟩ := info_parts int_info
          have hnews : ∀ (W2 : World) (N : Nat), W2.heap.size = N → ∀ j u, [Value.int .i64 (k : Int)][j]? = some u → (W2.alloc (.cells #[.int .i64 (k : Int)] 3)).cell? ((⟨N, 0, none⟩ : Addr).add j) = some u := by
            intro W2 N e j u hu
            subst e
            exact news_new W2 [.int .i64 (k : Int)] 3 j u hu
          have hnewsH := Lib.hid hnews
          clear hnews
          go_wp2_with (at_builtin; refine wpList_append_own _ rfl (.tmp 28) (.tmp 30) 22 rfl (w.heap.size + 1) 3 i0 (.int .i64 0) 1 8 Try.underlying22 hi0 hz0 hz10 hz20 rfl (by decide) _ _ _ rfl ((hownH.out.alloc _).alloc _) ⟨wr.heap.size + 1, 0, none⟩ 1 1 [.int .i64 (k : Int)] rfl rfl ?c1 ?c2 ?c3 ?c4 ?c5 ?_)
          case c1 => exact hnewsH.out _ _ (by simp)
          case c2 => intro u hu; simp at hu; subst hu; rfl
          case c3 => unfold maxLen; omega
          case c4 => omega
          case c5 => simp; omega
          intro v2 w5 hown5 hg5 _
          have hbG : Hid (Below (w.heap.size + 1) W w5) := Below.grown ((hbH.out.alloc (by omega) _).alloc (by simp; omega) _) hg5 (by simp; omega) (fun q hq => (hownH.out.lt q hq).1)
          have hown5H : Hid (w5.ownsRow (w.heap.size + 1) 3 1 v2 (ofTo P r g (k + 1)).length ((ofTo P r g (k + 1)).map (Value.int .i64))) := Lib.hid (by rw [hs2.out, List.length_append, List.map_append]; exact hown5)
          clear hown5 hg5
          go_wp2_with fail
          go_roundw
          case rel => exact ⟨k + 1, by omega, by go_num, hown5H.out, hbG.out⟩
          case measure => simp [intOf]; omega
        · have bg : (ph.g == g) = false := by simpa using hg
          have hs2 : Hid (ofTo P r g (k + 1) = ofTo P r g k) := Lib.hid (by rw [hs.out, br, bg]; rfl)
          clear hr hg hs
          go_wp2_with fail
          go_roundw
          case rel => exact ⟨k + 1, by omega, by go_num, by rw [hs2.out]; exact hownH.out.alloc _, hbH.out.alloc (by omega) _⟩
          case measure => simp [intOf]; omega
      · have br : (ph.r == r) = false := by simpa using hr
        have hs2 : Hid (ofTo P r g (k + 1) = ofTo P r g k) := Lib.hid (by rw [hs.out, br]; rfl)
        clear hr hs
        go_wp2_with fail
        go_roundw
        case rel => exact ⟨k + 1, by omega, by go_num, by rw [hs2.out]; exact hownH.out.alloc _, hbH.out.alloc (by omega) _⟩
        case measure => simp [intOf]; omega
    · have hkl : ¬ (k : Int) < (P.length : Int) := by omega
      obtain rfl : k = P.length := by omega
      obtain ⟨A', cap', rfl, hI⟩ := own_read hownH.out
      have hIH := Lib.hid hI
      clear hI
      go_wp2_with fail
      go_ret
      exact ⟨A', cap', rfl, hIH.out, hW.out.trans (hbH.out.mono (by omega))⟩

end Go.Proofs.Ytepodpdcillkmaa
