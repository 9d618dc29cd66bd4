/- (*Deck).Config (printed by tools/genCfgH.py). -/
import Derived.Test.YtepodpdcillkmaaCfgG
import Derived.Deep.RegionWith
import Derived.Deep.AppendLies
namespace Go.Proofs.Ytepodpdcillkmaa
open Go.RowKit
set_option linter.unusedVariables false
set_option linter.unusedSimpArgs false

theorem jn_info : (Try.prog.info? 26).map (fun i => (i.zero, i.size, i.bytes)) = some (some (.agg #[.slice none 0 0, .slice none 0 0, .int .i64 0]), 3, 56) := by kernel_rfl
theorem ag_info : (Try.prog.info? 66).map (fun i => (i.zero, i.size, i.bytes)) = some (some (.agg #[.slice none 0 0, .int .i64 0, .int .i64 0, .slice none 0 0, .int .i64 0, .int .i64 0, .int .i64 0, .int .i64 0]), 8, 96) := by kernel_rfl
theorem cr_box {wr w5 w7 : World} {g gv base : Nat} {e : TypeId} {size n : Nat} {v vJ vA : Value} {xs : List Value} {per cap hold lock : Int} {o : Obj} (he : 63 ≠ e) (h3 : wr.ownsRow base e size v n xs) (h7 : Box wr gv 63 #[vJ, vA, .int .i64 per, .int .i64 cap, .int .i64 hold, .int .i64 lock]) (hg5 : wr.grownBy w5 (some g)) (hg : g < base) (hgv : base ≤ gv) (hg7 : (w5.alloc o).grownBy w7 v.ownBlock) : Box w7 gv 63 #[vJ, vA, .int .i64 per, .int .i64 cap, .int .i64 hold, .int .i64 lock] := by
  have B5 := h7.grown hg5 (fun e => by injection e with e; omega)
  have o5 := own_deck h3 hg5 hg
  refine (B5.alloc o).grown hg7 fun eq => ?_
  rcases own_form o5 with ⟨hv, _⟩ | ⟨q, cap', cur, hv, _, hb, _⟩
  · rw [hv] at eq; cases eq
  · rw [hv] at eq
    have eq' : gv = q := by simpa [Value.ownBlock] using eq
    subst eq'
    exact boxNe B5 hb he rfl
theorem keep_put6 {w : World} {g : Nat} (hg : ¬ IntBlk w g) (u0 u1 u2 u3 u4 u5 : Value) : Keep w ((((((w.setCell ⟨g, 0, none⟩ u0).setCell ⟨g, 1, none⟩ u1).setCell ⟨g, 2, none⟩ u2).setCell ⟨g, 3, none⟩ u3).setCell ⟨g, 4, none⟩ u4).setCell ⟨g, 5, none⟩ u5) :=
  ⟨by simp, fun b hb => by
    have hne : b ≠ g := fun e => by subst e; exact hg hb
    rw [Below.heap_setCell _ _ _ b hne, Below.heap_setCell _ _ _ b hne, Below.heap_setCell _ _ _ b hne, Below.heap_setCell _ _ _ b hne, Below.heap_setCell _ _ _ b hne, Below.heap_setCell _ _ _ b hne]⟩
/-- What Config leaves. -/
def DCPost (g : Nat) (w : World) (e : Ending) (w' : World) : Prop :=
  ∃ (gj cj ga ca : Nat) (csJ csA : List Value) (Js : List Jd) (Ags : List Ad) (per cap hold lock : Int), e = .returned (.agg #[.slice (some ⟨gj, 0, none⟩) Js.length cj, .slice (some ⟨ga, 0, none⟩) Ags.length ca, .int .i64 per, .int .i64 cap, .int .i64 hold, .int .i64 lock]) ∧
    (∀ (j : Nat) (u : Value), csJ[j]? = some u → w'.cell? ⟨gj, j, none⟩ = some u) ∧ RowE (JElem0 w') Js csJ ∧ (∀ (j : Nat) (u : Value), csA[j]? = some u → w'.cell? ⟨ga, j, none⟩ = some u) ∧ RowE (AElem0 w') Ags csA ∧ gj < w'.heap.size ∧ ga < w'.heap.size ∧
    1 ≤ Js.length ∧ Js.length ≤ 2 ∧ 1 ≤ Ags.length ∧ Ags.length ≤ 3 ∧ cfgOk Js Ags per cap hold lock = true ∧ w.grownBy w' (some g)

set_option maxRecDepth 100000 in
set_option maxHeartbeats 8000000 in
theorem dconfig_any (g : Nat) (ri : Int) (w : World) (hd : HasDeck w g) (hr0 : 0 ≤ ri) (hr1 : ri ≤ 63) :
    Calls Try.prog 40 #[.pointer (some ⟨g, 0, none⟩), .int .i64 ri] w fun e w' => DCPost g w e w' := by
  have hgw := hd.lt
  have hdH := Lib.hid hd
  clear hd
  obtain ⟨j0, hj0, jz0, jz1, jz2⟩ := info_parts jn_info
  obtain ⟨a0, ha0, az0, az1, az2⟩ := info_parts ag_info
  go_enter Try.func40, Try.ntmps40
  go_wp2_with fail
  have hX : Hid (Box (w.alloc (.cells #[.slice none 0 0, .slice none 0 0, .int .i64 0, .int .i64 0, .int .i64 0, .int .i64 0] 63)) w.heap.size 63 #[.slice none 0 0, .slice none 0 0, .int .i64 0, .int .i64 0, .int .i64 0, .int .i64 0]) := Box.new _ _ _
  have hd0 : Hid (HasDeck (w.alloc (.cells #[.slice none 0 0, .slice none 0 0, .int .i64 0, .int .i64 0, .int .i64 0, .int .i64 0] 63)) g) := hdH.out.alloc _
  have hz0 : w.heap.size < (w.alloc (.cells #[.slice none 0 0, .slice none 0 0, .int .i64 0, .int .i64 0, .int .i64 0, .int .i64 0] 63)).heap.size := by simp
  have ho0 : Hid (w.grownBy (w.alloc (.cells #[.slice none 0 0, .slice none 0 0, .int .i64 0, .int .i64 0, .int .i64 0, .int .i64 0] 63)) (some g)) := only_below ((Below.refl _ _).alloc (Nat.le_refl _) _) _
  generalize (w.alloc (.cells #[.slice none 0 0, .slice none 0 0, .int .i64 0, .int .i64 0, .int .i64 0, .int .i64 0] 63)) = W at hX hd0 hz0 ho0 ⊢
  have hgW : g < W.heap.size := by omega
  have hoW : Hid (W.grownBy W (some g)) := only_refl _ _
  refine (range_has g 1 4 W hd0.out (by omega) (by omega) (by omega)).mono ?_; rintro e w1 ⟨per, rfl, perl, peru, hdr⟩
  have hdw1 := Lib.hid hdr.deck
  have how1 : Hid (W.grownBy w1 (some g)) := only_trans hoW.out hdr.only
  clear hdr
  go_wp2_with fail
  refine (next_has g 4 w1 hdw1.out (by omega) (by omega)).mono ?_; rintro e w2 ⟨cap, rfl, capl, capu, hdr⟩
  have hdw2 := Lib.hid hdr.deck
  have how2 : Hid (W.grownBy w2 (some g)) := only_trans how1.out hdr.only
  clear hdr
  go_wp2_with fail
  refine (range_has g 1 3 w2 hdw2.out (by omega) (by omega) (by omega)).mono ?_; rintro e w3 ⟨hold, rfl, holdl, holdu, hdr⟩
  have hdw3 := Lib.hid hdr.deck
  have how3 : Hid (W.grownBy w3 (some g)) := only_trans how2.out hdr.only
  clear hdr
  go_wp2_with fail
  refine (next_has g 5 w3 hdw3.out (by omega) (by omega)).mono ?_; rintro e w4 ⟨lock, rfl, lockl, locku, hdr⟩
  have hdw4 := Lib.hid hdr.deck
  have how4 : Hid (W.grownBy w4 (some g)) := only_trans how3.out hdr.only
  clear hdr
  go_upto_region 2 with fail
  have hcr0 : Hid (CR W g w4.heap.size per cap hold lock 0 0 (w4.alloc (.cells #[.slice none 0 0, .slice none 0 0, .int .i64 per, .int .i64 cap, .int .i64 hold, .int .i64 lock] 63))) := ⟨⟨.slice none 0 0, .slice none 0 0, [], [], [], [], rfl, rfl, World.ownsRow_nil _ _ _ _, rfl, World.ownsRow_nil _ _ _ _, rfl, Box.new _ _ _, (fun d hd => by simp at hd), (fun d hd => by simp at hd), fun _ => rfl, fun _ => rfl⟩, hdw4.out.alloc _, only_alloc how4.out _⟩
  have hgvz := how4.out.size
  generalize (w4.alloc (.cells #[.slice none 0 0, .slice none 0 0, .int .i64 per, .int .i64 cap, .int .i64 hold, .int .i64 lock] 63)) = Y at hcr0 ⊢
  obtain ⟨gv, hgve⟩ : ∃ x, x = w4.heap.size := ⟨_, rfl⟩
  rw [← hgve] at hcr0 hgvz ⊢
  have hdY : Hid (HasDeck Y g) := hcr0.out.deck
  clear hgve hdw1 hdw2 hdw3 hdw4 how1 how2 how3 how4 hd0 hoW
  go_wp2_with fail
  refine (next_has g 2 Y hdY.out (by omega) (by omega)).mono ?_; rintro e w5 ⟨kv, rfl, k0, k1, hdr⟩
  have hcr1 : Hid (CR W g gv per cap hold lock 0 0 w5) := hcr0.out.next hdr hgW hgvz
  obtain ⟨kn, rfl⟩ : ∃ k : Nat, kv = (k : Int) := ⟨kv.toNat, by omega⟩
  clear hdr hcr0 hdY
  go_wp2_with fail
  go_loopw [6] (fun v6 wr => ∃ (k n : Nat), v6 = .int .i64 (k : Int) ∧ 1 ≤ k + n ∧ k + n ≤ 2 ∧ CR W g gv per cap hold lock n 0 wr) (fun v6 _ => (intOf v6).toNat)
  case atStart => exact ⟨1 + kn, 0, by go_num, by omega, by omega, hcr1.out⟩
  case round =>
    obtain ⟨k, n, rfl, hkn1, hkn2, hcr⟩ := hrel
    have hcrH := Lib.hid hcr
    obtain ⟨⟨vJ, vA, csJ, csA, Js, Ags, p1, p2, p3, p4, p5, p6, p7, p8, p9, p10, p11⟩, hdk, hon⟩ := hcr
    have p3H := Lib.hid p3
    have p4H := Lib.hid p4
    have p5H := Lib.hid p5
    have p6H := Lib.hid p6
    have p7H := Lib.hid p7
    have p8H := Lib.hid p8
    have p9H := Lib.hid p9
    have p10H := Lib.hid p10
    have p11H := Lib.hid p11
    have p1H := Lib.hid p1
    have p2H := Lib.hid p2
    have hdkH := Lib.hid hdk
    have honH := Lib.hid hon
    have hzo := hon.size
    have o0 := p7.cell 0
    have o1 := p7.cell 1
    have o2 := p7.cell 2
    have o3 := p7.cell 3
    have o4 := p7.cell 4
    have o5 := p7.cell 5
    have of := p7.frozen
    have oz := p7.lt
    simp at o0 o1 o2 o3 o4 o5
    clear p1 p2 p3 p4 p5 p6 p7 p8 p9 p10 p11 hdk hon
    clear hcr1
    by_cases hk : 0 < k
    · have hki : (0 : Int) < (k : Int) := by omega
      go_upto_region 5 with fail
      have hdd : Hid (HasDeck wr.drew g) := hdkH.out.drew
      have hM : Hid (n + 1 ≤ maxLen) := Lib.hid (by unfold maxLen; omega)
      have hY : Hid ((n + 1) * 56 ≤ 140737488355328) := Lib.hid (by omega)
      go_region_law (first
        | (refine step_append_lies (w := _) rfl (.tmp 25) (.tmp 28) 57 rfl W.heap.size 26 j0 (.agg #[.slice none 0 0, .slice none 0 0, .int .i64 0]) 3 56 Try.underlying57 hj0 jz0 jz1 jz2 rfl (by decide) vJ n csJ rfl ((own_deck p3H.out hgj.out hgW).alloc _) ⟨w6.heap.size, 0, none⟩ 1 1 [.slice (some ⟨gp, 0, none⟩) P.length capp, .slice (some ⟨gc, 0, none⟩) P.length capc, .int .i64 st] rfl rfl (fun j u hu => by exact news_new w6 [.slice (some ⟨gp, 0, none⟩) P.length capp, .slice (some ⟨gc, 0, none⟩) P.length capc, .int .i64 st] _ j u hu) (fun u hu => by simp at hu; rcases hu with rfl | rfl | rfl <;> rfl) (by decide) hM.out hY.out (by have := hgj.out.size; simp; omega) _ rfl ?_; intro g7 c7 w7 hown7 hg7 hge7 hgz7; have b7 := cr_box (by decide) p3H.out p7H.out hgj.out hgW hgvz hg7; have b70 := b7.cell 0; have b7f := b7.frozen; have b7z := b7.lt; simp at b70)
        | (go_simp; go_at_call 15; refine (junc_any g wr.drew hdd.out).mono ?_; rintro e w6 ⟨gp, gc, capp, capc, nn, P, ex, st, rfl, hPs, hn6, hPok, st0, st2, hPh, hC, hd6, hg6⟩; have hgj : Hid (wr.grownBy w6 (some g)) := only_of_drew hg6; have b6 := p7H.out.grown hgj.out (fun e => by injection e with e; omega); have b60 := b6.cell 0; have b6z := b6.lt; simp at b60; have hm6 := Lib.hid (made_of hPs hn6 hPok st0 st2); have hPhH := Lib.hid hPh; have hCH := Lib.hid hC; have hd6H := Lib.hid hd6; clear hPs hPok hPh hC hd6 hg6 b6))
      all_goals
        have hel : JElem0 w6 [.slice (some ⟨gp, 0, none⟩) P.length capp, .slice (some ⟨gc, 0, none⟩) P.length capc, .int .i64 st] ⟨P, ints (tableOf P ex), st⟩ := ⟨gp, capp, gc, capc, by simp [ints_length, tableOf_length], hPhH.out, hCH.out, hm6.out.n1, by have := hm6.out.n1; simp [ints_length, tableOf_length]; omega, by have := hm6.out.n8; dsimp only; omega, by have := hm6.out.n8; simp [ints_length, tableOf_length]; omega⟩
        have hcr' := Lib.hid (CR.addJ p1H.out p2H.out p3H.out p4H.out p5H.out p6H.out p7H.out p8H.out p9H.out p10H.out p11H.out hdkH.out honH.out hgW hgvz hel (hm6.out.valid ex) hgj.out hd6H.out hg7 hown7)
        clear hel hg7 hown7 b7f b70 b7z b60 b6z
        clear o0 o1 o2 o3 o4 o5 of oz
        go_wp2_with fail
        go_roundw
        case rel => exact ⟨k - 1, n + 1, by go_num, by omega, by omega, hcr'.out⟩
        case measure => simp [intOf]; omega
    · have hki : ¬ (0 : Int) < (k : Int) := by omega
      obtain rfl : k = 0 := by omega
      clear o0 o1 o2 o3 o4 o5 of oz
      have hn1 : 1 ≤ n := by omega
      have hn2 : n ≤ 2 := by omega
      clear p1H p2H p3H p4H p5H p6H p7H p8H p9H p10H p11H honH hzo
      go_wp2_with fail
      refine (next_has g 3 wr hdkH.out (by omega) (by omega)).mono ?_; rintro e w6 ⟨mv, rfl, m0, m1, hdr⟩
      have hcr2 : Hid (CR W g gv per cap hold lock n 0 w6) := hcrH.out.next hdr hgW hgvz
      obtain ⟨mn, rfl⟩ : ∃ k : Nat, mv = (k : Int) := ⟨mv.toNat, by omega⟩
      have hm2 : mn ≤ 2 := by omega
      clear hdr hcrH hdkH
      go_wp2_with fail
      go_loopw [34] (fun v34 wr => ∃ i : Nat, v34 = .int .i64 (i : Int) ∧ i ≤ 1 + mn ∧ CR W g gv per cap hold lock n i wr) (fun v34 _ => 1 + mn - (intOf v34).toNat)
      case atStart => exact ⟨0, rfl, by omega, hcr2.out⟩
      case round =>
        obtain ⟨i, rfl, hi, hcr⟩ := hrel
        have hcrH := Lib.hid hcr
        obtain ⟨⟨vJ, vA, csJ, csA, Js, Ags, p1, p2, p3, p4, p5, p6, p7, p8, p9, p10, p11⟩, hdk, hon⟩ := hcr
        have p3H := Lib.hid p3
        have p4H := Lib.hid p4
        have p5H := Lib.hid p5
        have p6H := Lib.hid p6
        have p7H := Lib.hid p7
        have p8H := Lib.hid p8
        have p9H := Lib.hid p9
        have p10H := Lib.hid p10
        have p11H := Lib.hid p11
        have p1H := Lib.hid p1
        have p2H := Lib.hid p2
        have hdkH := Lib.hid hdk
        have honH := Lib.hid hon
        have hzo := hon.size
        have o0 := p7.cell 0
        have o1 := p7.cell 1
        have o2 := p7.cell 2
        have o3 := p7.cell 3
        have o4 := p7.cell 4
        have o5 := p7.cell 5
        have of := p7.frozen
        have oz := p7.lt
        simp at o0 o1 o2 o3 o4 o5
        clear p1 p2 p3 p4 p5 p6 p7 p8 p9 p10 p11 hdk hon
        clear hcr2
        by_cases him : i < 1 + mn
        · have hki : (i : Int) < 1 + (mn : Int) := by omega
          go_upto_region 9 with fail
          have hdd : Hid (HasDeck wr.drew g) := hdkH.out.drew
          have hM : Hid (i + 1 ≤ maxLen) := Lib.hid (by unfold maxLen; omega)
          have hY : Hid ((i + 1) * 96 ≤ 140737488355328) := Lib.hid (by omega)
          go_region_law (first
            | (refine step_append_lies (w := _) rfl (.tmp 38) (.tmp 43) 61 rfl W.heap.size 66 a0 (.agg #[.slice none 0 0, .int .i64 0, .int .i64 0, .slice none 0 0, .int .i64 0, .int .i64 0, .int .i64 0, .int .i64 0]) 8 96 Try.underlying61 ha0 az0 az1 az2 rfl (by decide) vA i csA rfl ((own_deck p5H.out hgj.out hgW).alloc _) ⟨w7.heap.size, 0, none⟩ 1 1 [.slice As dd.sl sc, .int .i64 dd.ri, .int .i64 dd.cls, .slice (some ⟨gl, 0, none⟩) dd.lims.length lc, .int .i64 dd.rq, .int .i64 dd.se, .int .i64 dd.ra, .int .i64 dd.bu] rfl rfl (fun j u hu => by exact news_new w7 [.slice As dd.sl sc, .int .i64 dd.ri, .int .i64 dd.cls, .slice (some ⟨gl, 0, none⟩) dd.lims.length lc, .int .i64 dd.rq, .int .i64 dd.se, .int .i64 dd.ra, .int .i64 dd.bu] _ j u hu) (fun u hu => by simp at hu; rcases hu with rfl | rfl | rfl | rfl | rfl | rfl | rfl | rfl <;> rfl) (by decide) hM.out hY.out (by have := hgj.out.size; simp; omega) _ rfl ?_; intro g8 c8 w8 hown8 hg8 hge8 hgz8; have b8 := cr_box (by decide) p5H.out p7H.out hgj.out hgW hgvz hg8; have b80 := b8.cell 1; have b8f := b8.frozen; have b8z := b8.lt; simp at b80)
            | (go_simp; go_at_call 61; refine (dagency_any g i ri wr.drew hdd.out hr0 hr1).mono ?_; rintro e w7 ⟨cl, dd, rfl, ⟨As, sc, gl, lc, rfl, hae⟩, hok, hd7, hg7⟩; have haeH := Lib.hid hae; have hokH := Lib.hid hok; have hgj : Hid (wr.grownBy w7 (some g)) := only_of_drew hg7; have b6 := p7H.out.grown hgj.out (fun e => by injection e with e; omega); have b60 := b6.cell 1; have b6z := b6.lt; simp at b60; have hd7H := Lib.hid hd7; clear hae hok hd7 hg7 b6))
          all_goals
            have hel : AElem0 w7 [.slice As dd.sl sc, .int .i64 dd.ri, .int .i64 dd.cls, .slice (some ⟨gl, 0, none⟩) dd.lims.length lc, .int .i64 dd.rq, .int .i64 dd.se, .int .i64 dd.ra, .int .i64 dd.bu] dd := ⟨As, sc, gl, lc, rfl, haeH.out⟩
            have hcr' := Lib.hid (CR.addA p1H.out p2H.out p3H.out p4H.out p5H.out p6H.out p7H.out p8H.out p9H.out p10H.out p11H.out hdkH.out honH.out hgW hgvz hel hokH.out hgj.out hd7H.out hg8 hown8)
            clear hel hg8 hown8 b8f b80 b8z b60 b6z
            clear o0 o1 o2 o3 o4 o5 of oz
            go_wp2_with fail
            go_roundw
            case rel => exact ⟨i + 1, by go_num, by omega, hcr'.out⟩
            case measure => simp [intOf]; omega
        · have hki : ¬ (i : Int) < 1 + (mn : Int) := by omega
          obtain rfl : i = 1 + mn := by omega
          have hXr := hX.out.grown honH.out (fun e => by injection e with e; omega)
          have x0 := hXr.cell 0
          have x1 := hXr.cell 1
          have x2 := hXr.cell 2
          have x3 := hXr.cell 3
          have x4 := hXr.cell 4
          have x5 := hXr.cell 5
          have xf := hXr.frozen
          have xz := hXr.lt
          simp at x0 x1 x2 x3 x4 x5
          have hXr := Lib.hid hXr
          obtain ⟨gx, hgx⟩ : ∃ x, x = w.heap.size := ⟨_, rfl⟩
          rw [← hgx] at hXr x0 x1 x2 x3 x4 x5 xf xz hz0 ⊢
          have hgxw : w.heap.size ≤ gx := by omega
          rcases own_form p3H.out with ⟨_, h0⟩ | ⟨gj, cj, curJ, rfl, hbj, hBj, hlej, hcj⟩
          · omega
          rcases own_form p5H.out with ⟨_, h0⟩ | ⟨ga, ca, curA, rfl, hba, hBa, hlea, hca⟩
          · omega
          have hBjH := Lib.hid hBj
          have hBaH := Lib.hid hBa
          have hcjH := Lib.hid hcj
          have hcaH := Lib.hid hca
          have hej : gj ≠ gx := by omega
          have hea : ga ≠ gx := by omega
          have hzj := hBj.lt
          have hza := hBa.lt
          have hoF : Hid (w.grownBy wr (some g)) := only_trans ho0.out honH.out
          clear hBj hBa hcj hca
          have hcfg : Hid (cfgOk Js Ags per cap hold lock = true) := Lib.hid (by
            have e1 := p1H.out
            have e2 := p2H.out
            unfold cfgOk
            rw [e1, e2, List.all_eq_true.2 p8H.out, List.all_eq_true.2 p9H.out]
            simp [wi]
            omega)
          have hkeep : Hid (Keep wr ((((((wr.setCell ⟨gx, 0, none⟩ (.slice (some ⟨gj, 0, none⟩) n cj)).setCell ⟨gx, 1, none⟩ (.slice (some ⟨ga, 0, none⟩) (1 + mn) ca)).setCell ⟨gx, 2, none⟩ (.int .i64 per)).setCell ⟨gx, 3, none⟩ (.int .i64 cap)).setCell ⟨gx, 4, none⟩ (.int .i64 hold)).setCell ⟨gx, 5, none⟩ (.int .i64 lock))) := Lib.hid (keep_put6 (hXr.out.noInt fun z e => by simp at e) _ _ _ _ _ _)
          have hRF : Hid (Box ((((((wr.setCell ⟨gx, 0, none⟩ (.slice (some ⟨gj, 0, none⟩) n cj)).setCell ⟨gx, 1, none⟩ (.slice (some ⟨ga, 0, none⟩) (1 + mn) ca)).setCell ⟨gx, 2, none⟩ (.int .i64 per)).setCell ⟨gx, 3, none⟩ (.int .i64 cap)).setCell ⟨gx, 4, none⟩ (.int .i64 hold)).setCell ⟨gx, 5, none⟩ (.int .i64 lock)) gx 63 #[.slice (some ⟨gj, 0, none⟩) n cj, .slice (some ⟨ga, 0, none⟩) (1 + mn) ca, .int .i64 per, .int .i64 cap, .int .i64 hold, .int .i64 lock]) := (((((hXr.out.put 0 _).put 1 _).put 2 _).put 3 _).put 4 _).put_eq (i := 5) (by simp)
          have hend : Hid (DCPost g w (.returned (.agg #[.slice (some ⟨gj, 0, none⟩) n cj, .slice (some ⟨ga, 0, none⟩) (1 + mn) ca, .int .i64 per, .int .i64 cap, .int .i64 hold, .int .i64 lock])) ((((((wr.setCell ⟨gx, 0, none⟩ (.slice (some ⟨gj, 0, none⟩) n cj)).setCell ⟨gx, 1, none⟩ (.slice (some ⟨ga, 0, none⟩) (1 + mn) ca)).setCell ⟨gx, 2, none⟩ (.int .i64 per)).setCell ⟨gx, 3, none⟩ (.int .i64 cap)).setCell ⟨gx, 4, none⟩ (.int .i64 hold)).setCell ⟨gx, 5, none⟩ (.int .i64 lock))) := by
            have e1 := p1H.out
            have e2 := p2H.out
            refine ⟨gj, cj, ga, ca, csJ, csA, Js, Ags, per, cap, hold, lock, by rw [e1, e2], fun j u hu => ?_, p4H.out.mono (fun _ _ h => h.keep hkeep.out), fun j u hu => ?_, p6H.out.mono (fun _ _ h => h.keep hkeep.out), by simpa using hzj, by simpa using hza, by omega, by omega, by omega, by omega, hcfg.out, (only_far (only_far (only_far (only_far (only_far (only_far hoF.out hgxw _) hgxw _) hgxw _) hgxw _) hgxw _) hgxw _)⟩
            · rw [(((((((hBjH.out.far hej _).far hej _).far hej _).far hej _).far hej _).far hej _)).cell j]; exact hcjH.out j u hu
            · rw [(((((((hBaH.out.far hea _).far hea _).far hea _).far hea _).far hea _).far hea _)).cell j]; exact hcaH.out j u hu
          clear hkeep hcfg p1H p2H p3H p4H p5H p6H p7H p8H p9H p10H p11H hBjH hBaH hcjH hcaH
          have hgvx : gv ≠ gx := by omega
          have hgxv : gx ≠ gv := by omega
          clear hgx hgxw hej hea hzj hza hoF
          go_wp2_with fail
          clear x0 x1 x2 x3 x4 x5 xf xz o0 o1 o2 o3 o4 o5 of oz
          generalize ((((((wr.setCell ⟨gx, 0, none⟩ (.slice (some ⟨gj, 0, none⟩) n cj)).setCell ⟨gx, 1, none⟩ (.slice (some ⟨ga, 0, none⟩) (1 + mn) ca)).setCell ⟨gx, 2, none⟩ (.int .i64 per)).setCell ⟨gx, 3, none⟩ (.int .i64 cap)).setCell ⟨gx, 4, none⟩ (.int .i64 hold)).setCell ⟨gx, 5, none⟩ (.int .i64 lock)) = WF at hRF hend ⊢
          have z0 := hRF.out.cell 0
          have z1 := hRF.out.cell 1
          have z2 := hRF.out.cell 2
          have z3 := hRF.out.cell 3
          have z4 := hRF.out.cell 4
          have z5 := hRF.out.cell 5
          have zz := hRF.out.lt
          simp at z0 z1 z2 z3 z4 z5
          refine bodyPost_ret (v := .agg #[.slice (some ⟨gj, 0, none⟩) n cj, .slice (some ⟨ga, 0, none⟩) (1 + mn) ca, .int .i64 per, .int .i64 cap, .int .i64 hold, .int .i64 lock]) (by simp [results, Try.results40, go_sem, z0, z1, z2, z3, z4, z5, zz]) rfl hend.out

end Go.Proofs.Ytepodpdcillkmaa
