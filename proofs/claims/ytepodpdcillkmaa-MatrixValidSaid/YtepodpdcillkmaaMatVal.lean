/- The walk of signalbrokerlaw06.MatrixValid. -/
import Derived.Test.YtepodpdcillkmaaMatLaw
import Derived.StillTailTactics
import Derived.Deep.AppendLies
import Derived.Lib.SmallJoins
namespace Go.Proofs.Ytepodpdcillkmaa
open Go.RowKit

theorem own_ints {w : World} {base g cap : Nat} {t : TypeId} {xs : List Int} (h : w.ownsRow base t 1 (.slice (some ⟨g, 0, none⟩) xs.length cap) xs.length (xs.map (Value.int .i64))) {B : Nat} (hB : g < B) : Ints w B (some ⟨g, 0, none⟩) xs := fun i hi => by
  refine ⟨g, 0, rfl, hB, ?_⟩
  rw [Nat.zero_add, h.cellAt i (by omega)]
  simp [List.getD, hi]
theorem conflict_right (A : Option Addr) (cap B : Nat) (c : List Int) (p q : Int) (w : World) (hA : Ints w B A c) (hn : c.length ≤ 60) :
    Calls Try.prog 25 #[.slice A c.length cap, .int .i64 p, .int .i64 q] w fun e w' => e = .returned (.bool (cf c p q)) ∧ w' = w :=
  (conflict_any A cap B c p q w hA hn).mono fun _ _ ⟨a, b⟩ => ⟨a, b.symm⟩
theorem rconflict_right (A : Option Addr) (cap B : Nat) (c : List Int) (p q : Int) (w : World) (hA : Ints w B A c) (hn : c.length ≤ 60) :
    Calls Try.prog 26 #[.slice A c.length cap, .int .i64 p, .int .i64 q] w fun e w' => e = .returned (.bool (cf c p q)) ∧ w' = w :=
  (rconflict_any A cap B c p q w hA hn).mono fun _ _ ⟨a, b⟩ => ⟨a, b.symm⟩
theorem ints_values (M : List Nat) : (ints M).map (Value.int .i64) = (cellsOf M).toList := by simp [ints, cellsOf, Function.comp_def]
theorem ints_set (M : List Nat) (k x : Nat) : (ints M).set k (x : Int) = ints (M.set k x) := by simp [ints, List.map_set]

set_option maxRecDepth 100000 in
set_option maxHeartbeats 1000000 in
theorem val_walk (R : Option Addr) (rlen rcap : Nat) (rs : List Int) (A : Option Addr) (len cap : Nat) (zs : List Int) (p q : Int) (w : World) (hR : IsRow w R rlen rcap rs) (hA : IsRow w A len cap zs) (_ : (Lit.int .i64 p).wf = true) (_ : (Lit.int .i64 q).wf = true) :
    Calls Try.prog 5 #[.slice R rlen rcap, .slice A len cap, .int .i64 p, .int .i64 q] w fun e w' => e = .returned (.bool true) ∧ Below w.heap.size w w' := by
  obtain ⟨xs, rfl, hI, hm⟩ := hA.opened
  obtain ⟨ys, rfl, hJ, hmy⟩ := hR.opened
  have HI := Lib.hid hI
  have HJ := Lib.hid hJ
  clear hI hJ
  by_cases hbig : 20 < ys.length
  · go_enter Try.func5, Try.ntmps5
    go_wp2_with fail
    refine (awake6_any _).mono ?_; rintro e w4 ⟨rfl, hb4⟩
    go_wp2_with fail
    go_ret
    exact ⟨rfl, hb4⟩
  obtain ⟨i0, hi0, hz0, hz1, hz2⟩ := info_parts int_info
  go_enter Try.func5, Try.ntmps5
  go_wp2_with fail
  refine (mknew_any A cap xs w HI.out hm).mono ?_; rintro e w1 ⟨rfl, hd, hb1, hz⟩
  have hdH := Lib.hid hd
  have hb1H := Lib.hid hb1
  clear hd hb1
  go_wp2_with fail
  refine (rows_any _ xs _ hdH.out).mono ?_; rintro e w2 ⟨gb, M, l', rfl, hsym, h1, h8, hgb, hbox, hd2, hg2⟩
  have hbel := Lib.hid (after_rows hb1H.out hg2)
  have hbelz := (after_rows hb1H.out hg2).size
  have hsymH := Lib.hid hsym
  have hglt := hbox.lt
  have hboxH := Lib.hid hbox
  have hnews : Hid (∀ j u, ((ints M).map (Value.int .i64))[j]? = some u → w2.cell? ((⟨gb, 0, none⟩ : Addr).add j) = some u) := by
    intro j u hu
    rw [ints_values] at hu
    rw [Addr.add_lit, Nat.zero_add, hbox.cell j]
    simpa using hu
  clear hsym hbox hd2 hg2 hz
  rw [← ints_length M] at h1 h8 ⊢
  go_wp2_with (at_builtin; refine wpList_append_own _ rfl (.const (.slice none 0 0)) (.tmp 22) 22 rfl w2.heap.size 3 i0 (.int .i64 0) 1 8 Try.underlying22 hi0 hz0 hz1 hz2 rfl (by decide) _ 0 [] rfl (World.ownsRow_nil _ _ _ _) ⟨gb, 0, none⟩ (ints M).length (ints M).length ((ints M).map (Value.int .i64)) rfl (by simp) hnews.out (ints_oneCell _ _) ?c3 ?c4 ?c5 ?_)
  case c3 => unfold maxLen; omega
  case c4 => omega
  case c5 => omega
  intro v3 w3 hown3 hg3 _
  obtain ⟨gc, capc, hv3⟩ := Joins.ownsRow_form hown3 (by omega)
  subst hv3
  have hlt3 := hown3.lt gc rfl
  have hbel3 : Hid (Below w2.heap.size w2 w3) := (Below.refl _ _).grown hg3 (Nat.le_refl _) (by simp [Value.ownBlock])
  have hz3 := hg3.size
  have k0 : 0 ≤ p % (ints M).length := Int.emod_nonneg _ (by omega)
  have k1 : p % (ints M).length < (ints M).length := Int.emod_lt_of_pos _ (by omega)
  obtain ⟨K, hK⟩ : ∃ K : Nat, p % (ints M).length = (K : Int) := ⟨_, (Int.toNat_of_nonneg k0).symm⟩
  rw [hK] at k0 k1
  have j0 : 0 ≤ q % 10 := Int.emod_nonneg _ (by omega)
  have j1 : q % 10 < 10 := Int.emod_lt_of_pos _ (by omega)
  obtain ⟨Jq, hJq⟩ : ∃ K : Nat, q % 10 = (K : Int) := ⟨_, (Int.toNat_of_nonneg j0).symm⟩
  rw [hJq] at j0 j1
  have hKlt : K < (ints M).length := by omega
  have hc := hown3.cellAt K (by omega)
  have hf := hown3.frozenAt K
  rw [List.getElem?_map, List.getElem?_eq_getElem hKlt] at hc
  go_wp2_with fail
  simp only [Option.map_some] at hc
  generalize (ints M)[K] = mk at hc
  refine wp_region_still_tail 13 (by kernel_rfl) (by kernel_rfl) ?_
  simp only [List.take_succ_cons, List.take_zero, List.drop_succ_cons, List.drop_zero]
  repeat still_step
  still_call (mod_right _ _ _ (by omega) (by omega))
  rw [hK]
  repeat still_step
  still_call (mod_right _ _ _ (by omega) (by omega))
  rw [hJq]
  repeat still_step
  refine wpStill_nil ?_
  change wpList _ _ _ _ _ w3.drew
  have hj0 : (0 : Int) ≤ (Jq : Int) := by omega
  go_wp2_with fail
  generalize bits BinOp.xor IntKind.i64 mk (wrap64 (2 ^ min Jq 64)) = V
  have hst := (hown3.stored K (.int .i64 V)).1
  have hbs : (((ints M).map (Value.int .i64)).set K (.int .i64 V)) = ((ints M).set K V).map (Value.int .i64) := by rw [List.map_set]
  rw [hbs] at hst
  have hbl : ((ints M).set K V).length = (ints M).length := List.length_set
  generalize (ints M).set K V = bs at hst hbl
  have hbI : Ints (w3.setCell ⟨gc, K, none⟩ (.int .i64 V)) w3.heap.size (some ⟨gc, 0, none⟩) bs := own_ints (by rw [hbl]; exact hst) hlt3.2
  have hcI : Ints (w3.setCell ⟨gc, K, none⟩ (.int .i64 V)) w2.heap.size (some ⟨gb, 0, none⟩) (ints M) :=
    ((hboxH.out.ints hglt).below hbel3.out).below ((Below.refl _ _).setCell (p := ⟨gc, K, none⟩) hlt3.1 _)
  have hbel4 : Below w2.heap.size w2 (w3.setCell ⟨gc, K, none⟩ (.int .i64 V)) := hbel3.out.setCell (p := ⟨gc, K, none⟩) hlt3.1 _
  have hrI : Ints (w3.setCell ⟨gc, K, none⟩ (.int .i64 V)) w.heap.size R ys := (HJ.out.below hbel.out).below (hbel4.mono hbelz)
  have hbel5 : Below w.heap.size w (w3.setCell ⟨gc, K, none⟩ (.int .i64 V)) := hbel.out.trans (hbel4.mono hbelz)
  generalize hW4 : w3.setCell ⟨gc, K, none⟩ (.int .i64 V) = W4 at hbI hcI hrI hbel5 ⊢
  have hz4 : W4.heap.size = w3.heap.size := by rw [← hW4]; simp
  rw [← hz4]
  have hbox5 : Hid (Box (W4.alloc (.cells #[.slice R ys.length rcap, .slice (some ⟨gb, 0, none⟩) (ints M).length (ints M).length, .slice (some ⟨gc, 0, none⟩) (ints M).length capc] 22)) W4.heap.size 22 #[.slice R ys.length rcap, .slice (some ⟨gb, 0, none⟩) (ints M).length (ints M).length, .slice (some ⟨gc, 0, none⟩) (ints M).length capc]) := Box.new _ _ _
  have hz5 : w.heap.size ≤ W4.heap.size := by omega
  have hz6 : w2.heap.size ≤ W4.heap.size := by omega
  have hz7 : w3.heap.size ≤ W4.heap.size := by omega
  clear hz4
  have hbIH := Lib.hid (hbI.more hz7)
  have hcIH := Lib.hid (hcI.more hz6)
  have hrIH := Lib.hid (hrI.more hz5)
  have hbel5H := Lib.hid hbel5
  have hvM := Lib.hid (hsymH.out.valid (by rw [← ints_length M]; exact h1) (by rw [← ints_length M]; exact h8))
  clear hbI hcI hrI hbel5 hbel4 hst hbs hW4 hown3 hg3 hc hf hlt3
  have hthree : ∀ k : Nat, k < 3 → ∃ (A : Option Addr) (cap : Nat) (c : List Int), #[Value.slice R ys.length rcap, .slice (some ⟨gb, 0, none⟩) (ints M).length (ints M).length, .slice (some ⟨gc, 0, none⟩) (ints M).length capc][k]? = some (.slice A c.length cap) ∧ Ints W4 W4.heap.size A c ∧ c.length ≤ 20 := by
    intro k hk
    match k, hk with
    | 0, _ => exact ⟨R, rcap, ys, rfl, hrIH.out, by omega⟩
    | 1, _ => exact ⟨_, _, ints M, rfl, hcIH.out, by omega⟩
    | 2, _ => exact ⟨_, _, bs, by rw [hbl]; rfl, hbIH.out, by omega⟩
  have hthreeH := Lib.hid hthree
  clear hthree
  go_loopw [42] (fun v42 wr => ∃ k : Nat, k ≤ 3 ∧ v42 = .int .i64 k ∧ Below (W4.heap.size + 1) (W4.alloc (.cells #[.slice R ys.length rcap, .slice (some ⟨gb, 0, none⟩) (ints M).length (ints M).length, .slice (some ⟨gc, 0, none⟩) (ints M).length capc] 22)) wr) (fun v42 _ => 3 - (intOf v42).toNat)
  case atStart => exact ⟨0, by omega, rfl, (Below.refl _ _).drew⟩
  case round =>
    obtain ⟨k, hk, rfl, hbr⟩ := hrel
    have hbr4 : Hid (Below W4.heap.size W4 wr) := ((Below.refl _ _).alloc (Nat.le_refl _) _).trans (hbr.mono (by omega))
    have hzr := hbr.size
    simp at hzr
    by_cases hlt : k < 3
    · obtain ⟨A3, cap3, c, hcell, hci, hcl⟩ := hthreeH.out k hlt
      have hcc : wr.cell? ⟨W4.heap.size, k, none⟩ = some (.slice A3 c.length cap3) := ((hbox5.out.below hbr (by omega)).cell k).trans hcell
      have hciH := Lib.hid (hci.below hbr4.out)
      have hbrH := Lib.hid hbr
      clear hcell hci hbr
      go_wp2_with fail
      refine (valid_any _ _ _ c _ hciH.out (by omega)).mono ?_; rintro e w5 ⟨rfl, k5, rfl⟩
      obtain ⟨vb, hvb⟩ : ∃ b, validM c = b := ⟨_, rfl⟩
      rw [hvb]
      have hvbH := Lib.hid hvb
      clear hvb
      go_wp2_with fail
      refine (rvalid_any _ _ _ c _ (Ints.drewN hciH.out k5) (by omega)).mono ?_; rintro e w5 ⟨rfl, rfl⟩
      rw [hvbH.out]
      have hvv : (vb != vb) = false := by simp
      go_wp2_with fail
      refine (mod_any _ _ _ (by omega) (by omega)).mono ?_; rintro e w5 ⟨rfl, rfl⟩
      go_wp2_with fail
      refine (mod_any _ _ _ (by omega) (by omega)).mono ?_; rintro e w5 ⟨rfl, rfl⟩
      go_wp2_with fail
      have hbox6 : Hid (Box ((wr.drewN k5).alloc (.cells #[.int .i64 p, .int .i64 q, .int .i64 (p % 9), .int .i64 (q % 9)] 45)) wr.heap.size 45 #[.int .i64 p, .int .i64 q, .int .i64 (p % 9), .int .i64 (q % 9)]) := Box.new (wr.drewN k5) _ _
      have hbel6 : Hid (Below wr.heap.size wr ((wr.drewN k5).alloc (.cells #[.int .i64 p, .int .i64 q, .int .i64 (p % 9), .int .i64 (q % 9)] 45))) := (Quiet.below ⟨k5, rfl⟩ _).trans ((Below.refl wr.heap.size (wr.drewN k5)).alloc (show wr.heap.size ≤ (wr.drewN k5).heap.size from Nat.le_refl _) _)
      have hsz6 : Hid (((wr.drewN k5).alloc (.cells #[.int .i64 p, .int .i64 q, .int .i64 (p % 9), .int .i64 (q % 9)] 45)).heap.size = wr.heap.size + 1) := by show _ = _; simp
      generalize (wr.drewN k5).alloc (.cells #[.int .i64 p, .int .i64 q, .int .i64 (p % 9), .int .i64 (q % 9)] 45) = W6 at hbox6 hbel6 hsz6 ⊢
      obtain ⟨p9, hp9⟩ : ∃ x, x = p % 9 := ⟨_, rfl⟩
      obtain ⟨q9, hq9⟩ : ∃ x, x = q % 9 := ⟨_, rfl⟩
      rw [← hp9, ← hq9] at hbox6 ⊢
      clear hp9 hq9
      obtain ⟨wo, rfl⟩ : ∃ wo : World, wo = wr := ⟨_, rfl⟩
      go_loopw [61] (fun v61 wr => ∃ j : Nat, j ≤ 2 ∧ v61 = .int .i64 j ∧ Below W6.heap.size W6 wr) (fun v61 _ => 2 - (intOf v61).toNat)
      case atStart => exact ⟨0, by omega, rfl, Below.refl _ _⟩
      case round =>
        obtain ⟨j, hj, rfl, hb7⟩ := hrel
        have hz7' := hb7.size
        have hz8 : wo.heap.size < wr.heap.size := by have := hsz6.out; omega
        have hbox7 := hbox6.out.below hb7 (by have := hsz6.out; omega)
        have hb7H := Lib.hid hb7
        clear hb7
        by_cases hjt : j < 2
        · have e0 := hbox7.cell 0
          have e1 := hbox7.cell 1
          have e2 := hbox7.cell 2
          have e3 := hbox7.cell 3
          simp at e0 e1 e2 e3
          clear hbox7
          have hI7 : Hid (Ints wr wo.heap.size A3 c) := ((hciH.out.more (by omega)).below (hbel6.out)).below (hb7H.out.mono (by have := hsz6.out; omega))
          rcases (show j = 0 ∨ j = 1 by omega) with rfl | rfl
          · have hI8 : Hid (Ints (wr.alloc (.cells #[.int .i64 p, .int .i64 q] 45)) wo.heap.size A3 c) := hI7.out.below ((Below.refl wo.heap.size wr).alloc (by omega) _)
            go_wp2_with fail
            go_quiet ((first | (go_at_call 25; exact Calls.quiet_of_same (conflict_right _ _ _ c _ _ _ hI8.out (by omega))) | (go_at_call 26; exact Calls.quiet_of_same (rconflict_right _ _ _ c _ _ _ hI8.out (by omega)))))
            go_wp2_with fail
            go_roundw
            case rel => exact ⟨1, by omega, rfl, (hb7H.out.alloc hz7' _).trans (Quiet.below ⟨_, rfl⟩ _)⟩
            case measure => simp [intOf]
          · have hI8 : Hid (Ints (wr.alloc (.cells #[.int .i64 p9, .int .i64 q9] 45)) wo.heap.size A3 c) := hI7.out.below ((Below.refl wo.heap.size wr).alloc (by omega) _)
            go_wp2_with fail
            go_quiet ((first | (go_at_call 25; exact Calls.quiet_of_same (conflict_right _ _ _ c _ _ _ hI8.out (by omega))) | (go_at_call 26; exact Calls.quiet_of_same (rconflict_right _ _ _ c _ _ _ hI8.out (by omega)))))
            go_wp2_with fail
            go_roundw
            case rel => exact ⟨2, by omega, rfl, (hb7H.out.alloc hz7' _).trans (Quiet.below ⟨_, rfl⟩ _)⟩
            case measure => simp [intOf]
        · go_wp2_with fail
          go_roundw
          case rel =>
            exact ⟨k + 1, by omega, by go_num, hbrH.out.trans ((hbel6.out.mono (by omega)).trans (hb7H.out.mono (by have := hsz6.out; omega)))⟩
          case measure => simp [intOf]; omega
    · go_wp2_with fail
      refine (valid_any _ _ _ (ints M) _ (hcIH.out.below hbr4.out) (by omega)).mono ?_; rintro e w5 ⟨rfl, k5, rfl⟩
      rw [hvM.out]
      go_wp2_with fail
      refine (awake6_any _).mono ?_; rintro e w6 ⟨rfl, hb6⟩
      go_wp2_with fail
      go_ret
      exact ⟨rfl, hbel5H.out.trans ((hbr4.out.mono hz5).trans ((Quiet.below ⟨k5, rfl⟩ _).trans (hb6.mono (by have := hbr4.out.size; simp; omega))))⟩

end Go.Proofs.Ytepodpdcillkmaa
