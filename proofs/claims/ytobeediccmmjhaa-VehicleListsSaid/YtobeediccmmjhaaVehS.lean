/- (*Deck).Vehicles: some vehicles of an agency. -/
import Derived.Test.YtobeediccmmjhaaVehL
import Derived.Test.YtobeediccmmjhaaVehW
import Derived.Test.YtobeediccmmjhaaVehQ
namespace Go.Proofs.Ytobeediccmmjhaa
open Go.RowKit
set_option linter.unusedVariables false
set_option linter.unusedSimpArgs false

/-- The reference's Register, besides the deck. -/
theorem rregister_held (A : Option Addr) (cap n : Nat) (vs : List Veh) (acl : Int) (L : Option Addr) (lc : Nat) (lims : List Int) (id cl : Int) (W w : World) (g m : Nat)
    (h : DeckLe w g m ∧ W.grownBy w (some g) ∧ ∀ b o, b < W.heap.size → b ≠ g → w.cell? ⟨b, o, none⟩ = W.cell? ⟨b, o, none⟩)
    (hn : vs.length = n) (hll : lims.length = 4) (hA : Vehs W W.heap.size A vs) (hAg : ∀ a, A = some a → a.block ≠ g) (hm : n ≤ 1000) (hL : Ints W W.heap.size L lims) (hLg : ∀ a, L = some a → a.block ≠ g) (hacl : acl ≤ 3) (hS : Sl A n cap) :
    Calls Try.prog 22 #[.slice A n cap, .agg #[.slice none 0 0, .int .i64 0, .int .i64 acl, .slice L 4 lc, .int .i64 0, .int .i64 0, .int .i64 0, .int .i64 0], .agg #[.int .i64 id, .int .i64 cl], .int .i64 3] w
      fun e w' => ∃ v, e = .returned (.tuple #[v, .int .i64 (regE vs acl lims id cl)]) ∧ Hid (VList g v (regL vs acl lims id cl) w') ∧ Below w.heap.size w w' := by
  subst hn
  exact (rregister_any A cap vs none 0 0 0 acl L lc lims 0 0 0 0 id cl w (hA.only hAg h.2.1) hm (hL.only hLg h.2.1) hll hacl hS).mono fun e w' hp => by
    obtain ⟨v, h1, h2, h3⟩ := vlist_new hp h.1.lt
    exact ⟨v, h1, h2, h3⟩

theorem reg_len {vs : List Veh} {acl : Int} {lims : List Int} {id cl : Int} (hacl : acl ≤ 3) (h : regE vs acl lims id cl = 0) : (regL vs acl lims id cl).length ≤ 8 := by
  have := reg_valid hacl h
  unfold regL
  rw [if_pos h]
  exact ((validV_iff _).1 this).1

set_option maxRecDepth 100000 in
set_option maxHeartbeats 4000000 in
theorem vehicles_any (g m : Nat) (acl : Int) (L : Option Addr) (lc : Nat) (lims : List Int) (w : World) (hd : DeckLe w g m) (hL : Ints w w.heap.size L lims) (hLg : ∀ a, L = some a → a.block ≠ g) (hll : lims.length = 4) (hacl : acl ≤ 3) :
    Calls Try.prog 16 #[.pointer (some ⟨g, 0, none⟩), .agg #[.slice none 0 0, .int .i64 0, .int .i64 acl, .slice L 4 lc, .int .i64 0, .int .i64 0, .int .i64 0, .int .i64 0]] w
      fun e w' => ∃ v, e = .returned v ∧ ∃ vs, VL v vs w' ∧ vs.length ≤ 8 ∧ w.grownBy w' (some g) := by
  have hdH := Lib.hid hd
  have hLH := Lib.hid hL
  have hLgH := Lib.hid hLg
  have hllH := Lib.hid hll
  have hgw := hd.lt
  clear hd hL hLg hll
  go_enter Try.func16, Try.ntmps16
  go_wp2_with fail
  have hdW : Hid (DeckLe (w.alloc (.cells #[.slice none 0 0, .int .i64 0, .int .i64 acl, .slice L 4 lc, .int .i64 0, .int .i64 0, .int .i64 0, .int .i64 0] 27)) g m) := hdH.out.below ((Below.refl _ _).alloc (Nat.le_refl _) _)
  have hLW : Hid (Ints (w.alloc (.cells #[.slice none 0 0, .int .i64 0, .int .i64 acl, .slice L 4 lc, .int .i64 0, .int .i64 0, .int .i64 0, .int .i64 0] 27)) w.heap.size L lims) := hLH.out.below ((Below.refl _ _).alloc (by omega) _)
  have hbW : Hid (Below w.heap.size w (w.alloc (.cells #[.slice none 0 0, .int .i64 0, .int .i64 acl, .slice L 4 lc, .int .i64 0, .int .i64 0, .int .i64 0, .int .i64 0] 27))) := Lib.hid ((Below.refl _ _).alloc (Nat.le_refl _) _)
  have hJ : Hid (Box (w.alloc (.cells #[.slice none 0 0, .int .i64 0, .int .i64 acl, .slice L 4 lc, .int .i64 0, .int .i64 0, .int .i64 0, .int .i64 0] 27)) w.heap.size 27 #[.slice none 0 0, .int .i64 0, .int .i64 acl, .slice L 4 lc, .int .i64 0, .int .i64 0, .int .i64 0, .int .i64 0]) := Box.new _ _ _
  have hWz : (w.alloc (.cells #[.slice none 0 0, .int .i64 0, .int .i64 acl, .slice L 4 lc, .int .i64 0, .int .i64 0, .int .i64 0, .int .i64 0] 27)).heap.size = w.heap.size + 1 := World.size_alloc _ _
  generalize (w.alloc (.cells #[.slice none 0 0, .int .i64 0, .int .i64 acl, .slice L 4 lc, .int .i64 0, .int .i64 0, .int .i64 0, .int .i64 0] 27)) = W at hdW hLW hbW hJ hWz ⊢
  refine (next_le g m 8 W hdW.out (by omega) (by omega)).mono ?_; rintro e w1 ⟨k0, rfl, k00, k01, hd1, ho1⟩
  have hd1H := Lib.hid hd1
  have ho1H := Lib.hid ho1
  clear hd1 ho1
  go_wp2_with fail
  have hNz : w.heap.size < W.heap.size := by omega
  have hNg : w.heap.size ≠ g := by omega
  have hLW' : Hid (Ints W W.heap.size L lims) := hLW.out.more (by omega)
  go_loopw [5, 6] (fun v5 v6 wr => DeckLe wr g m ∧ W.grownBy wr (some g) ∧ ∃ (vs : List Veh) (k : Nat), VList g v5 vs wr ∧ vs.length ≤ 8 ∧ k ≤ 7 ∧ v6 = .int .i64 k) (fun _ v6 _ => (intOf v6).toNat)
  case atStart => exact ⟨hd1H.out, ho1H.out, [], k0.toNat, ⟨none, 0, rfl, .inl ⟨rfl, rfl, rfl⟩, fun i hi => by simp at hi, fun a h => by cases h⟩, by simp, by omega, by go_num⟩
  case round =>
    obtain ⟨hd, ho, vs, k, ⟨A7, cap7, rfl, hS7, hV7, hA7⟩, hv8, hk, rfl⟩ := hrel
    have hdH := Lib.hid hd
    have hoH := Lib.hid ho
    have hS7H := Lib.hid hS7
    have hV7H := Lib.hid hV7
    have hA7H := Lib.hid hA7
    have hgr := hd.lt
    have hJr : Hid (∀ o, wr.cell? ⟨w.heap.size, o, none⟩ = W.cell? ⟨w.heap.size, o, none⟩) := Lib.hid fun o => only_cell ho _ o hNz hNg
    have hNr : w.heap.size < wr.heap.size := Nat.lt_of_lt_of_le hNz ho.size
    have hL3 : Hid (Ints wr wr.heap.size L lims) := hLW'.out.only hLgH.out ho
    clear hd ho hS7 hV7 hA7
    by_cases hk0 : 0 < k
    · have hki : (0 : Int) < (k : Int) := by omega
      go_upto_region 5 with fail
      have e0 := (hJr.out 0).trans (hJ.out.cell 0)
      have e1 := (hJr.out 1).trans (hJ.out.cell 1)
      have e2 := (hJr.out 2).trans (hJ.out.cell 2)
      have e3 := (hJr.out 3).trans (hJ.out.cell 3)
      have e4 := (hJr.out 4).trans (hJ.out.cell 4)
      have e5 := (hJr.out 5).trans (hJ.out.cell 5)
      have e6 := (hJr.out 6).trans (hJ.out.cell 6)
      have e7 := (hJr.out 7).trans (hJ.out.cell 7)
      simp at e0 e1 e2 e3 e4 e5 e6 e7
      go_cut [7, 8] (fun s10 s11 wx => C10 wr g m vs acl lims s10 s11 wx)
      case first =>
        go_region_held3 (fun w' => DeckLe w' g m ∧ wr.grownBy w' (some g) ∧ ∀ b o, b < wr.heap.size → b ≠ g → w'.cell? ⟨b, o, none⟩ = wr.cell? ⟨b, o, none⟩)
          (first | exact hs_start hdH | exact hs_next (by assumption) (by assumption) | exact hs_call (by assumption) (by assumption))
          (first
            | (go_at_call 11; refine (next_le g m _ _ (And.left (show DeckLe _ g m ∧ _ by with_reducible assumption)) (by omega) (by omega)).mono ?_; rintro e w' ⟨v, rfl, v0, v1, hd⟩)
            | (go_at_call 22; refine (rregister_held A7 cap7 vs.length vs acl L lc lims _ _ wr _ g m (by with_reducible assumption) rfl hllH.out hV7H.out hA7H.out (by omega) hL3.out hLgH.out hacl hS7H.out).mono ?_; rintro e w' ⟨v, rfl, hv, hd⟩))
        go_wp2_with fail
        go_meet
        have hS := ‹DeckLe w' g m ∧ wr.grownBy w' (some g) ∧ _›
        exact ⟨_, _, rfl, hv.out, hS.1, hS.2.1⟩
      case rest =>
        obtain ⟨id, cl, rfl, hVL, hd10, ho10⟩ := hcut
        have hVLH := Lib.hid hVL
        have hdcH := Lib.hid hd10
        have hocH : Hid (W.grownBy wc (some g)) := only_trans hoH.out ho10
        have hVc : Hid (VList g (.slice A7 vs.length cap7) vs wc) := Lib.hid (VList.only ⟨A7, cap7, rfl, hS7H.out, hV7H.out, hA7H.out⟩ ho10)
        clear hVL hd10 ho10 e0 e1 e2 e3 e4 e5 e6 e7
        cases he : (regE vs acl lims id cl == 0)
        · go_wp2_with fail
          go_roundw
          case rel => exact ⟨hdcH.out, hocH.out, vs, k - 1, hVc.out, hv8, by omega, by go_num⟩
          case measure => simp [intOf]; omega
        · have h8 := reg_len (lims := lims) hacl (show regE vs acl lims id cl = 0 by simpa using he)
          go_wp2_with fail
          go_roundw
          case rel => exact ⟨hdcH.out, hocH.out, _, k - 1, hVLH.out, h8, by omega, by go_num⟩
          case measure => simp [intOf]; omega
    · have hki : ¬ (0 : Int) < (k : Int) := by omega
      go_wp2_with fail
      go_ret
      exact ⟨_, rfl, vs, ⟨A7, cap7, rfl, hS7H.out, hV7H.out⟩, hv8, only_trans (only_below (row := some g) hbW.out) hoH.out⟩

end Go.Proofs.Ytobeediccmmjhaa
