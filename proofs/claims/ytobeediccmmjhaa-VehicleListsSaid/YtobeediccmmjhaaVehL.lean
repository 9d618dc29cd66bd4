/- The walk of signalbrokerlaw15.VehicleLimits. -/
import Derived.Test.YtobeediccmmjhaaVehG
namespace Go.Proofs.Ytobeediccmmjhaa
open Go.RowKit
set_option linter.unusedVariables false
set_option linter.unusedSimpArgs false

theorem IsRow.opened {w : World} {a : Option Addr} {len cap : Nat} {zs : List Int} (h : IsRow w a len cap zs) :
    ∃ xs : List Int, len = xs.length ∧ Ints w w.heap.size a xs ∧ xs.length ≤ 9223372036854775807 := by
  have hl := h.len_le
  unfold maxLen at hl
  have hlen : len = (zs.take len).length := by
    rcases h with ⟨_, rfl, _, rfl⟩ | ⟨x, _, hle, _, hz, _, _⟩
    · rfl
    · rw [List.length_take]; omega
  refine ⟨zs.take len, hlen, fun i hi => ?_, by omega⟩
  obtain ⟨b, off, e, hb, hc⟩ := h.at_ i (by omega)
  refine ⟨b, off, e, hb, ?_⟩
  rw [hc]
  simp only [List.getD]
  rw [List.getElem?_take_of_lt (by omega)]

/-- The deck in block g holds at most m numbers more. -/
def DeckLe (w : World) (g m : Nat) : Prop := ∃ l, DeckIs w g l ∧ l.length ≤ m
theorem DeckLe.below {w w' : World} {g m : Nat} (h : DeckLe w g m) (hb : Below w.heap.size w w') : DeckLe w' g m := h.elim fun l ⟨h1, h2⟩ => ⟨l, h1.below hb, h2⟩
theorem DeckLe.lt {w : World} {g m : Nat} (h : DeckLe w g m) : g < w.heap.size := h.elim fun l ⟨h1, _⟩ => h1.lt
theorem nx_len (n : Int) (l : List Int) : (nx n l).2.length = l.length - 1 := by cases l <;> simp [nx]
theorem next_le (g m : Nat) (n : Int) (w : World) (h : DeckLe w g m) (h1 : 1 ≤ n) (h2 : n ≤ 9223372036854775807) :
    Calls Try.prog 11 #[.pointer (some ⟨g, 0, none⟩), .int .i64 n] w fun e w' => ∃ v : Int, e = .returned (.int .i64 v) ∧ 0 ≤ v ∧ v ≤ n - 1 ∧ (DeckLe w' g m ∧ w.grownBy w' (some g)) := by
  obtain ⟨l, hd, hl⟩ := h
  have hb := nx_bd n l h1
  exact (next_any g l n w hd h1 h2).mono fun e w' ⟨a, b, c⟩ => ⟨_, a, hb.1, by omega, ⟨_, b, by rw [nx_len]; omega⟩, c⟩

theorem only_trans {a b c : World} {row : Option Nat} (h : a.grownBy b row) (k : b.grownBy c row) : a.grownBy c row :=
  ⟨k.os.trans h.os, k.tape.trans h.tape, k.output.trans h.output, Nat.le_trans h.size k.size, fun i hi hn => (k.block i (Nat.lt_of_lt_of_le hi h.size) hn).trans (h.block i hi hn)⟩
theorem only_below {a b : World} (h : Below a.heap.size a b) (row : Option Nat) : a.grownBy b row := ⟨h.os, h.tape, h.output, h.size, fun k hk _ => h.block k hk⟩
theorem only_cell {W w' : World} {g : Nat} (h : W.grownBy w' (some g)) (b o : Nat) (hb : b < W.heap.size) (hne : b ≠ g) : w'.cell? ⟨b, o, none⟩ = W.cell? ⟨b, o, none⟩ :=
  World.cell?_of_block (w := W) (w' := w') (a := ⟨b, o, none⟩) (h.block b hb (by intro e; injection e with e; exact hne e))
theorem Vehs.only {W w' : World} {g : Nat} {A : Option Addr} {vs : List Veh} (h : Vehs W W.heap.size A vs) (hA : ∀ a, A = some a → a.block ≠ g) (ho : W.grownBy w' (some g)) : Vehs w' w'.heap.size A vs := fun i hi => by
  obtain ⟨b, off, e, hlt, hc, hd⟩ := h i hi
  have hne := hA _ e
  exact ⟨b, off, e, Nat.lt_of_lt_of_le hlt ho.size, (only_cell ho b _ hlt hne).trans hc, (only_cell ho b _ hlt hne).trans hd⟩
theorem Ints.only {W w' : World} {g : Nat} {A : Option Addr} {xs : List Int} (h : Ints W W.heap.size A xs) (hA : ∀ a, A = some a → a.block ≠ g) (ho : W.grownBy w' (some g)) : Ints w' w'.heap.size A xs := fun i hi => by
  obtain ⟨b, off, e, hlt, hc⟩ := h i hi
  exact ⟨b, off, e, Nat.lt_of_lt_of_le hlt ho.size, (only_cell ho b _ hlt (hA _ e)).trans hc⟩

/-- A list of vehicles that a slot holds, besides the deck in block g. -/
structure VList (g : Nat) (v : Value) (vs : List Veh) (wx : World) : Prop where
  ex : ∃ (A : Option Addr) (cap : Nat), v = .slice A vs.length cap ∧ Sl A vs.length cap ∧ Vehs wx wx.heap.size A vs ∧ ∀ a, A = some a → a.block ≠ g
theorem VList.only {g : Nat} {v : Value} {vs : List Veh} {wx w' : World} (h : VList g v vs wx) (ho : wx.grownBy w' (some g)) : VList g v vs w' := by
  obtain ⟨A, cap, h1, h2, h3, h4⟩ := h
  exact ⟨A, cap, h1, h2, h3.only h4 ho, h4⟩
theorem vlist_new {g : Nat} {vs : List Veh} {er : Int} {w w' : World} {e : Ending} (h : RegPost vs er w e w') (hg : g < w.heap.size) : ∃ v, e = .returned (.tuple #[v, .int .i64 er]) ∧ VList g v vs w' ∧ Below w.heap.size w w' := by
  obtain ⟨A, cap, rfl, hS, hV, hb, hf⟩ := h
  exact ⟨_, rfl, ⟨A, cap, rfl, hS, hV, fun a ha => by have := hf a ha; omega⟩, hb⟩

theorem hs_start {W : World} {g m : Nat} (h : Hid (DeckLe W g m)) : DeckLe W.drew g m ∧ W.grownBy W.drew (some g) ∧ ∀ b o, b < W.heap.size → b ≠ g → W.drew.cell? ⟨b, o, none⟩ = W.cell? ⟨b, o, none⟩ :=
  ⟨h.out, only_drew (only_refl _ _), fun _ _ _ _ => rfl⟩
theorem hs_next {W w' w'' : World} {g m : Nat} (h : DeckLe w' g m ∧ W.grownBy w' (some g) ∧ ∀ b o, b < W.heap.size → b ≠ g → w'.cell? ⟨b, o, none⟩ = W.cell? ⟨b, o, none⟩) (hd : DeckLe w'' g m ∧ w'.grownBy w'' (some g)) :
    DeckLe w'' g m ∧ W.grownBy w'' (some g) ∧ ∀ b o, b < W.heap.size → b ≠ g → w''.cell? ⟨b, o, none⟩ = W.cell? ⟨b, o, none⟩ :=
  ⟨hd.1, only_trans h.2.1 hd.2, fun b o hb hne => only_cell (only_trans h.2.1 hd.2) b o hb hne⟩
theorem hs_call {W w' w'' : World} {g m : Nat} (h : DeckLe w' g m ∧ W.grownBy w' (some g) ∧ ∀ b o, b < W.heap.size → b ≠ g → w'.cell? ⟨b, o, none⟩ = W.cell? ⟨b, o, none⟩) (hd : Below w'.heap.size w' w'') :
    DeckLe w'' g m ∧ W.grownBy w'' (some g) ∧ ∀ b o, b < W.heap.size → b ≠ g → w''.cell? ⟨b, o, none⟩ = W.cell? ⟨b, o, none⟩ :=
  ⟨h.1.below hd, only_trans h.2.1 (only_below hd _), fun b o hb hne => only_cell (only_trans h.2.1 (only_below hd _)) b o hb hne⟩
/-- Register, besides the deck. -/
theorem rgstr_held (A : Option Addr) (cap n : Nat) (vs : List Veh) (S : Option Addr) (sl sc : Nat) (ri acl : Int) (L : Option Addr) (ll lc : Nat) (lims : List Int) (rq se ra bu id cl : Int) (W w : World) (g m : Nat)
    (h : DeckLe w g m ∧ W.grownBy w (some g) ∧ ∀ b o, b < W.heap.size → b ≠ g → w.cell? ⟨b, o, none⟩ = W.cell? ⟨b, o, none⟩)
    (hn : vs.length = n) (hll : lims.length = ll) (hA : Vehs W W.heap.size A vs) (hAg : ∀ a, A = some a → a.block ≠ g) (hm : n ≤ 9223372036854775807) (hL : Ints W W.heap.size L lims) (hLg : ∀ a, L = some a → a.block ≠ g) (hlm : ll ≤ 9223372036854775807) (hS : Sl A n cap) :
    Calls Try.prog 13 #[.slice A n cap, .agg #[.slice S sl sc, .int .i64 ri, .int .i64 acl, .slice L ll lc, .int .i64 rq, .int .i64 se, .int .i64 ra, .int .i64 bu], .agg #[.int .i64 id, .int .i64 cl]] w
      fun e w' => ∃ v, e = .returned (.tuple #[v, .int .i64 (regE vs acl lims id cl)]) ∧ Hid (VList g v (regL vs acl lims id cl) w') ∧ Below w.heap.size w w' :=
  (rgstr_at A cap n vs S sl sc ri acl L ll lc lims rq se ra bu id cl w hn hll (hA.only hAg h.2.1) hm (hL.only hLg h.2.1) hlm hS).mono fun e w' hp => by
    obtain ⟨v, h1, h2, h3⟩ := vlist_new hp h.1.lt
    exact ⟨v, h1, h2, h3⟩

/-- What the region with Register leaves. -/
def C10 (W : World) (g m : Nat) (vs : List Veh) (acl : Int) (lims : List Int) (s10 s11 : Value) (wx : World) : Prop :=
  ∃ id cl : Int, s11 = .int .i64 (regE vs acl lims id cl) ∧ VList g s10 (regL vs acl lims id cl) wx ∧ DeckLe wx g m ∧ W.grownBy wx (some g)

/-- What one more list that keeps the limits is. -/
def C12 (W : World) (g m : Nat) (acl : Int) (lims : List Int) (s7 : Value) (wx : World) : Prop :=
  ∃ vs, VList g s7 vs wx ∧ within15 vs acl lims ∧ DeckLe wx g m ∧ W.grownBy wx (some g)

set_option maxRecDepth 100000 in
set_option maxHeartbeats 4000000 in
theorem limits_walk (A : Option Addr) (len cap : Nat) (zs : List Int) (n : Int) (w : World) (hA : IsRow w A len cap zs) (hn : (Lit.int .i64 n).wf = true) :
    Calls Try.prog 3 #[.slice A len cap, .int .i64 n] w fun e w' => e = .returned (.bool true) ∧ Below w.heap.size w w' := by
  obtain ⟨hn0, hn1⟩ := wf_bd hn
  clear hn
  obtain ⟨xs, rfl, hI, hm⟩ := hA.opened
  have HI := Lib.hid hI
  clear hI hA
  go_enter Try.func3, Try.ntmps3
  go_wp2_with fail
  refine (few_any A xs.length cap w hm).mono ?_; rintro e w' ⟨rfl, rfl⟩
  cases hlen : decide ((xs.length : Int) ≤ 300)
  · go_wp2_with fail
    refine (awake15_any _).mono ?_; rintro e w4 ⟨rfl, hb4⟩
    go_wp2_with fail
    go_ret
    exact ⟨rfl, hb4⟩
  go_wp2_with fail
  refine (agency_any n w hn0 hn1).mono ?_; rintro e w1 ⟨L, lc, rfl, hL, hb1⟩
  have hLH := Lib.hid hL
  have hb1H := Lib.hid hb1
  have hz1 := hb1.size
  have HI1 : Hid (Ints w1 w1.heap.size A xs) := (HI.out.below hb1).more hz1
  have hlim := Lib.hid (agOf_lim n)
  have hacl0 : 0 ≤ (agOf n).cl := Int.emod_nonneg _ (by omega)
  have hacl3 : (agOf n).cl ≤ 3 := by have : (agOf n).cl < 4 := Int.emod_lt_of_pos _ (by omega); omega
  have hll : Hid ((agOf n).lims.length = 4) := rfl
  have hval : ({ agOf n with L := L, lc := lc } : Ag).val = .agg #[.slice none 0 0, .int .i64 0, .int .i64 (agOf n).cl, .slice L 4 lc, .int .i64 0, .int .i64 0, .int .i64 0, .int .i64 0] := rfl
  rw [hval]
  generalize (agOf n).lims = lims at hLH hlim hll
  generalize (agOf n).cl = acl at hacl0 hacl3 hval ⊢
  clear hL hb1 hval
  go_wp2_with fail
  refine (mknew_any A cap xs w1 HI1.out hm).mono ?_; rintro e w2 ⟨rfl, hd, hb2, hz2⟩
  have hdH : Hid (DeckLe w2 w1.heap.size xs.length) := ⟨xs, hd, Nat.le_refl _⟩
  have hL2 : Hid (Ints w2 w1.heap.size L lims) := hLH.out.below hb2
  have hb2H : Hid (Below w.heap.size w w2) := hb1H.out.trans (hb2.mono hz1)
  clear hd hb2 hLH HI1 HI hb1H
  obtain ⟨g, hg⟩ : ∃ g, g = w1.heap.size := ⟨_, rfl⟩
  rw [← hg] at hdH hL2 hz2 ⊢
  have hgw : w.heap.size ≤ g := by omega
  have hgN : g < w2.heap.size := by omega
  clear hg hz1 hz2
  go_wp2_with fail
  have hdW : Hid (DeckLe (w2.alloc (.cells #[.slice none 0 0, .int .i64 0, .int .i64 acl, .slice L 4 lc, .int .i64 0, .int .i64 0, .int .i64 0, .int .i64 0] 27)) g xs.length) := hdH.out.below ((Below.refl _ _).alloc (Nat.le_refl _) _)
  have hLW : Hid (Ints (w2.alloc (.cells #[.slice none 0 0, .int .i64 0, .int .i64 acl, .slice L 4 lc, .int .i64 0, .int .i64 0, .int .i64 0, .int .i64 0] 27)) g L lims) := hL2.out.below ((Below.refl _ _).alloc (by omega) _)
  have hbW : Hid (Below w.heap.size w (w2.alloc (.cells #[.slice none 0 0, .int .i64 0, .int .i64 acl, .slice L 4 lc, .int .i64 0, .int .i64 0, .int .i64 0, .int .i64 0] 27))) := hb2H.out.alloc hb2H.out.size _
  have hJ : Hid (Box (w2.alloc (.cells #[.slice none 0 0, .int .i64 0, .int .i64 acl, .slice L 4 lc, .int .i64 0, .int .i64 0, .int .i64 0, .int .i64 0] 27)) w2.heap.size 27 #[.slice none 0 0, .int .i64 0, .int .i64 acl, .slice L 4 lc, .int .i64 0, .int .i64 0, .int .i64 0, .int .i64 0]) := Box.new _ _ _
  have hWz : (w2.alloc (.cells #[.slice none 0 0, .int .i64 0, .int .i64 acl, .slice L 4 lc, .int .i64 0, .int .i64 0, .int .i64 0, .int .i64 0] 27)).heap.size = w2.heap.size + 1 := World.size_alloc _ _
  generalize (w2.alloc (.cells #[.slice none 0 0, .int .i64 0, .int .i64 acl, .slice L 4 lc, .int .i64 0, .int .i64 0, .int .i64 0, .int .i64 0] 27)) = W at hdW hLW hbW hJ hWz ⊢
  have hNz : w2.heap.size < W.heap.size := by omega
  have hNg : w2.heap.size ≠ g := by omega
  have hgW : g < W.heap.size := hdW.out.lt
  have hLg : Hid (∀ a, L = some a → a.block ≠ g) := Lib.hid (by
    intro a ha
    obtain ⟨b, off, e, hlt, _⟩ := hLW.out 0 (by rw [hll.out]; omega)
    rw [ha] at e; injection e with e; subst e
    dsimp only; omega)
  have hWzH := Lib.hid hWz
  clear hWz hdH hL2 hb2H
  go_loopg [7] (xs.length) (fun kk v7 wr => DeckLe wr g kk ∧ W.grownBy wr (some g) ∧ ∃ vs, VList g v7 vs wr ∧ within15 vs acl lims)
  case atStart => exact ⟨hdW.out, only_refl _ _, [], ⟨none, 0, rfl, .inl ⟨rfl, rfl, rfl⟩, fun i hi => by simp at hi, fun a h => by cases h⟩, within15_nil _ _⟩
  case round =>
    obtain ⟨hd, ho, vs, ⟨A7, cap7, rfl, hS7, hV7, hA7⟩, hin⟩ := hrel
    obtain ⟨l, hdl, hll2⟩ := hd
    have hdH := Lib.hid hdl
    have hoH := Lib.hid ho
    have hS7H := Lib.hid hS7
    have hV7H := Lib.hid hV7
    have hA7H := Lib.hid hA7
    have hinH := Lib.hid hin
    have hgr := hdl.lt
    have hJr : Hid (∀ o, wr.cell? ⟨w2.heap.size, o, none⟩ = W.cell? ⟨w2.heap.size, o, none⟩) := Lib.hid fun o => only_cell ho _ o hNz hNg
    have hNr : w2.heap.size < wr.heap.size := Nat.lt_of_lt_of_le hNz ho.size
    clear hdl ho hS7 hV7 hA7 hin
    go_wp2_with fail
    refine (left_any g l wr hdH.out).mono ?_; rintro e w' ⟨rfl, nd, rfl⟩
    by_cases hl0 : 0 < l.length
    · go_wp2_with fail
      refine (next_any g l 4 (wr.drewN nd) hdH.out (by omega) (by omega)).mono ?_; rintro e w3 ⟨rfl, hd3, ho3⟩
      have hd3H : Hid (DeckLe w3 g (gk - 1)) := ⟨_, hd3, by rw [nx_len]; omega⟩
      have hgk : 0 < gk := by omega
      have ho3' : wr.grownBy w3 (some g) := ⟨ho3.os, ho3.tape, ho3.output, ho3.size, ho3.block⟩
      have ho3H : Hid (W.grownBy w3 (some g)) := only_trans hoH.out ho3'
      have hV3 : Hid (Vehs w3 w3.heap.size A7 vs) := hV7H.out.only hA7H.out ho3'
      have hL3 : Hid (Ints w3 w3.heap.size L lims) := (hLW.out.more (by omega)).only hLg.out ho3H.out
      have hv8 : vs.length ≤ 8 := ((validV_iff vs).1 hinH.out.1).1
      have hz3 : W.heap.size ≤ w3.heap.size := ho3H.out.size
      have hg3 : g < w3.heap.size := by omega
      clear hd3 ho3 ho3' hdH hoH hJr hNr hgr hV7H
      cases hv3 : ((nx 4 l).1 == 3)
      · generalize (nx 4 l).1 = v3 at hv3 ⊢
        go_upto_region 10 with fail
        have hJ3 : ∀ o, w3.cell? ⟨w2.heap.size, o, none⟩ = W.cell? ⟨w2.heap.size, o, none⟩ := fun o => only_cell ho3H.out _ o hNz hNg
        have e0 := (hJ3 0).trans (hJ.out.cell 0)
        have e1 := (hJ3 1).trans (hJ.out.cell 1)
        have e2 := (hJ3 2).trans (hJ.out.cell 2)
        have e3 := (hJ3 3).trans (hJ.out.cell 3)
        have e4 := (hJ3 4).trans (hJ.out.cell 4)
        have e5 := (hJ3 5).trans (hJ.out.cell 5)
        have e6 := (hJ3 6).trans (hJ.out.cell 6)
        have e7 := (hJ3 7).trans (hJ.out.cell 7)
        simp at e0 e1 e2 e3 e4 e5 e6 e7
        clear hJ3
        have hN3 : w2.heap.size < w3.heap.size := by omega
        go_cut [10, 11] (fun s10 s11 wx => C10 w3 g (gk - 1) vs acl lims s10 s11 wx)
        case first =>
          go_region_held3 (fun w' => DeckLe w' g (gk - 1) ∧ w3.grownBy w' (some g) ∧ ∀ b o, b < w3.heap.size → b ≠ g → w'.cell? ⟨b, o, none⟩ = w3.cell? ⟨b, o, none⟩)
            (first | exact hs_start hd3H | exact hs_next (by assumption) (by assumption) | exact hs_call (by assumption) (by assumption))
            (first
              | (go_at_call 11; refine (next_le g (gk - 1) _ _ (And.left (show DeckLe _ g (gk - 1) ∧ _ by with_reducible assumption)) (by omega) (by omega)).mono ?_; rintro e w' ⟨v, rfl, v0, v1, hd⟩)
              | (go_at_call 13; refine (rgstr_held A7 cap7 vs.length vs none 0 0 0 acl L 4 lc lims 0 0 0 0 _ _ w3 _ g (gk - 1) (by with_reducible assumption) rfl hll.out hV3.out hA7H.out (by omega) hL3.out hLg.out (by omega) hS7H.out).mono ?_; rintro e w' ⟨v, rfl, hv, hd⟩))
          go_wp2_with fail
          go_meet
          have hS := ‹DeckLe w' g (gk - 1) ∧ w3.grownBy w' (some g) ∧ _›
          exact ⟨_, _, rfl, hv.out, hS.1, hS.2.1⟩
        case rest =>
          obtain ⟨id, cl, rfl, hVL, hd10, ho10⟩ := hcut
          have hVLH := Lib.hid hVL
          have hdcH := Lib.hid hd10
          have hocH : Hid (W.grownBy wc (some g)) := only_trans ho3H.out ho10
          have hVc : Hid (VList g (.slice A7 vs.length cap7) vs wc) := Lib.hid (VList.only ⟨A7, cap7, rfl, hS7H.out, hV3.out, hA7H.out⟩ ho10)
          clear hVL hd10 ho10 e0 e1 e2 e3 e4 e5 e6 e7 hN3
          go_upto_if 49 with (fail)
          go_cut [7] (fun s7 wx => C12 W g (gk - 1) acl lims s7 wx)
          case first =>
            cases he : (regE vs acl lims id cl == 0)
            · go_wp2_with fail
              go_meet
              exact ⟨vs, hVc.out, hinH.out, hdcH.out, hocH.out⟩
            · have hin6 := Lib.hid (within15_reg (hacl3) hinH.out (by simpa using he))
              go_wp2_with fail
              go_meet
              exact ⟨_, hVLH.out, hin6.out, hdcH.out, hocH.out⟩
          case rest =>
            clear hVLH hdcH hocH hVc
            obtain ⟨us, ⟨A8, cap8, rfl, hS8, hV8, hA8⟩, hin8, hd8, ho8⟩ := hcut
            have hS8H := Lib.hid hS8
            have hV8H := Lib.hid hV8
            have hA8H := Lib.hid hA8
            have hin8H := Lib.hid hin8
            have hd8H := Lib.hid hd8
            have ho8H := Lib.hid ho8
            have hu8 : us.length ≤ 8 := ((validV_iff us).1 hin8.1).1
            have hzc : W.heap.size ≤ wc.heap.size := ho8.size
            clear hS8 hV8 hA8 hin8 hd8 ho8
            go_wp2_with fail
            go_loopw [51] (fun v51 wx => ∃ c : Nat, c ≤ 4 ∧ v51 = .int .i64 c ∧ Below wc.heap.size wc wx) (fun v51 _ => 4 - (intOf v51).toNat)
            case atStart => exact ⟨0, by omega, rfl, Below.refl _ _⟩
            case round =>
              obtain ⟨c, hc, rfl, hb⟩ := hrel
              have hbH := Lib.hid hb
              have hzr := hb.size
              have hV9 : Hid (Vehs wr wr.heap.size A8 us) := (hV8H.out.below hb).more hzr
              clear hb
              by_cases hc4 : c < 4
              · have hci : (c : Int) < 4 := by omega
                go_wp2_with fail
                refine (count_any A8 cap8 us (c : Int) wr hV9.out (by omega)).mono ?_; rintro e w9 ⟨rfl, hb9⟩
                have hb9H : Hid (Below wc.heap.size wc w9) := hbH.out.trans (hb9.mono hzr)
                have hz9 := hb9H.out.size
                have hcell : Hid (∀ o, w9.cell? ⟨w2.heap.size, o, none⟩ = W.cell? ⟨w2.heap.size, o, none⟩) := Lib.hid fun o => (hb9H.out.cell (p := ⟨w2.heap.size, o, none⟩) (by dsimp only; omega)).trans (only_cell ho8H.out _ o hNz hNg)
                have e2 := (hcell.out 2).trans (hJ.out.cell 2)
                have e3 := (hcell.out 3).trans (hJ.out.cell 3)
                simp at e2 e3
                have hN9 : w2.heap.size < w9.heap.size := by omega
                have hL9 : Ints w9 w9.heap.size L lims := ((((hLW.out.more (by omega : g ≤ W.heap.size)).only hLg.out ho8H.out)).below hb9H.out).more hz9
                obtain ⟨bL, oL, rfl, hbL, hcL⟩ := hL9 c (by rw [hll.out]; exact hc4)
                have hcnt := hin8H.out.2 (c : Int)
                have hlv : limV lims (c : Int) = lims.getD c 0 := by
                  unfold limV
                  rw [if_neg (by rw [hll.out]; omega)]; rfl
                have hl0 := hlim.out (c : Int)
                rw [hlv] at hcnt hl0
                rw [← countTo_eq] at hcnt
                obtain ⟨hk1, hk2⟩ := hcnt
                generalize lims.getD c 0 = lm at hcL hk1 hl0
                generalize countTo us (c : Int) us.length = k at hk1 hk2 ⊢
                have hk1' : (k : Int) ≤ lm := by omega
                have d1 : decide (lm < (k : Int)) = false := by simp; omega
                have hk2H := Lib.hid hk2
                clear hb9 hk1 hlv hk2
                by_cases hcl : acl < (c : Int)
                · have d2 : decide (acl < (c : Int)) = true := by simp; omega
                  obtain rfl : k = 0 := hk2H.out hcl
                  go_wp2_with fail
                  go_roundw
                  case rel => exact ⟨c + 1, by omega, by go_num, hb9H.out⟩
                  case measure => simp [intOf]; omega
                · have d2 : decide (acl < (c : Int)) = false := by simp; omega
                  go_wp2_with fail
                  go_roundw
                  case rel => exact ⟨c + 1, by omega, by go_num, hb9H.out⟩
                  case measure => simp [intOf]; omega
              · have hci : ¬ (c : Int) < 4 := by omega
                have hu8i : ¬ (8 : Int) < (us.length : Int) := by omega
                have hV := Lib.hid hin8H.out.1
                have hdr : Hid (DeckLe wr g (gk - 1)) := hd8H.out.below (hbH.out.mono (by omega))
                go_wp2_with fail
                refine (valid_any A8 cap8 us wr hV9.out (by omega)).mono ?_; rintro e w9 ⟨rfl, hb9⟩
                rw [hV.out]
                have hb9H : Hid (Below wc.heap.size wc w9) := hbH.out.trans (hb9.mono hzr)
                have hz9 := hb9H.out.size
                clear hb9
                go_wp2_with fail
                go_roundg (gk - 1)
                case measure => omega
                case rel => exact ⟨hd8H.out.below hb9H.out, only_trans ho8H.out (only_below hb9H.out _), us, ⟨A8, cap8, rfl, hS8H.out, (hV8H.out.below hb9H.out).more hz9, hA8H.out⟩, hin8H.out⟩
      · generalize (nx 4 l).1 = v3 at hv3 ⊢
        go_wp2_with fail
        refine (next_le g (gk - 1) 12 w3 hd3H.out (by omega) (by omega)).mono ?_; rintro e w5 ⟨v, rfl, v0, v1, hd5, ho5⟩
        have hd5H := Lib.hid hd5
        have ho5H := Lib.hid ho5
        have hV5 : Hid (Vehs w5 w5.heap.size A7 vs) := hV3.out.only hA7H.out ho5
        clear hd5 ho5
        go_wp2_with fail
        refine (remove_any A7 cap7 vs v w5 hV5.out (by omega) hS7H.out).mono ?_; intro e w6 hp
        obtain ⟨v6, rfl, hVL6, hb6⟩ := vlist_new hp hd5H.out.lt
        have hVL6H := Lib.hid hVL6
        have hd6H : Hid (DeckLe w6 g (gk - 1)) := hd5H.out.below hb6
        have ho6H : Hid (W.grownBy w6 (some g)) := only_trans (only_trans ho3H.out ho5H.out) (only_below hb6 _)
        have hV6 : Hid (VList g (.slice A7 vs.length cap7) vs w6) := Lib.hid ⟨A7, cap7, rfl, hS7H.out, (hV5.out.below hb6).more hb6.size, hA7H.out⟩
        clear hp hVL6 hb6
        cases he : (remE vs v == 0)
        · go_wp2_with fail
          go_roundg (gk - 1)
          case measure => omega
          case rel => exact ⟨hd6H.out, ho6H.out, vs, hV6.out, hinH.out⟩
        · have hin6 := Lib.hid (within15_rem hinH.out (by simpa using he))
          go_wp2_with fail
          go_roundg (gk - 1)
          case measure => omega
          case rel => exact ⟨hd6H.out, ho6H.out, _, hVL6H.out, hin6.out⟩
    · go_wp2_with fail
      refine (awake15_any _).mono ?_; rintro e w4 ⟨rfl, hb4⟩
      go_wp2_with fail
      go_ret
      exact ⟨rfl, by
        have h1 : Below w.heap.size w wr := hbW.out.grown hoH.out hbW.out.size (fun q hq => by injection hq with hq; omega)
        exact (below_drewN h1 nd).trans (hb4.mono h1.size)⟩

end Go.Proofs.Ytobeediccmmjhaa
