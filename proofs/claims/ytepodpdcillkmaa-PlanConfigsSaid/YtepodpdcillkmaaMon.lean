/- monitor.Forbidden and its example. -/
import Derived.Test.YtepodpdcillkmaaMatLaw
import Derived.WalkMore
namespace Go.Proofs.Ytepodpdcillkmaa
open Go.RowKit
set_option linter.unusedVariables false
set_option linter.unusedSimpArgs false

def nr (x : Int) : Bool := x == 1 || x == 2
def hitF (c l : List Int) (p q : Nat) : Bool := nr (l.getD p 0) && (nr (l.getD q 0) && cf c p q)
def forb (c l : List Int) : Bool := (firstHit l.length (hitF c l)).isSome
theorem hitF_row {c l : List Int} {p : Nat} (h : nr (l.getD p 0) = false) (q : Nat) : hitF c l p q = false := by unfold hitF; rw [h]; rfl
theorem hitF_col {c l : List Int} {p q : Nat} (h : nr (l.getD q 0) = false) : hitF c l p q = false := by unfold hitF; rw [h]; simp
theorem hitF_cf {c l : List Int} {p q : Nat} (h : cf c p q = false) : hitF c l p q = false := by unfold hitF; rw [h]; simp
theorem hitF_yes {c l : List Int} {p q : Nat} (h1 : nr (l.getD p 0) = true) (h2 : nr (l.getD q 0) = true) (h3 : cf c p q = true) : hitF c l p q = true := by unfold hitF; rw [h1, h2, h3]; rfl
theorem forb_yes {c l : List Int} {p q : Nat} (hp : p < l.length) (hq : q < l.length) (h : hitF c l p q = true) : forb c l = true := by
  unfold forb
  rcases hf : firstHit l.length (hitF c l) with _ | x
  · rw [firstHit_none] at hf
    rw [hf p q hp hq] at h
    cases h
  · rfl
theorem forb_no {c l : List Int} (h : ∀ p q, p < l.length → q < l.length → hitF c l p q = false) : forb c l = false := by
  unfold forb
  rw [(firstHit_none _ _).2 h]; rfl
theorem forb_hit {c l : List Int} (h : forb c l = true) : ∃ p q, p < l.length ∧ q < l.length ∧ hitF c l p q = true := by
  unfold forb at h
  rcases hf : firstHit l.length (hitF c l) with _ | ⟨p, q⟩
  · rw [hf] at h; cases h
  · exact ⟨p, q, firstHit_spec _ _ _ _ hf⟩

theorem nonRed_any (x : Int) (w : World) :
    Calls Try.prog 49 #[.int .i64 x] w fun e w' => e = .returned (.bool (nr x)) ∧ w = w' := by
  go_enter Try.func49, Try.ntmps49
  by_cases h1 : x = 1
  · have e1 : (x == 1) = true := by simp [h1]
    have hE : Hid (nr x = true) := by unfold nr; rw [e1]; rfl
    clear h1
    go_wp2_with fail
    go_ret
    exact ⟨by rw [hE.out]; rfl, rfl⟩
  · have e1 : (x == 1) = false := by simpa using h1
    have hE : Hid (nr x = (x == 2)) := by unfold nr; rw [e1]; rfl
    clear h1
    go_wp2_with fail
    go_ret
    exact ⟨by rw [hE.out]; rfl, rfl⟩

set_option maxHeartbeats 1000000 in
theorem forb_any (A A2 : Option Addr) (cap cap2 B B2 : Nat) (c l : List Int) (w : World) (hA : Ints w B A c) (hn : c.length ≤ 60) (hA2 : Ints w B2 A2 l) (hm : l.length ≤ 1000) :
    Calls Try.prog 17 #[.slice A c.length cap, .slice A2 l.length cap2] w fun e w' => e = .returned (.bool (forb c l)) ∧ w = w' := by
  have HA := Lib.hid hA
  have HA2 := Lib.hid hA2
  clear hA hA2
  go_enter Try.func17, Try.ntmps17
  go_wp2_with fail
  go_step3
  go_wp2_with fail
  go_step3
  go_wp2_with fail
  go_loop [5, 12] (fun v5 v12 => ∃ p : Nat, p ≤ l.length ∧ v12 = .int .i64 p ∧ v5 = .bool false ∧ (∀ r s, r < p → s < l.length → hitF c l r s = false)) (fun _ v12 => l.length - (intOf v12).toNat)
  case atStart => exact ⟨0, by omega, rfl, rfl, by simp⟩
  case round =>
    obtain ⟨p, hp, rfl, rfl, hno⟩ := hrel
    have hnoH := Lib.hid hno
    clear hno
    by_cases hlt : p < l.length
    · have hpl : (p : Int) < (l.length : Int) := by omega
      obtain ⟨b, off, rfl, hb, hc⟩ := HA2.out p hlt
      obtain ⟨x, hx⟩ : ∃ x, x = l.getD p 0 := ⟨_, rfl⟩
      rw [← hx] at hc
      obtain ⟨t1, ht1⟩ : ∃ t, t = nr x := ⟨_, rfl⟩
      have ht1H := Lib.hid ht1
      have hn1 : Hid (nr (l.getD p 0) = t1) := Lib.hid (by rw [ht1, hx])
      clear ht1 hx
      cases t1
      · go_wp2_with fail
        refine (nonRed_any _ _).mono ?_; rintro e w' ⟨rfl, rfl⟩
        rw [← ht1H.out]
        go_wp2_with fail
        go_round
        case rel =>
          refine ⟨p + 1, by omega, by go_num, rfl, fun r s hr hs => ?_⟩
          by_cases hrp : r < p
          · exact hnoH.out r s hrp hs
          · obtain rfl : r = p := by omega
            exact hitF_row hn1.out s
        case measure => simp [intOf]; omega
      · go_wp2_with fail
        refine (nonRed_any _ _).mono ?_; rintro e w' ⟨rfl, rfl⟩
        rw [← ht1H.out]
        go_wp2_with fail
        clear hc
        go_loop [5, 22] (fun v5 v22 => ∃ q : Nat, q ≤ l.length ∧ v22 = .int .i64 q ∧ v5 = .bool false ∧ (∀ s, s < q → hitF c l p s = false)) (fun _ v22 => l.length - (intOf v22).toNat)
        case atStart => exact ⟨0, by omega, rfl, rfl, by simp⟩
        case round =>
          obtain ⟨q, hq, rfl, rfl, hno2⟩ := hrel
          have hnoH2 := Lib.hid hno2
          clear hno2
          by_cases hqt : q < l.length
          · have hql : (q : Int) < (l.length : Int) := by omega
            obtain ⟨b', off', e', hb', hc'⟩ := HA2.out q hqt
            injection e' with e'
            injection e' with e1 e2
            subst e1 e2
            have hfin : hitF c l p q = false → ∀ s, s < q + 1 → hitF c l p s = false := by
              intro h s hs
              by_cases hsq : s < q
              · exact hnoH2.out s hsq
              · obtain rfl : s = q := by omega
                exact h
            have hfinH := Lib.hid hfin
            clear hfin
            obtain ⟨y, hy⟩ : ∃ y, y = l.getD q 0 := ⟨_, rfl⟩
            rw [← hy] at hc'
            obtain ⟨t2, ht2⟩ : ∃ t, t = nr y := ⟨_, rfl⟩
            have ht2H := Lib.hid ht2
            have hn2 : Hid (nr (l.getD q 0) = t2) := Lib.hid (by rw [ht2, hy])
            clear ht2 hy
            cases t2
            · go_wp2_with fail
              refine (nonRed_any _ _).mono ?_; rintro e w' ⟨rfl, rfl⟩
              rw [← ht2H.out]
              go_wp2_with fail
              go_round
              case rel => exact ⟨q + 1, by omega, by go_num, rfl, hfinH.out (hitF_col hn2.out)⟩
              case measure => simp [intOf]; omega
            · obtain ⟨t3, ht3⟩ : ∃ t, t = cf c p q := ⟨_, rfl⟩
              have ht3H := Lib.hid ht3
              clear ht3
              cases t3
              · go_wp2_with fail
                refine (nonRed_any _ _).mono ?_; rintro e w' ⟨rfl, rfl⟩
                rw [← ht2H.out]
                go_wp2_with fail
                refine (conflict_any _ _ _ _ _ _ _ HA.out hn).mono ?_; rintro e w' ⟨rfl, rfl⟩
                rw [← ht3H.out]
                go_wp2_with fail
                go_round
                case rel => exact ⟨q + 1, by omega, by go_num, rfl, hfinH.out (hitF_cf ht3H.out.symm)⟩
                case measure => simp [intOf]; omega
              · go_wp2_with fail
                refine (nonRed_any _ _).mono ?_; rintro e w' ⟨rfl, rfl⟩
                rw [← ht2H.out]
                go_wp2_with fail
                refine (conflict_any _ _ _ _ _ _ _ HA.out hn).mono ?_; rintro e w' ⟨rfl, rfl⟩
                rw [← ht3H.out]
                go_wp2_with fail
                (try rw [Exit.noGoto_ret])
                go_ret
                exact ⟨by rw [forb_yes hlt hqt (hitF_yes hn1.out hn2.out ht3H.out.symm)]; rfl, rfl⟩
          · have hql : ¬ (q : Int) < (l.length : Int) := by omega
            go_wp2_with fail
            go_round
            case rel =>
              refine ⟨p + 1, by omega, by go_num, rfl, fun r s hr hs => ?_⟩
              by_cases hrp : r < p
              · exact hnoH.out r s hrp hs
              · obtain rfl : r = p := by omega
                exact hnoH2.out s (by omega)
            case measure => simp [intOf]; omega
    · have hpl : ¬ (p : Int) < (l.length : Int) := by omega
      go_wp2_with fail
      (try rw [Exit.noGoto_ret])
      go_ret
      exact ⟨by rw [forb_no (fun r s hr hs => hnoH.out r s (by omega) hs)]; rfl, rfl⟩

theorem ex_forb1 : forb [2, 1] [1, 2] = true := by decide
theorem ex_forb2 : forb [2, 1] [1, 3] = false := by decide

theorem two_ints (W : World) (N : Nat) (h : W.heap.size = N) (a b : Int) : Ints (W.alloc (.cells #[.int .i64 a, .int .i64 b] 3)) (N + 1) (some ⟨N, 0, none⟩) [a, b] := by
  subst h
  intro i hi
  refine ⟨W.heap.size, 0, rfl, by omega, ?_⟩
  have hb := (Box.new W 3 #[.int .i64 a, .int .i64 b]).cell i
  rw [Nat.zero_add, hb]
  match i, hi with
  | 0, _ => rfl
  | 1, _ => rfl
theorem two_ints2 (W : World) (N : Nat) (h : W.heap.size = N) (a b : Int) (o : Obj) : Ints ((W.alloc (.cells #[.int .i64 a, .int .i64 b] 3)).alloc o) (N + 1) (some ⟨N, 0, none⟩) [a, b] :=
  (two_ints W N h a b).below ((Below.refl _ _).alloc (by simp; omega) _)

set_option maxHeartbeats 1000000 in
theorem awake10_any (w : World) :
    Calls Try.prog 13 #[] w fun e w' => e = .returned (.bool true) ∧ Below w.heap.size w w' := by
  go_enter Try.func13, Try.ntmps13
  go_wp2_with fail
  refine (forb_any _ _ 2 2 _ _ [2, 1] [1, 2] _ (two_ints2 w _ rfl 2 1 _) (by decide) (two_ints _ (w.heap.size + 1) (by simp) 1 2) (by decide)).mono ?_; rintro e w' ⟨rfl, rfl⟩
  rw [ex_forb1]
  go_wp2_with fail
  refine (forb_any _ _ 2 2 _ _ [2, 1] [1, 3] _ (two_ints2 _ (w.heap.size + 1 + 1) (by simp) 2 1 _) (by decide) (two_ints _ (w.heap.size + 1 + 1 + 1) (by simp) 1 3) (by decide)).mono ?_; rintro e w' ⟨rfl, rfl⟩
  rw [ex_forb2]
  go_wp2_with fail
  go_ret
  exact ⟨rfl, by go_grown⟩

end Go.Proofs.Ytepodpdcillkmaa
