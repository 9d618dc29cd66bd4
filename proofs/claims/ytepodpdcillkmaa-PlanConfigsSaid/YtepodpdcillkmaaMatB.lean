/- Contracts of signalbroker/matrix and of the reference of layer 6: Valid. -/
import Derived.Test.YtepodpdcillkmaaMatA
import Derived.Deep.QuietTactic
import Derived.BigQuiet
namespace Go.Proofs.Ytepodpdcillkmaa
open Go.RowKit

/-- The world has drawn, and is else as it was. -/
def Quiet (w w' : World) : Prop := ∃ k, w' = w.drewN k
theorem Quiet.refl (w : World) : Quiet w w := ⟨0, rfl⟩
theorem Quiet.more {w w' : World} (h : Quiet w w') (n : Nat) : Quiet w (w'.drewN n) := by
  obtain ⟨k, rfl⟩ := h
  exact ⟨k + n, World.drewN_drewN _ _ _⟩
theorem Quiet.below {w w' : World} (h : Quiet w w') (B : Nat) : Below B w w' := by
  obtain ⟨k, rfl⟩ := h
  exact ⟨rfl, rfl, rfl, Nat.le_refl _, fun _ _ => rfl⟩

def rowOk (c : List Int) (p : Nat) : Bool :=
  decide (0 ≤ c.getD p 0 ∧ c.getD p 0 < 2 ^ c.length) && !tb (c.getD p 0) p && (List.range c.length).all (fun q => tb (c.getD p 0) q == tb (c.getD q 0) p)
def validM (c : List Int) : Bool := decide (1 ≤ c.length ∧ c.length ≤ 8) && (List.range c.length).all (rowOk c)
theorem validM_size {c : List Int} (h : ¬ (1 ≤ c.length ∧ c.length ≤ 8)) : validM c = false := by unfold validM; rw [decide_eq_false h]; rfl
theorem validM_row {c : List Int} {p : Nat} (hp : p < c.length) (h : rowOk c p = false) : validM c = false := by
  unfold validM
  rw [Bool.and_eq_false_iff]; right
  rw [List.all_eq_false]
  exact ⟨p, by simpa using hp, by simp [h]⟩
theorem validM_yes {c : List Int} (h1 : 1 ≤ c.length) (h8 : c.length ≤ 8) (h : ∀ p, p < c.length → rowOk c p = true) : validM c = true := by
  unfold validM
  rw [decide_eq_true ⟨h1, h8⟩, Bool.true_and, List.all_eq_true]
  exact fun p hp => h p (by simpa using hp)
theorem rowOk_rng {c : List Int} {p : Nat} (h : ¬ (0 ≤ c.getD p 0 ∧ c.getD p 0 < 2 ^ c.length)) : rowOk c p = false := by unfold rowOk; rw [decide_eq_false h]; rfl
theorem rowOk_self {c : List Int} {p : Nat} (h : tb (c.getD p 0) p = true) : rowOk c p = false := by unfold rowOk; rw [h]; simp
theorem rowOk_pair {c : List Int} {p q : Nat} (hq : q < c.length) (h : (tb (c.getD p 0) q == tb (c.getD q 0) p) = false) : rowOk c p = false := by
  unfold rowOk
  rw [Bool.and_eq_false_iff]; right
  rw [List.all_eq_false]
  exact ⟨q, by simpa using hq, by simpa using h⟩
theorem rowOk_yes {c : List Int} {p : Nat} (h : 0 ≤ c.getD p 0 ∧ c.getD p 0 < 2 ^ c.length) (hs : tb (c.getD p 0) p = false) (hp : ∀ q, q < c.length → (tb (c.getD p 0) q == tb (c.getD q 0) p) = true) : rowOk c p = true := by
  unfold rowOk
  rw [decide_eq_true h, hs, Bool.not_false, Bool.true_and, Bool.true_and, List.all_eq_true]
  exact fun q hq => hp q (by simpa using hq)

theorem div_zero_iff (x : Int) (n : Nat) (h0 : 0 ≤ x) : x / 2 ^ n = 0 ↔ x < 2 ^ n := by
  have hp : (0 : Int) < 2 ^ n := Int.pow_pos (by omega)
  constructor
  · intro h
    apply Classical.byContradiction
    intro hge
    have : 1 ≤ x / 2 ^ n := (Int.le_ediv_iff_mul_le hp).2 (by omega)
    omega
  · intro h; exact Int.ediv_eq_zero_of_lt h0 h
theorem tb_ne (x : Int) (p : Nat) : (x / 2 ^ p % 2 != 0) = tb x p := by
  unfold tb
  have a := Int.emod_two_eq (x / 2 ^ p)
  rcases a with a | a <;> rw [a] <;> rfl
theorem tb_neq (x y : Int) (p q : Nat) : (x / 2 ^ p % 2 != y / 2 ^ q % 2) = !(tb x p == tb y q) := by
  rw [← tb_eq]; rfl

set_option maxHeartbeats 400000 in
theorem valid_any (A : Option Addr) (cap B : Nat) (c : List Int) (w : World) (hA : Ints w B A c) (hn : c.length ≤ 60) :
    Calls Try.prog 23 #[.slice A c.length cap] w fun e w' => e = .returned (.bool (validM c)) ∧ Quiet w w' := by
  have HA := Lib.hid hA
  clear hA
  have ha := and_one
  by_cases h1 : 1 ≤ c.length
  rotate_left
  · have hE := Lib.hid (validM_size (c := c) (by omega))
    go_enter Try.func23, Try.ntmps23
    go_wp2
    go_ret
    exact ⟨by rw [hE.out]; rfl, Quiet.refl _⟩
  by_cases h8 : c.length ≤ 8
  rotate_left
  · have hE := Lib.hid (validM_size (c := c) (by omega))
    go_enter Try.func23, Try.ntmps23
    go_wp2
    go_ret
    exact ⟨by rw [hE.out]; rfl, Quiet.refl _⟩
  go_enter Try.func23, Try.ntmps23
  go_wp2
  go_loopw [16] (fun v16 wr => ∃ p : Nat, p ≤ c.length ∧ v16 = .int .i64 p ∧ (∀ r, r < p → rowOk c r = true) ∧ Quiet w wr) (fun v16 _ => c.length - (intOf v16).toNat)
  case atStart => exact ⟨0, by omega, rfl, by simp, Quiet.refl _⟩
  case round =>
    obtain ⟨p, hp, rfl, hok, kq, rfl⟩ := hrel
    have hokH := Lib.hid hok
    clear hok
    by_cases hlt : p < c.length
    · obtain ⟨b, off, rfl, hb, hc⟩ := HA.out p hlt
      by_cases hx0 : 0 ≤ c.getD p 0
      rotate_left
      · have hE := Lib.hid (validM_row hlt (rowOk_rng (by omega)))
        generalize c.getD p 0 = x at hc hx0
        go_wp2
        go_ret
        exact ⟨by rw [hE.out]; rfl, ⟨_, rfl⟩⟩
      by_cases hx1 : c.getD p 0 / 2 ^ c.length = 0
      rotate_left
      · have hE := Lib.hid (validM_row hlt (rowOk_rng (by rw [div_zero_iff _ _ hx0] at hx1; omega)))
        have t1 : (c.getD p 0 / 2 ^ c.length != 0) = true := by simpa using hx1
        generalize c.getD p 0 = x at hc hx0 t1 hx1
        clear hx1
        go_wp2
        go_ret
        exact ⟨by rw [hE.out]; rfl, ⟨_, rfl⟩⟩
      by_cases hx2 : tb (c.getD p 0) p = true
      · have hE := Lib.hid (validM_row hlt (rowOk_self hx2))
        have t1 : (c.getD p 0 / 2 ^ c.length != 0) = false := by simpa using hx1
        have t2 : (c.getD p 0 / 2 ^ p % 2 != 0) = true := by rw [tb_ne]; exact hx2
        generalize c.getD p 0 = x at hc hx0 t1 hx1 t2 hx2
        clear hx1 hx2
        go_wp2
        go_ret
        exact ⟨by rw [hE.out]; rfl, ⟨_, rfl⟩⟩
      have t1 : (c.getD p 0 / 2 ^ c.length != 0) = false := by simpa using hx1
      have t2 : (c.getD p 0 / 2 ^ p % 2 != 0) = false := by rw [tb_ne]; simpa using hx2
      have hxr : Hid (0 ≤ c.getD p 0 ∧ c.getD p 0 < 2 ^ c.length) := ⟨hx0, (div_zero_iff _ _ hx0).1 hx1⟩
      have hx2H := Lib.hid hx2
      clear hx1 hx2
      obtain ⟨x, hx⟩ : ∃ x, x = c.getD p 0 := ⟨_, rfl⟩
      rw [← hx] at hc hx0 t1 t2 hxr hx2H
      have hxH := Lib.hid hx
      clear hx
      go_wp2
      go_loopw [39] (fun v39 wr => ∃ q : Nat, q ≤ c.length ∧ v39 = .int .i64 q ∧ (∀ r, r < q → (tb x r == tb (c.getD r 0) p) = true) ∧ Quiet w wr) (fun v39 _ => c.length - (intOf v39).toNat)
      case atStart => exact ⟨0, by omega, rfl, by simp, ⟨kq, rfl⟩⟩
      case round =>
        obtain ⟨q, hq, rfl, hok2, kr, rfl⟩ := hrel
        have hokH2 := Lib.hid hok2
        clear hok2
        by_cases hqt : q < c.length
        · obtain ⟨b', off', he, hb', hc'⟩ := HA.out q hqt
          obtain ⟨rfl, rfl⟩ : b' = b ∧ off' = off := by injection he with he; injection he with he1 he2; exact ⟨he1.symm, he2.symm⟩
          clear he
          obtain ⟨y, hy⟩ : ∃ y, y = c.getD q 0 := ⟨_, rfl⟩
          rw [← hy] at hc'
          have q1 : (0 : Int) ≤ (q : Int) := by omega
          have q2 : (q : Int) < (c.length : Int) := by omega
          by_cases hxy : (tb x q == tb y p) = true
          · have t3 : (x / 2 ^ q % 2 != y / 2 ^ p % 2) = false := by rw [tb_neq, hxy]; rfl
            have hxyH := Lib.hid hxy
            have hyH := Lib.hid hy
            clear hxy hy
            go_wp2
            go_quiet (fail)
            go_wp2
            go_roundw
            case rel =>
              refine ⟨q + 1, by omega, by go_num, fun r hr => ?_, ⟨_, rfl⟩⟩
              by_cases hrq : r < q
              · exact hokH2.out r hrq
              · obtain rfl : r = q := by omega
                rw [← hyH.out]; exact hxyH.out
            case measure => simp [intOf]; omega
          · have t3 : (x / 2 ^ q % 2 != y / 2 ^ p % 2) = true := by rw [tb_neq]; simpa using hxy
            have hE : Hid (validM c = false) := validM_row hlt (rowOk_pair hqt (by rw [← hxH.out, ← hy]; simpa using hxy))
            clear hxy hy
            go_wp2
            go_quiet (fail)
            go_wp2
            go_ret
            exact ⟨by rw [hE.out]; rfl, Quiet.more ⟨_, rfl⟩ _⟩
        · go_wp2
          go_roundw
          case rel =>
            refine ⟨p + 1, by omega, by go_num, fun r hr => ?_, ⟨_, rfl⟩⟩
            by_cases hrq : r < p
            · exact hokH.out r hrq
            · obtain rfl : r = p := by omega
              refine rowOk_yes ?_ ?_ ?_
              · rw [← hxH.out]; exact hxr.out
              · rw [← hxH.out]; simpa using hx2H.out
              · intro s hs; rw [← hxH.out]; exact hokH2.out s (by omega)
          case measure => simp [intOf]; omega
    · go_wp2
      go_ret
      exact ⟨by rw [validM_yes h1 h8 (fun r hr => hokH.out r (by omega))]; rfl, ⟨_, rfl⟩⟩

theorem pow_le_256 (n : Nat) (h : n ≤ 8) : (2 : Int) ^ n ≤ 256 ∧ (1 : Int) ≤ 2 ^ n := by
  have h1 : 2 ^ n ≤ 2 ^ 8 := Nat.pow_le_pow_right (by omega) h
  have h2 : (0 : Int) < 2 ^ n := Int.pow_pos (by omega)
  have h3 : ((2 ^ n : Nat) : Int) = 2 ^ n := by simp
  omega

set_option maxHeartbeats 400000 in
theorem rvalid_any (A : Option Addr) (cap B : Nat) (c : List Int) (w : World) (hA : Ints w B A c) (hn : c.length ≤ 60) :
    Calls Try.prog 24 #[.slice A c.length cap] w fun e w' => e = .returned (.bool (validM c)) ∧ w = w' := by
  have HA := Lib.hid hA
  clear hA
  by_cases h1 : 1 ≤ c.length
  rotate_left
  · have hE := Lib.hid (validM_size (c := c) (by omega))
    go_enter Try.func24, Try.ntmps24
    go_wp2_with fail
    go_ret
    exact ⟨by rw [hE.out]; rfl, rfl⟩
  by_cases h8 : c.length ≤ 8
  rotate_left
  · have hE := Lib.hid (validM_size (c := c) (by omega))
    go_enter Try.func24, Try.ntmps24
    go_wp2_with fail
    go_ret
    exact ⟨by rw [hE.out]; rfl, rfl⟩
  have hpow := pow_le_256 c.length h8
  go_enter Try.func24, Try.ntmps24
  go_wp2_with fail
  go_loop [16] (fun v16 => ∃ p : Nat, p ≤ c.length ∧ v16 = .int .i64 p ∧ (∀ r, r < p → rowOk c r = true)) (fun v16 => c.length - (intOf v16).toNat)
  case atStart => exact ⟨0, by omega, rfl, by simp⟩
  case round =>
    obtain ⟨p, hp, rfl, hok⟩ := hrel
    have hokH := Lib.hid hok
    clear hok
    by_cases hlt : p < c.length
    · obtain ⟨b, off, rfl, hb, hc⟩ := HA.out p hlt
      by_cases hx0 : 0 ≤ c.getD p 0
      rotate_left
      · have hE := Lib.hid (validM_row hlt (rowOk_rng (by omega)))
        generalize c.getD p 0 = x at hc hx0
        go_wp2_with fail
        go_ret
        exact ⟨by rw [hE.out]; rfl, rfl⟩
      by_cases hx1 : c.getD p 0 < 2 ^ c.length
      rotate_left
      · have hE := Lib.hid (validM_row hlt (rowOk_rng (by omega)))
        generalize c.getD p 0 = x at hc hx0 hx1
        go_wp2_with fail
        go_ret
        exact ⟨by rw [hE.out]; rfl, rfl⟩
      have hxr : Hid (0 ≤ c.getD p 0 ∧ c.getD p 0 < 2 ^ c.length) := ⟨hx0, hx1⟩
      have hself := Lib.hid (cf_nat c p p hlt hlt)
      obtain ⟨x, hx⟩ : ∃ x, x = c.getD p 0 := ⟨_, rfl⟩
      rw [← hx] at hc hx0 hx1 hxr hself
      have hxH := Lib.hid hx
      clear hx
      have HA1 := HA.out
      by_cases hx2 : tb x p = true
      · have hE : Hid (validM c = false) := validM_row hlt (rowOk_self (by rw [← hxH.out]; exact hx2))
        go_wp2_with fail
        refine (rconflict_any _ _ _ _ _ _ _ HA1 hn).mono ?_; rintro e w' ⟨rfl, rfl⟩
        rw [hself.out, hx2]
        go_wp2_with fail
        go_ret
        exact ⟨by rw [hE.out]; rfl, rfl⟩
      have hx2' : tb x p = false := by simpa using hx2
      clear hx2
      go_wp2_with fail
      refine (rconflict_any _ _ _ _ _ _ _ HA1 hn).mono ?_; rintro e w' ⟨rfl, rfl⟩
      rw [hself.out, hx2']
      have hx2H := Lib.hid hx2'
      clear hx2'
      go_wp2_with fail
      go_loop [39] (fun v39 => ∃ q : Nat, q ≤ c.length ∧ v39 = .int .i64 q ∧ (∀ r, r < q → (tb x r == tb (c.getD r 0) p) = true)) (fun v39 => c.length - (intOf v39).toNat)
      case atStart => exact ⟨0, by omega, rfl, by simp⟩
      case round =>
        obtain ⟨q, hq, rfl, hok2⟩ := hrel
        have hokH2 := Lib.hid hok2
        clear hok2
        by_cases hqt : q < c.length
        · have hpq := cf_nat c p q hlt hqt
          have hqp := cf_nat c q p hqt hlt
          rw [← hxH.out] at hpq
          obtain ⟨t1, ht1⟩ : ∃ t, t = tb x q := ⟨_, rfl⟩
          obtain ⟨t2, ht2⟩ : ∃ t, t = tb (c.getD q 0) p := ⟨_, rfl⟩
          rw [← ht1] at hpq
          rw [← ht2] at hqp
          have hpqH := Lib.hid hpq
          have hqpH := Lib.hid hqp
          have ht1H := Lib.hid ht1
          have ht2H := Lib.hid ht2
          have HA2 := Lib.hid HA1
          clear HA1 hpq hqp ht1 ht2
          by_cases hxy : t1 = t2
          · subst hxy
            cases t1
            all_goals
              go_wp2_with fail
              refine (rconflict_any _ _ _ _ _ _ _ HA2.out hn).mono ?_; rintro e w' ⟨rfl, rfl⟩
              rw [hpqH.out]
              go_wp2_with fail
              refine (rconflict_any _ _ _ _ _ _ _ HA2.out hn).mono ?_; rintro e w' ⟨rfl, rfl⟩
              rw [hqpH.out]
              go_wp2_with fail
              go_round
              case rel =>
                refine ⟨q + 1, by omega, by go_num, fun r hr => ?_⟩
                by_cases hrq : r < q
                · exact hokH2.out r hrq
                · obtain rfl : r = q := by omega
                  rw [← ht1H.out, ← ht2H.out]; rfl
              case measure => simp [intOf]; omega
          · have hE : Hid (validM c = false) := validM_row hlt (rowOk_pair hqt (by rw [← hxH.out, ← ht1H.out, ← ht2H.out]; simpa using hxy))
            have hxy' : t1 = !t2 := by cases t1 <;> cases t2 <;> simp_all
            subst hxy'
            clear hxy
            cases t2
            all_goals
              go_wp2_with fail
              refine (rconflict_any _ _ _ _ _ _ _ HA2.out hn).mono ?_; rintro e w' ⟨rfl, rfl⟩
              rw [hpqH.out]
              go_wp2_with fail
              refine (rconflict_any _ _ _ _ _ _ _ HA2.out hn).mono ?_; rintro e w' ⟨rfl, rfl⟩
              rw [hqpH.out]
              go_wp2_with fail
              go_ret
              exact ⟨by rw [hE.out]; rfl, rfl⟩
        · go_wp2_with fail
          go_round
          case rel =>
            refine ⟨p + 1, by omega, by go_num, fun r hr => ?_⟩
            by_cases hrq : r < p
            · exact hokH.out r hrq
            · obtain rfl : r = p := by omega
              refine rowOk_yes ?_ ?_ ?_
              · rw [← hxH.out]; exact hxr.out
              · rw [← hxH.out]; exact hx2H.out
              · intro s hs; rw [← hxH.out]; exact hokH2.out s (by omega)
          case measure => simp [intOf]; omega
    · go_wp2_with fail
      go_ret
      exact ⟨by rw [validM_yes h1 h8 (fun r hr => hokH.out r (by omega))]; rfl, rfl⟩

end Go.Proofs.Ytepodpdcillkmaa
