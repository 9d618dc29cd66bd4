/- The walk of signalbrokerlaw06.MatrixAdds. -/
import Derived.Test.YtepodpdcillkmaaMatLaw
import Derived.Test.YtepodpdcillkmaaMatPlain
namespace Go.Proofs.Ytepodpdcillkmaa
open Go.RowKit

theorem tb_zero (x : Int) (q : Nat) : (x / 2 ^ q % 2 == 0) = !tb x q := by
  unfold tb
  have a := Int.emod_two_eq (x / 2 ^ q)
  rcases a with a | a <;> rw [a] <;> rfl

set_option maxHeartbeats 1000000 in
theorem adds_walk (A : Option Addr) (len cap : Nat) (zs : List Int) (set : Int) (w : World) (hA : IsRow w A len cap zs) (_ : (Lit.int .i64 set).wf = true) :
    Calls Try.prog 7 #[.slice A len cap, .int .i64 set] w fun e w' => e = .returned (.bool true) ∧ Below w.heap.size w w' := by
  obtain ⟨xs, rfl, hI, hm⟩ := hA.opened
  have HI := Lib.hid hI
  clear hI
  have ha1 := and_one
  go_enter Try.func7, Try.ntmps7
  go_wp2_with fail
  refine (mknew_any A cap xs w HI.out hm).mono ?_; rintro e w1 ⟨rfl, hd, hb1, hz⟩
  have hdH := Lib.hid hd
  have hb1H := Lib.hid hb1
  clear hd hb1
  go_wp2_with fail
  refine (rows_any _ xs _ hdH.out).mono ?_; rintro e w2 ⟨gb, M, l', rfl, hsym, h1, h8, hgb, hbox, hd2, hg2⟩
  have hbel := Lib.hid (after_rows hb1H.out hg2)
  have hbelz := (after_rows hb1H.out hg2).size
  have hsymH := Lib.hid hsym
  have hi : Hid (Ints w2 (gb + 1) (some ⟨gb, 0, none⟩) (ints M)) := hbox.ints (by omega)
  clear hsym hbox hd2 hg2 hz
  rw [← ints_length M] at h1 h8 ⊢
  have hpw := pow_le_256 (ints M).length h8
  have s0 : 0 ≤ set % 2 ^ (ints M).length := Int.emod_nonneg _ (by omega)
  have s1 : set % 2 ^ (ints M).length < 2 ^ (ints M).length := Int.emod_lt_of_pos _ (by omega)
  obtain ⟨S, hS⟩ : ∃ S : Nat, set % 2 ^ (ints M).length = (S : Int) := ⟨_, (Int.toNat_of_nonneg s0).symm⟩
  rw [hS] at s0 s1
  have hSH := Lib.hid hS
  clear hS
  have s2 : S < 256 := by omega
  have s3 : (S : Int) ≤ 1000000 := by omega
  go_wp2_with fail
  refine (mod_any _ _ _ (by omega) (by omega)).mono ?_; rintro e w' ⟨rfl, rfl⟩
  rw [hSH.out]
  go_wp2_with fail
  refine (clash_any _ _ _ (ints M) S _ hi.out (by omega) s0 s3).mono ?_; rintro e w' ⟨rfl, rfl⟩
  rcases hc : firstHit (ints M).length (hitP (ints M) (S : Int)) with _ | ⟨p, q⟩
  rotate_left
  · clear hc
    unfold hitVal
    go_wp2_with fail
    refine (awake6_any _).mono ?_; rintro e w4 ⟨rfl, hb4⟩
    go_wp2_with fail
    go_ret
    exact ⟨rfl, hbel.out.trans (hb4.mono hbelz)⟩
  have hcH := Lib.hid hc
  clear hc
  unfold hitVal
  go_wp2_with fail
  refine (allowed_any _ _ _ (ints M) S _ hi.out (by omega) s0 s3).mono ?_; rintro e w' ⟨rfl, rfl⟩
  have hap := Lib.hid (allowed_apart (ints M) S)
  have hlo := allowedTo_lt (ints M) S (ints M).length
  have hbits := Lib.hid (allowedTo_bit (ints M) S (ints M).length)
  generalize allowedTo (ints M) S (ints M).length = a at hap hlo hbits
  have hnpw : 2 ^ (ints M).length ≤ 256 := Nat.pow_le_pow_right (n := 2) (by omega) h8
  go_wp2_with fail
  go_loop [35] (fun v35 => ∃ p : Nat, p ≤ (ints M).length ∧ v35 = .int .i64 p) (fun v35 => (ints M).length - (intOf v35).toNat)
  case atStart => exact ⟨0, by omega, rfl⟩
  case round =>
    obtain ⟨p, hp, rfl⟩ := hrel
    by_cases hlt : p < (ints M).length
    · have hadds := Lib.hid (adds hsymH.out S p hlt hcH.out)
      have hpp := pow_le_256 p (by omega)
      have hor : bits .or .i64 (S : Int) (2 ^ p) = ((S ||| 2 ^ p : Nat) : Int) := by
        have h2 := npow_le_128 p (by omega)
        have h3 := bits_or_nat S (2 ^ p) (by omega) (by omega)
        rw [← h3]; simp
      have hS2 : S ||| 2 ^ p < 2 ^ 8 := Nat.or_lt_two_pow (by omega) (Nat.pow_lt_pow_right (by omega) (by omega))
      have h256 : (2 : Nat) ^ 8 = 256 := by decide
      rw [h256] at hS2
      clear h256
      generalize S ||| 2 ^ p = S2 at hadds hor hS2
      have s4 : (0 : Int) ≤ (S2 : Int) := by omega
      have s5 : (S2 : Int) ≤ 1000000 := by omega
      have hab : Hid (a.testBit p = freeTo (ints M) S p (ints M).length) := by
        have := hbits.out p
        rw [decide_eq_true hlt, Bool.true_and] at this
        exact this
      go_wp2_with fail
      refine (clash_any _ _ _ (ints M) S2 _ hi.out (by omega) s4 s5).mono ?_; rintro e w' ⟨rfl, rfl⟩
      rcases hc2 : firstHit (ints M).length (hitP (ints M) (S2 : Int)) with _ | ⟨r, s⟩
      · have hc2H := Lib.hid hc2
        clear hc2
        unfold hitVal
        cases hsb : S.testBit p
        · have hf : freeTo (ints M) S p (ints M).length = true := hadds.out.2 ⟨hc2H.out, hsb⟩
          have t1 : ((a : Int) / 2 ^ p % 2 == 1) = true := by rw [tb_def, tb_nat, hab.out, hf]
          have t2 : ((S : Int) / 2 ^ p % 2 == 0) = true := by rw [tb_zero, tb_nat, hsb]; rfl
          clear hf hsb
          go_wp2_with fail
          go_round
          case rel => exact ⟨p + 1, by omega, by go_num⟩
          case measure => simp [intOf]; omega
        · have hf : freeTo (ints M) S p (ints M).length = false := by
            rw [Bool.eq_false_iff]; intro h; have := (hadds.out.1 h).2; rw [hsb] at this; cases this
          have t1 : ((a : Int) / 2 ^ p % 2 == 1) = false := by rw [tb_def, tb_nat, hab.out, hf]
          have t2 : ((S : Int) / 2 ^ p % 2 == 0) = false := by rw [tb_zero, tb_nat, hsb]; rfl
          clear hf hsb
          go_wp2_with fail
          go_round
          case rel => exact ⟨p + 1, by omega, by go_num⟩
          case measure => simp [intOf]; omega
      · have hf : freeTo (ints M) S p (ints M).length = false := by
          rw [Bool.eq_false_iff]; intro h; have := (hadds.out.1 h).1; rw [hc2] at this; cases this
        have t1 : ((a : Int) / 2 ^ p % 2 == 1) = false := by rw [tb_def, tb_nat, hab.out, hf]
        clear hc2 hf
        unfold hitVal
        go_wp2_with fail
        go_round
        case rel => exact ⟨p + 1, by omega, by go_num⟩
        case measure => simp [intOf]; omega
    · have hand : bits .and .i64 (a : Int) (S : Int) = 0 := by
        rw [bits_and_nat a S (by omega) (by omega), hap.out]; rfl
      go_wp2_with fail
      refine (awake6_any _).mono ?_; rintro e w4 ⟨rfl, hb4⟩
      go_wp2_with fail
      go_ret
      exact ⟨rfl, hbel.out.trans (hb4.mono hbelz)⟩

end Go.Proofs.Ytepodpdcillkmaa
