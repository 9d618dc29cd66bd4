/- The walk of signalbrokerlaw06.MatrixSubsets. -/
import Derived.Test.YtepodpdcillkmaaMatLaw
import Derived.Test.YtepodpdcillkmaaMatPlain
namespace Go.Proofs.Ytepodpdcillkmaa
open Go.RowKit

set_option maxHeartbeats 1000000 in
set_option maxRecDepth 100000 in
theorem subs_walk (A : Option Addr) (len cap : Nat) (zs : List Int) (set part : Int) (w : World) (hA : IsRow w A len cap zs) (_ : (Lit.int .i64 set).wf = true) (_ : (Lit.int .i64 part).wf = true) :
    Calls Try.prog 8 #[.slice A len cap, .int .i64 set, .int .i64 part] w fun e w' => e = .returned (.bool true) ∧ Below w.heap.size w w' := by
  obtain ⟨xs, rfl, hI, hm⟩ := hA.opened
  have HI := Lib.hid hI
  clear hI
  have ha1 := and_one
  have s0 : 0 ≤ set % 256 := Int.emod_nonneg _ (by omega)
  have s1 : set % 256 < 256 := Int.emod_lt_of_pos _ (by omega)
  obtain ⟨S, hS⟩ : ∃ S : Nat, set % 256 = (S : Int) := ⟨_, (Int.toNat_of_nonneg s0).symm⟩
  rw [hS] at s0 s1
  have hSH := Lib.hid hS
  clear hS
  have s3 : (S : Int) ≤ 1000000 := by omega
  obtain ⟨P, hP, hPS, hsub⟩ := bits_and_part part S (by omega)
  have hsubH := Lib.hid hsub
  clear hsub
  have p0 : (0 : Int) ≤ (P : Int) := by omega
  have p3 : (P : Int) ≤ 1000000 := by omega
  go_enter Try.func8, Try.ntmps8
  go_wp2_with fail
  refine (mknew_any A cap xs w HI.out hm).mono ?_; rintro e w1 ⟨rfl, hd, hb1, hz⟩
  have hdH := Lib.hid hd
  have hb1H := Lib.hid hb1
  clear hd hb1
  go_wp2_with fail
  refine (rows_any _ xs _ hdH.out).mono ?_; rintro e w2 ⟨gb, M, l', rfl, hsym, h1, h8, hgb, hbox, hd2, hg2⟩
  have hbel := Lib.hid (after_rows hb1H.out hg2)
  have hbelz := (after_rows hb1H.out hg2).size
  have hsymH := Lib.hid hsym
  have hi : Hid (Ints w2 (gb + 1) (some ⟨gb, 0, none⟩) (ints M)) := hbox.ints (by omega)
  clear hsym hbox hd2 hg2 hz
  rw [← ints_length M] at h1 h8 ⊢
  have hpw : 2 ^ (ints M).length ≤ 256 := Nat.pow_le_pow_right (n := 2) (by omega) h8
  go_wp2_with fail
  refine (mod_any _ _ _ (by omega) (by omega)).mono ?_; rintro e w' ⟨rfl, rfl⟩
  rw [hSH.out]
  go_wp2_with fail
  refine (clash_any _ _ _ (ints M) S _ hi.out (by omega) s0 s3).mono ?_; rintro e w' ⟨rfl, rfl⟩
  rcases hc : firstHit (ints M).length (hitP (ints M) (S : Int)) with _ | ⟨p, q⟩
  · have hc2 := Lib.hid (part_clash (ints M) S P hsubH.out hc)
    clear hc
    unfold hitVal
    go_wp2_with fail
    refine (clash_any _ _ _ (ints M) P _ hi.out (by omega) p0 p3).mono ?_; rintro e w' ⟨rfl, rfl⟩
    rw [hc2.out]
    unfold hitVal
    go_wp2_with fail
    refine (allowed_any _ _ _ (ints M) S _ hi.out (by omega) s0 s3).mono ?_; rintro e w' ⟨rfl, rfl⟩
    go_wp2_with fail
    refine (allowed_any _ _ _ (ints M) P _ hi.out (by omega) p0 p3).mono ?_; rintro e w' ⟨rfl, rfl⟩
    have l1 := allowedTo_lt (ints M) S (ints M).length
    have l2 := allowedTo_lt (ints M) P (ints M).length
    have hno := bits_andNot_zero _ _ (by omega) (by omega) (allowed_part (ints M) S P hsubH.out)
    generalize allowedTo (ints M) S (ints M).length = a at hno l1
    generalize allowedTo (ints M) P (ints M).length = b at hno l2
    go_wp2_with fail
    refine (awake6_any _).mono ?_; rintro e w4 ⟨rfl, hb4⟩
    go_wp2_with fail
    go_ret
    exact ⟨rfl, hbel.out.trans (hb4.mono hbelz)⟩
  · obtain ⟨hlt, hq, hcf, hbp, hbq⟩ := clash_lt hsymH.out S p q hc
    have hcfH := Lib.hid hcf
    have t1 : ((S : Int) / 2 ^ p % 2 == 1) = true := by rw [tb_def, tb_nat, hbp]
    have t2 : ((S : Int) / 2 ^ q % 2 == 1) = true := by rw [tb_def, tb_nat, hbq]
    have hlti : (p : Int) < (q : Int) := by omega
    clear hc hcf hbp hbq
    unfold hitVal
    go_wp2_with fail
    refine (clash_any _ _ _ (ints M) P _ hi.out (by omega) p0 p3).mono ?_; rintro e w' ⟨rfl, rfl⟩
    rcases hc2 : firstHit (ints M).length (hitP (ints M) (P : Int)) with _ | ⟨r, s⟩
    all_goals
      clear hc2
      unfold hitVal
      go_wp2_with fail
      refine (conflict_any _ _ _ (ints M) p q _ hi.out (by omega)).mono ?_; rintro e w' ⟨rfl, rfl⟩
      rw [hcfH.out]
      go_wp2_with fail
      refine (awake6_any _).mono ?_; rintro e w4 ⟨rfl, hb4⟩
      go_wp2_with fail
      go_ret
      exact ⟨rfl, hbel.out.trans (hb4.mono hbelz)⟩

end Go.Proofs.Ytepodpdcillkmaa
