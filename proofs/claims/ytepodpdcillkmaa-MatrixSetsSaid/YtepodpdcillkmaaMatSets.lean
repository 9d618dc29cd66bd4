/- The walk of signalbrokerlaw06.MatrixSets. -/
import Derived.Test.YtepodpdcillkmaaMatLaw
namespace Go.Proofs.Ytepodpdcillkmaa
open Go.RowKit

set_option maxHeartbeats 1000000 in
theorem sets_walk (A : Option Addr) (len cap : Nat) (zs : List Int) (set : Int) (w : World) (hA : IsRow w A len cap zs) (_ : (Lit.int .i64 set).wf = true) :
    Calls Try.prog 6 #[.slice A len cap, .int .i64 set] w fun e w' => e = .returned (.bool true) ∧ Below w.heap.size w w' := by
  obtain ⟨xs, rfl, hI, hm⟩ := hA.opened
  have s0 : 0 ≤ set % 256 := Int.emod_nonneg _ (by omega)
  have s1 : set % 256 < 256 := Int.emod_lt_of_pos _ (by omega)
  have s1' : set % 256 ≤ 1000000 := by omega
  have HI := Lib.hid hI
  clear hI
  go_enter Try.func6, Try.ntmps6
  go_wp2_with fail
  refine (mknew_any A cap xs w HI.out hm).mono ?_; rintro e w1 ⟨rfl, hd, hb1, hz⟩
  have hdH := Lib.hid hd
  have hb1H := Lib.hid hb1
  clear hd hb1
  go_wp2_with fail
  refine (rows_any _ xs _ hdH.out).mono ?_; rintro e w2 ⟨gb, M, l', rfl, hsym, h1, h8, hgb, hbox, hd2, hg2⟩
  have hbel := Lib.hid (after_rows hb1H.out hg2)
  have hbelz := (after_rows hb1H.out hg2).size
  have hsymH := Lib.hid hsym
  have hi : Hid (Ints w2 (gb + 1) (some ⟨gb, 0, none⟩) (ints M)) := hbox.ints (by omega)
  clear hsym hbox hd2 hg2 hz
  rw [← ints_length M] at h1 h8 ⊢
  go_wp2_with fail
  refine (mod_any _ _ _ (by omega) (by omega)).mono ?_; rintro e w' ⟨rfl, rfl⟩
  generalize set % 256 = st at s0 s1 s1'
  go_wp2_with fail
  refine (clash_any _ _ _ (ints M) st _ hi.out (by omega) s0 s1').mono ?_; rintro e w' ⟨rfl, rfl⟩
  have hh := hsymH.out.hits st
  obtain ⟨p, q, hpq⟩ := hitVal_form (firstHit (ints M).length (hitP (ints M) st))
  rw [hpq]
  rw [hh] at hpq
  have hpqH := Lib.hid hpq
  clear hh hpq
  go_wp2_with fail
  refine (rclash_any _ _ _ (ints M) st _ hi.out (by omega)).mono ?_; rintro e w' ⟨rfl, rfl⟩
  rw [hpqH.out]
  go_wp2_with fail
  refine (allowed_any _ _ _ (ints M) st _ hi.out (by omega) s0 s1').mono ?_; rintro e w' ⟨rfl, rfl⟩
  go_wp2_with fail
  refine (rallowed_any _ _ _ (ints M) st _ hi.out (by omega)).mono ?_; rintro e w' ⟨rfl, rfl⟩
  go_wp2_with fail
  refine (awake6_any _).mono ?_; rintro e w4 ⟨rfl, hb4⟩
  go_wp2_with fail
  go_ret
  exact ⟨rfl, hbel.out.trans (hb4.mono hbelz)⟩

end Go.Proofs.Ytepodpdcillkmaa
