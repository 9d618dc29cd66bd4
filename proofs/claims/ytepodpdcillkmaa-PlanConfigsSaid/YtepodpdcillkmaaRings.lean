/- The walk of signalbrokerlaw07.PlanRings. -/
import Derived.Test.YtepodpdcillkmaaOf
namespace Go.Proofs.Ytepodpdcillkmaa
open Go.RowKit
set_option linter.unusedVariables false
set_option linter.unusedSimpArgs false

/-- How many phases of ring r the first G groups have, among the first k phases. -/
def sg (P : List Ph) (k : Nat) (r : Int) : Nat → Nat
  | 0 => 0
  | G + 1 => sg P k r G + (ofTo P r (G : Int) k).length
theorem sg_zero (P : List Ph) (r : Int) (G : Nat) : sg P 0 r G = 0 := by
  induction G with
  | zero => rfl
  | succ G ih => simp [sg, ih, ofTo]
theorem sg_step (P : List Ph) (k : Nat) (r : Int) (G : Nat) : sg P (k + 1) r G = sg P k r G + if (P.getD k pz).r = r ∧ 0 ≤ (P.getD k pz).g ∧ (P.getD k pz).g < (G : Int) then 1 else 0 := by
  induction G with
  | zero =>
    have : ¬ ((P.getD k pz).r = r ∧ 0 ≤ (P.getD k pz).g ∧ (P.getD k pz).g < ((0 : Nat) : Int)) := by omega
    rw [if_neg this]; rfl
  | succ G ih =>
    rw [sg, sg, ih, ofTo_succ]
    generalize (P.getD k pz).r = a
    generalize (P.getD k pz).g = b
    by_cases h1 : a = r
    · by_cases h2 : b = (G : Int)
      · have e : (a == r && b == (G : Int)) = true := by simp [h1, h2]
        rw [if_pos e, if_neg (by omega), if_pos (by omega), List.length_append]
        simp; omega
      · have e : ¬ (a == r && b == (G : Int)) = true := by simp [h2]
        rw [if_neg e]
        by_cases h3 : 0 ≤ b ∧ b < (G : Int)
        · rw [if_pos (by omega), if_pos (by omega)]; omega
        · rw [if_neg (by omega), if_neg (by omega)]; omega
    · have e : ¬ (a == r && b == (G : Int)) = true := by simp [h1]
      rw [if_neg e, if_neg (by omega), if_neg (by omega)]; omega
theorem sg_le (P : List Ph) (r : Int) (G k : Nat) : sg P k r G ≤ k := by
  induction k with
  | zero => rw [sg_zero]; omega
  | succ k ih => rw [sg_step]; split <;> omega
theorem sg_all (P : List Ph) (G k : Nat) (h : ∀ i, i < k → ((P.getD i pz).r = 0 ∨ (P.getD i pz).r = 1) ∧ 0 ≤ (P.getD i pz).g ∧ (P.getD i pz).g < (G : Int)) : sg P k 0 G + sg P k 1 G = k := by
  induction k with
  | zero => rw [sg_zero, sg_zero]
  | succ k ih =>
    have := ih (fun i hi => h i (by omega))
    obtain ⟨h1, h2, h3⟩ := h k (by omega)
    rw [sg_step, sg_step]
    rcases h1 with h1 | h1
    · rw [if_pos ⟨h1, h2, h3⟩, if_neg (by omega)]; omega
    · rw [if_neg (by omega), if_pos ⟨h1, h2, h3⟩]; omega
theorem groupsTo_gt (P : List Ph) (k i : Nat) (hi : i < k) : (P.getD i pz).g < groupsTo P k := by
  induction k with
  | zero => omega
  | succ k ih =>
    unfold groupsTo
    by_cases h : i < k
    · have := ih h; omega
    · obtain rfl : i = k := by omega
      omega
theorem groupsTo_le (P : List Ph) (m : Int) (hm : 0 ≤ m) (k : Nat) (h : ∀ i, i < k → (P.getD i pz).g < m) : groupsTo P k ≤ m := by
  induction k with
  | zero => exact hm
  | succ k ih =>
    have := ih (fun i hi => h i (by omega))
    have := h k (by omega)
    unfold groupsTo
    omega
theorem Made.rng {P : List Ph} {st : Int} (h : Made P st) (i : Nat) (hi : i < P.length) : ((P.getD i pz).r = 0 ∨ (P.getD i pz).r = 1) ∧ 0 ≤ (P.getD i pz).g ∧ (P.getD i pz).g ≤ 3 := by
  have hp := h.ph i hi
  unfold phOk at hp
  simp only [Bool.and_eq_true] at hp
  have a := wi_yes hp.1
  have b := wi_yes hp.2.1
  exact ⟨by omega, b.1, b.2⟩
/-- How many the first n rings have. -/
def tot (P : List Ph) (G : Nat) : Nat → Nat
  | 0 => 0
  | r + 1 => tot P G r + sg P P.length (r : Int) G
theorem tot_two {P : List Ph} {st : Int} (h : Made P st) {G : Nat} (hG : groupsTo P P.length = (G : Int)) : tot P G 2 = P.length := by
  show 0 + sg P P.length 0 G + sg P P.length 1 G = P.length
  rw [Nat.zero_add]
  exact sg_all P G P.length fun i hi => ⟨(h.rng i hi).1, (h.rng i hi).2.1, by rw [← hG]; exact groupsTo_gt P _ i hi⟩
theorem tot_le (P : List Ph) (G r : Nat) : tot P G r ≤ r * P.length := by
  induction r with
  | zero => simp [tot]
  | succ r ih =>
    have := sg_le P r G P.length
    rw [tot, Nat.succ_mul]; omega

set_option maxRecDepth 100000 in
set_option maxHeartbeats 2000000 in
theorem rings_walk (A : Option Addr) (len cap : Nat) (zs : List Int) (set : Int) (w : World) (hA : IsRow w A len cap zs) (_ : (Lit.int .i64 set).wf = true) :
    Calls Try.prog 11 #[.slice A len cap, .int .i64 set] w fun e w' => e = .returned (.bool true) ∧ Below w.heap.size w w' := by
  obtain ⟨xs, rfl, hI, hm⟩ := hA.opened
  have HI := Lib.hid hI
  clear hI hA
  go_enter Try.func11, Try.ntmps11
  go_wp2_with fail
  refine (mknew_any A cap xs w HI.out hm).mono ?_; rintro e w1 ⟨rfl, hd, hb1, hz⟩
  have hdH : Hid (HasDeck w1 w.heap.size) := ⟨_, hd⟩
  have hb1H := Lib.hid hb1
  clear hd hb1
  go_wp2_with fail
  refine (junc_any w.heap.size w1 hdH.out).mono ?_; rintro e w2 ⟨gp, gc, capp, capc, n, P, ex, st, rfl, hPs, hn6, hPok, st0, st2, hPh, hC, hd2, hg2⟩
  have hbel := Lib.hid (after_rows hb1H.out hg2)
  have hbelz := (after_rows hb1H.out hg2).size
  have hmade := Lib.hid (made_of hPs hn6 hPok st0 st2)
  have hP1 := hmade.out.n1
  have hP8 := hmade.out.n8
  have hCH := Lib.hid hC
  have hPhH := Lib.hid hPh
  have hCl : Hid ((ints (tableOf P ex)).length = P.length) := Lib.hid (by rw [ints_length, tableOf_length])
  clear hPs hPok hPh hC hd2 hg2 hz hn6 st0 st2
  go_wp2_with fail
  have hbelJ : Hid (Below w.heap.size w (w2.alloc (.cells #[.slice (some ⟨gp, 0, none⟩) P.length capp, .slice (some ⟨gc, 0, none⟩) P.length capc, .int .i64 st] 26))) := hbel.out.alloc hbelz _
  have hJ : Hid (Box (w2.alloc (.cells #[.slice (some ⟨gp, 0, none⟩) P.length capp, .slice (some ⟨gc, 0, none⟩) P.length capc, .int .i64 st] 26)) w2.heap.size 26 #[.slice (some ⟨gp, 0, none⟩) P.length capp, .slice (some ⟨gc, 0, none⟩) P.length capc, .int .i64 st]) := Box.new _ _ _
  have hCJ : Hid (Ints (w2.alloc (.cells #[.slice (some ⟨gp, 0, none⟩) P.length capp, .slice (some ⟨gc, 0, none⟩) P.length capc, .int .i64 st] 26)) w2.heap.size (some ⟨gc, 0, none⟩) (ints (tableOf P ex))) := hCH.out.below ((Below.refl _ _).alloc (Nat.le_refl _) _)
  have hPJ : Hid (Phs (w2.alloc (.cells #[.slice (some ⟨gp, 0, none⟩) P.length capp, .slice (some ⟨gc, 0, none⟩) P.length capc, .int .i64 st] 26)) w2.heap.size (some ⟨gp, 0, none⟩) P) := hPhH.out.below ((Below.refl _ _).alloc (Nat.le_refl _) _)
  have hWz : (w2.alloc (.cells #[.slice (some ⟨gp, 0, none⟩) P.length capp, .slice (some ⟨gc, 0, none⟩) P.length capc, .int .i64 st] 26)).heap.size = w2.heap.size + 1 := World.size_alloc _ _
  generalize w2.alloc (.cells #[.slice (some ⟨gp, 0, none⟩) P.length capp, .slice (some ⟨gc, 0, none⟩) P.length capc, .int .i64 st] 26) = W at hbelJ hJ hCJ hPJ hWz ⊢
  have hWz' : w2.heap.size + 1 ≤ W.heap.size := by omega
  have hWz2 : W.heap.size ≤ w2.heap.size + 1 := by omega
  clear hWz hCH hPhH
  refine (planJ_at _ _ _ _ _ _ P (ints (tableOf P ex)) st true _ rfl hCl.out (hmade.out.valid ex) (hPJ.out.more (by omega)) (by omega) (hCJ.out.more (by omega)) (by omega)).mono ?_; rintro e w3 ⟨rfl, hb3⟩
  have hb3H := Lib.hid hb3
  have hJ3 : Hid (Box w3 w2.heap.size 26 #[.slice (some ⟨gp, 0, none⟩) P.length capp, .slice (some ⟨gc, 0, none⟩) P.length capc, .int .i64 st]) := hJ.out.below hb3 (by omega)
  have hCJ3 : Hid (Ints w3 w2.heap.size (some ⟨gc, 0, none⟩) (ints (tableOf P ex))) := hCJ.out.below (hb3.mono (by omega))
  have hPJ3 : Hid (Phs w3 w2.heap.size (some ⟨gp, 0, none⟩) P) := hPJ.out.below (hb3.mono (by omega))
  have hall3 : Hid (Below w.heap.size w w3) := hbelJ.out.trans (hb3.mono (by omega))
  have hz3 : w2.heap.size + 1 ≤ w3.heap.size := Nat.le_trans hWz' hb3.size
  have hJz3 : w2.heap.size < w3.heap.size := hz3
  have j0 := hJ3.out.cell 0
  have j1 := hJ3.out.cell 1
  have j2 := hJ3.out.cell 2
  simp at j0 j1 j2
  clear hb3 hb3H hJ hCJ hPJ hbelJ hWz' hWz2
  obtain ⟨hpl0, hpl1⟩ : (2 : Int) ^ P.length ≤ 256 ∧ (1 : Int) ≤ 2 ^ P.length := pow_le_256 _ hP8
  go_wp2_with fail
  refine (mod_any _ _ _ (by omega) (by omega)).mono ?_; rintro e w' ⟨rfl, rfl⟩
  have s0 : 0 ≤ set % 2 ^ P.length := Int.emod_nonneg _ (by omega)
  have s1 : set % 2 ^ P.length < 2 ^ P.length := Int.emod_lt_of_pos _ (by omega)
  have s3 : set % 2 ^ P.length ≤ 1000000 := by omega
  generalize set % 2 ^ P.length = S at s0 s1 s3 ⊢
  go_wp2_with fail
  have ha1 := and_one
  go_loopw [29] (fun v29 wr => ∃ p : Nat, p ≤ P.length ∧ v29 = .int .i64 p ∧ Below (w2.heap.size + 1) w3 wr) (fun v29 _ => P.length - (intOf v29).toNat)
  case atStart => exact ⟨0, by omega, rfl, Below.refl _ _⟩
  case round =>
    obtain ⟨p, hp, rfl, hb⟩ := hrel
    have hz := hb.size
    have hbH := Lib.hid hb
    by_cases hlt : p < P.length
    · have hpl : (p : Int) < (P.length : Int) := by omega
      have hat := phs_at (hPJ3.out.below (hb.mono (by omega))) hlt
      have hgpz : gp < wr.heap.size := World.block_lt_of_cell? _ _ hat.c0
      have k0 := (hb.cell (p := ⟨w2.heap.size, 0, none⟩) (by dsimp only; omega)).trans j0
      have k1 := (hb.cell (p := ⟨w2.heap.size, 1, none⟩) (by dsimp only; omega)).trans j1
      have hJz : w2.heap.size < wr.heap.size := by omega
      clear hb
      have c0 := hat.c0
      have c1 := hat.c1
      have c2 := hat.c2
      have c3 := hat.c3
      have c4 := hat.c4
      have c5 := hat.c5
      have c6 := hat.c6
      have c7 := hat.c7
      clear hat
      generalize hph : P.getD p pz = ph at c0 c1 c2 c3 c4 c5 c6 c7
      have hphH := Lib.hid hph
      clear hph
      obtain ⟨w8, hw8⟩ : ∃ x, x = wr := ⟨wr, rfl⟩
      subst hw8
      go_wp2_with fail
      have hWb : Hid (Below w8.heap.size w8 (w8.alloc (.cells #[.int .i64 ph.r, .int .i64 ph.g, .int .i64 ph.mn, .int .i64 ph.mx, .int .i64 ph.ye, .int .i64 ph.re, .int .i64 ph.wa, .int .i64 ph.cl] 55))) := (Below.refl _ _).alloc (Nat.le_refl _) _
      have e0 : (w8.alloc (.cells #[.int .i64 ph.r, .int .i64 ph.g, .int .i64 ph.mn, .int .i64 ph.mx, .int .i64 ph.ye, .int .i64 ph.re, .int .i64 ph.wa, .int .i64 ph.cl] 55)).cell? ⟨w8.heap.size, 0, none⟩ = some (.int .i64 ph.r) := (Box.new _ _ _).cell 0
      have e1 : (w8.alloc (.cells #[.int .i64 ph.r, .int .i64 ph.g, .int .i64 ph.mn, .int .i64 ph.mx, .int .i64 ph.ye, .int .i64 ph.re, .int .i64 ph.wa, .int .i64 ph.cl] 55)).cell? ⟨w8.heap.size, 1, none⟩ = some (.int .i64 ph.g) := (Box.new _ _ _).cell 1
      have hXz : (w8.alloc (.cells #[.int .i64 ph.r, .int .i64 ph.g, .int .i64 ph.mn, .int .i64 ph.mx, .int .i64 ph.ye, .int .i64 ph.re, .int .i64 ph.wa, .int .i64 ph.cl] 55)).heap.size = w8.heap.size + 1 := World.size_alloc _ _
      generalize (w8.alloc (.cells #[.int .i64 ph.r, .int .i64 ph.g, .int .i64 ph.mn, .int .i64 ph.mx, .int .i64 ph.ye, .int .i64 ph.re, .int .i64 ph.wa, .int .i64 ph.cl] 55)) = X at hWb e0 e1 hXz ⊢
      have hXz1 : w8.heap.size < X.heap.size := by omega
      have hbX : Hid (Below (w2.heap.size + 1) w3 X) := hbH.out.trans (hWb.out.mono (by omega))
      clear c0 c1 c2 c3 c4 c5 c6 c7 hXz k0 k1
      go_loopw [37] (fun v37 wx => ∃ q : Nat, q ≤ P.length ∧ v37 = .int .i64 q ∧ Below X.heap.size X wx) (fun v37 _ => P.length - (intOf v37).toNat)
      case atStart => exact ⟨0, by omega, rfl, Below.refl _ _⟩
      case round =>
        obtain ⟨q, hq, rfl, hb2⟩ := hrel
        have hz2 := hb2.size
        by_cases hqt : q < P.length
        · have hql : (q : Int) < (P.length : Int) := by omega
          have hall2 : Below (w2.heap.size + 1) w3 wr := hbX.out.trans (hb2.mono (by omega))
          have hat := phs_at (hPJ3.out.below (hall2.mono (by omega))) hqt
          have c0 := hat.c0
          have c1 := hat.c1
          have c2 := hat.c2
          have c3 := hat.c3
          have c4 := hat.c4
          have c5 := hat.c5
          have c6 := hat.c6
          have c7 := hat.c7
          clear hat
          have hnd : Hid (need P p q = true → (((tableOf P ex).getD p 0 : Nat) : Int) / 2 ^ q % 2 = 1) := Lib.hid fun h => by
            have h1 := (table_bit P ex p q hlt hqt).trans (conf_need P ex p q h)
            have h2 : tb (((tableOf P ex).getD p 0 : Nat) : Int) q = true := by rw [tb_nat]; exact h1
            unfold tb at h2
            simpa using h2
          generalize hqh : P.getD q pz = qh at c0 c1 c2 c3 c4 c5 c6 c7
          have hqhH := Lib.hid hqh
          clear hqh
          have d0 := (hb2.cell (p := ⟨w8.heap.size, 0, none⟩) (by dsimp only; omega)).trans e0
          have d1 := (hb2.cell (p := ⟨w8.heap.size, 1, none⟩) (by dsimp only; omega)).trans e1
          have k0 := (hall2.cell (p := ⟨w2.heap.size, 0, none⟩) (by dsimp only; omega)).trans j0
          have k1 := (hall2.cell (p := ⟨w2.heap.size, 1, none⟩) (by dsimp only; omega)).trans j1
          obtain ⟨b', off', e', hgcl, hcp⟩ := (hCJ3.out.below (hall2.mono (by omega))) p (by rw [hCl.out]; exact hlt)
          injection e' with e'
          injection e' with e2 e3
          subst e2 e3
          rw [ints_getD, Nat.zero_add] at hcp
          have hgcz : gc < wr.heap.size := by omega
          generalize (((tableOf P ex).getD p 0 : Nat) : Int) = T at hcp hnd
          have hzx : w8.heap.size < wr.heap.size := by omega
          have hgpx : gp < wr.heap.size := by omega
          have hJx : w2.heap.size < wr.heap.size := by omega
          have hb2H := Lib.hid hb2
          clear hb2 hall2
          by_cases hik : p = q
          · have bn : ((p : Int) != (q : Int)) = false := by simp [hik]
            clear hik
            go_wp2_with fail
            go_roundw
            case rel => exact ⟨q + 1, by omega, by go_num, hb2H.out.alloc (by omega) _⟩
            case measure => simp [intOf]; omega
          · have bn : ((p : Int) != (q : Int)) = true := by simp; omega
            cases hb1 : (S / 2 ^ p % 2 == 1)
            · go_wp2_with fail
              go_roundw
              case rel => exact ⟨q + 1, by omega, by go_num, hb2H.out.alloc (by omega) _⟩
              case measure => simp [intOf]; omega
            · cases hb3 : (S / 2 ^ q % 2 == 1)
              · go_wp2_with fail
                go_roundw
                case rel => exact ⟨q + 1, by omega, by go_num, hb2H.out.alloc (by omega) _⟩
                case measure => simp [intOf]; omega
              · by_cases hr : ph.r = qh.r
                · have br : (ph.r == qh.r) = true := by simp [hr]
                  have ht := hnd.out (need_ring hik (by rw [hphH.out, hqhH.out, hr]))
                  clear hr
                  go_wp2_with fail
                  go_roundw
                  case rel => exact ⟨q + 1, by omega, by go_num, hb2H.out.alloc (by omega) _⟩
                  case measure => simp [intOf]; omega
                · have br : (ph.r == qh.r) = false := by simpa using hr
                  by_cases hg : ph.g = qh.g
                  · have bg : (ph.g != qh.g) = false := by simp [hg]
                    clear hr hg
                    go_wp2_with fail
                    go_roundw
                    case rel => exact ⟨q + 1, by omega, by go_num, hb2H.out.alloc (by omega) _⟩
                    case measure => simp [intOf]; omega
                  · have bg : (ph.g != qh.g) = true := by simpa using hg
                    have ht := hnd.out (need_group hik (by rw [hphH.out, hqhH.out]; exact hg))
                    clear hr hg
                    go_wp2_with fail
                    go_roundw
                    case rel => exact ⟨q + 1, by omega, by go_num, hb2H.out.alloc (by omega) _⟩
                    case measure => simp [intOf]; omega
        · have hql : ¬ (q : Int) < (P.length : Int) := by omega
          go_wp2_with fail
          go_roundw
          case rel => exact ⟨p + 1, by omega, by go_num, hbX.out.trans (hb2.mono (by omega))⟩
          case measure => simp [intOf]; omega
    · have hpl : ¬ (p : Int) < (P.length : Int) := by omega
      go_wp2_with fail
      have hbr : Hid (Below (w2.heap.size + 1) w3 wr) := hbH.out
      obtain ⟨G, hG⟩ : ∃ G : Nat, groupsTo P P.length = (G : Int) := by
        have := (groupsTo_bd P (fun i hi => by have := (hmade.out.rng i hi).2; omega) P.length (Nat.le_refl _)).1
        exact ⟨(groupsTo P P.length).toNat, (Int.toNat_of_nonneg this).symm⟩
      have hG4 : G ≤ 4 := by
        have := groupsTo_le P 4 (by omega) P.length (fun i hi => by have := (hmade.out.rng i hi).2; omega)
        omega
      have hGH := Lib.hid hG
      have h2 := Lib.hid (tot_two hmade.out hG)
      have hJz4 : w2.heap.size < wr.heap.size := by omega
      clear hG hpl hb j0 j1 j2
      obtain ⟨w4, hw4⟩ : ∃ x, x = wr := ⟨wr, rfl⟩
      subst hw4
      go_loopw [10, 89] (fun v10 v89 wx => ∃ r : Nat, r ≤ 2 ∧ v89 = .int .i64 r ∧ v10 = .int .i64 (tot P G r) ∧ Below w4.heap.size w4 wx) (fun _ v89 _ => 2 - (intOf v89).toNat)
      case atStart => exact ⟨0, by omega, rfl, rfl, Below.refl _ _⟩
      case round =>
        obtain ⟨r, hr, rfl, rfl, hb5⟩ := hrel
        have hz5 := hb5.size
        have hb5H := Lib.hid hb5
        have hbx : Hid (Below (w2.heap.size + 1) w3 wr) := hbr.out.trans (hb5.mono (by omega))
        have hJx := hJ3.out.below hbx.out (by omega)
        have k0 := hJx.cell 0
        have k1 := hJx.cell 1
        have k2 := hJx.cell 2
        simp at k0 k1 k2
        have hPx : Hid (Phs wr wr.heap.size (some ⟨gp, 0, none⟩) P) := (hPJ3.out.below (hbx.out.mono (by omega))).more (by omega)
        have hJz5 : w2.heap.size < wr.heap.size := by omega
        clear hb5 hJx
        by_cases hr2 : r < 2
        · have hrl : (r : Int) < 2 := by omega
          go_wp2_with fail
          refine (groups_any _ _ _ _ _ P st _ hPx.out (by omega) (fun i hi => by have := (hmade.out.rng i hi).2; omega)).mono ?_; rintro e w6 ⟨rfl, hb6⟩
          rw [hGH.out]
          have hb6H := Lib.hid hb6
          have hz6 := hb6.size
          clear hb6 k0 k1 k2
          have htl := tot_le P G r
          go_wp2_with fail
          go_loopw [10, 94] (fun v10 v94 wy => ∃ g : Nat, g ≤ G ∧ v94 = .int .i64 g ∧ v10 = .int .i64 ((tot P G r + sg P P.length (r : Int) g : Nat) : Int) ∧ Below w6.heap.size w6 wy) (fun _ v94 _ => G - (intOf v94).toNat)
          case atStart => exact ⟨0, by omega, rfl, rfl, Below.refl _ _⟩
          case round =>
            obtain ⟨g, hg, rfl, rfl, hb7⟩ := hrel
            have hz7 := hb7.size
            have hb7H := Lib.hid hb7
            by_cases hgG : g < G
            · have hgl : (g : Int) < (G : Int) := by omega
              have hby : Hid (Below (w2.heap.size + 1) w3 wr) := hbx.out.trans ((hb6H.out.mono (by omega)).trans (hb7.mono (by omega)))
              have hJy := hJ3.out.below hby.out (by omega)
              have k0 := hJy.cell 0
              have k1 := hJy.cell 1
              have k2 := hJy.cell 2
              simp at k0 k1 k2
              have hPy : Hid (Phs wr wr.heap.size (some ⟨gp, 0, none⟩) P) := (hPJ3.out.below (hby.out.mono (by omega))).more (by omega)
              have hJz7 : w2.heap.size < wr.heap.size := by omega
              clear hb7 hJy
              have hsl := sg_le P (r : Int) (g + 1) P.length
              have hss : sg P P.length (r : Int) (g + 1) = sg P P.length (r : Int) g + (ofTo P (r : Int) (g : Int) P.length).length := rfl
              have hssH := Lib.hid hss
              rw [hss] at hsl
              clear hss
              go_wp2_with fail
              refine (of_any _ _ _ _ _ P st _ _ _ hPy.out (by omega)).mono ?_; rintro e w9 ⟨A9, cap9, rfl, hI9, hb9⟩
              have hb9H := Lib.hid hb9
              clear hI9 hb9
              generalize hm1 : (ofTo P (r : Int) (g : Int) P.length).length = m1 at hsl hssH ⊢
              generalize hm2 : sg P P.length (r : Int) g = m2 at hsl hssH ⊢
              generalize hm3 : tot P G r = m3 at htl ⊢
              have hm3H := Lib.hid hm3
              clear hm1 hm2 hm3
              have htl2 : m3 ≤ 16 := by
                have : r * P.length ≤ 2 * P.length := Nat.mul_le_mul_right _ hr
                omega
              go_wp2_with fail
              go_roundw
              case rel => exact ⟨g + 1, by omega, by go_num, by rw [hssH.out, hm3H.out]; congr 1; omega, hb7H.out.trans (hb9H.out.mono (by omega))⟩
              case measure => simp [intOf]; omega
            · have hgl : ¬ (g : Int) < (G : Int) := by omega
              obtain rfl : g = G := by omega
              go_wp2_with fail
              go_roundw
              case rel => exact ⟨r + 1, by omega, by go_num, rfl, hb5H.out.trans ((hb6H.out.mono (by omega)).trans (hb7.mono (by omega)))⟩
              case measure => simp [intOf]; omega
        · have hrl : ¬ (r : Int) < 2 := by omega
          obtain rfl : r = 2 := by omega
          rw [h2.out]
          have hfin : Hid (Below w.heap.size w wr) := hall3.out.trans (hbx.out.mono (by omega))
          have ht : ((P.length : Int) == (P.length : Int)) = true := by simp
          go_wp2_with fail
          refine (awake7_any _).mono ?_; rintro e w9 ⟨rfl, hb9⟩
          go_wp2_with fail
          go_ret
          exact ⟨rfl, hfin.out.trans (hb9.mono (by omega))⟩

end Go.Proofs.Ytepodpdcillkmaa
