/- vehicle.Register. -/
import Derived.Test.YtobeediccmmjhaaVehC
import Derived.StillTailTactics
import Derived.Deep.LoopGhost
import Derived.Deep.DeepCutAuto
import Derived.Deep.AppendLies
import Derived.Lib.SmallJoins
namespace Go.Proofs.Ytobeediccmmjhaa
open Go.RowKit
set_option linter.unusedVariables false
set_option linter.unusedSimpArgs false

theorem veh_info : (Try.prog.info? 38).map (fun i => (i.zero, i.size, i.bytes)) = some (some vz.val, 2, 16) := by kernel_rfl
theorem veh_size : (Try.prog.info? 38).map (·.size) = some 2 := by kernel_rfl
theorem make_vehs (n : Nat) (hn : n ≤ 1000) (w : World) :
    (Instr.makeSlice 31 (.int .i64 (n : Int)) (.int .i64 (n : Int))).run Try.prog w = .ok (.slice (some ⟨w.heap.size, 0, none⟩) n n) (w.alloc (.cells (vcells (List.replicate n vz)).toArray 38)) := by
  obtain ⟨i, hi, hzz⟩ := Option.map_eq_some_iff.1 veh_info
  simp only [Prod.mk.injEq] at hzz
  obtain ⟨hz, hs, hb⟩ := hzz
  have hr := run_make (P := Try.prog) w 31 38 i vz.val Try.underlying31 hi hz .i64 .i64 n n (by omega) (Int.le_refl _) (by rw [hb]; omega) (by omega)
  simp only [Int.toNat_natCast, hs] at hr
  have e : madeCells vz.val.cells (n * 2) = (vcells (List.replicate n vz)).toArray := vcells_zero n
  rw [e] at hr
  exact hr
theorem make_vehs1 (n : Nat) (hn : n ≤ 999) (w : World) :
    (Instr.makeSlice 31 (.int .i64 ((n : Int) + 1)) (.int .i64 ((n : Int) + 1))).run Try.prog w = .ok (.slice (some ⟨w.heap.size, 0, none⟩) (n + 1) (n + 1)) (w.alloc (.cells (vcells (List.replicate (n + 1) vz)).toArray 38)) := by
  have := make_vehs (n + 1) (by omega) w
  have e : ((n + 1 : Nat) : Int) = (n : Int) + 1 := by omega
  rw [e] at this
  exact this
theorem count_held (A : Option Addr) (cap : Nat) (vs : List Veh) (c : Int) (W w : World) (h : Below W.heap.size W w ∧ ∀ b o, b < W.heap.size → w.cell? ⟨b, o, none⟩ = W.cell? ⟨b, o, none⟩) (hA : Vehs W W.heap.size A vs) (hm : vs.length ≤ 9223372036854775807) :
    Calls Try.prog 14 #[.slice A vs.length cap, .int .i64 c] w fun e w' => e = .returned (.int .i64 (countTo vs c vs.length)) ∧ Below w.heap.size w w' :=
  count_any A cap vs c w ((hA.below h.1).more h.1.size) hm
theorem limit_held (a : Ag) (c : Int) (W w : World) (h : Below W.heap.size W w ∧ ∀ b o, b < W.heap.size → w.cell? ⟨b, o, none⟩ = W.cell? ⟨b, o, none⟩) (hA : Ints W W.heap.size a.L a.lims) (hm : a.lims.length ≤ 9223372036854775807) :
    Calls Try.prog 27 #[a.val, .int .i64 c] w fun e w' => e = .returned (.int .i64 (limV a.lims c)) ∧ Below w.heap.size w w' := by
  refine limit_any a c w ?_ hm
  exact (hA.below h.1).more h.1.size

set_option maxRecDepth 100000 in
set_option maxHeartbeats 4000000 in
theorem rgstr_any (A : Option Addr) (cap : Nat) (vs : List Veh) (a : Ag) (id cl : Int) (w : World) (hA : Vehs w w.heap.size A vs) (hm : vs.length ≤ 9223372036854775807) (hL : Ints w w.heap.size a.L a.lims) (hlm : a.lims.length ≤ 9223372036854775807) (hS : Sl A vs.length cap) :
    Calls Try.prog 13 #[.slice A vs.length cap, a.val, .agg #[.int .i64 id, .int .i64 cl]] w fun e w' => RegPost (regL vs a.cl a.lims id cl) (regE vs a.cl a.lims id cl) w e w' := by
  obtain ⟨S, sl, sc, ri, acl, L, lc, lims, rq, se, ra, bu⟩ := a
  have HA := Lib.hid hA
  have HL := Lib.hid hL
  have HS := Lib.hid hS
  clear hA hL hS
  dsimp only at hlm ⊢
  go_enter Try.func13, Try.ntmps13
  go_wp2_with fail
  have hW : Hid (Below w.heap.size w ((w.alloc (.cells #[.slice S sl sc, .int .i64 ri, .int .i64 acl, .slice L lims.length lc, .int .i64 rq, .int .i64 se, .int .i64 ra, .int .i64 bu] 27)).alloc (.cells #[.int .i64 id, .int .i64 cl] 38))) := Lib.hid (by go_grown)
  have b0 : Hid (Box ((w.alloc (.cells #[.slice S sl sc, .int .i64 ri, .int .i64 acl, .slice L lims.length lc, .int .i64 rq, .int .i64 se, .int .i64 ra, .int .i64 bu] 27)).alloc (.cells #[.int .i64 id, .int .i64 cl] 38)) w.heap.size 27 #[.slice S sl sc, .int .i64 ri, .int .i64 acl, .slice L lims.length lc, .int .i64 rq, .int .i64 se, .int .i64 ra, .int .i64 bu]) := (Box.new w _ _).alloc _
  have b1 : Hid (Box ((w.alloc (.cells #[.slice S sl sc, .int .i64 ri, .int .i64 acl, .slice L lims.length lc, .int .i64 rq, .int .i64 se, .int .i64 ra, .int .i64 bu] 27)).alloc (.cells #[.int .i64 id, .int .i64 cl] 38)) (w.heap.size + 1) 38 #[.int .i64 id, .int .i64 cl]) := boxNew2 w _ _ _
  have hWz : ((w.alloc (.cells #[.slice S sl sc, .int .i64 ri, .int .i64 acl, .slice L lims.length lc, .int .i64 rq, .int .i64 se, .int .i64 ra, .int .i64 bu] 27)).alloc (.cells #[.int .i64 id, .int .i64 cl] 38)).heap.size = w.heap.size + 1 + 1 := by simp
  generalize ((w.alloc (.cells #[.slice S sl sc, .int .i64 ri, .int .i64 acl, .slice L lims.length lc, .int .i64 rq, .int .i64 se, .int .i64 ra, .int .i64 bu] 27)).alloc (.cells #[.int .i64 id, .int .i64 cl] 38)) = W at hW b0 b1 hWz ⊢
  have hVW : Hid (Vehs W w.heap.size A vs) := HA.out.below hW.out
  refine (valid_any A cap vs _ (hVW.out.more (by omega)) hm).mono ?_; rintro e w1 ⟨rfl, hb1⟩
  have hW1 : Hid (Below w.heap.size w w1) := hW.out.trans (hb1.mono (by omega))
  have b0' : Hid (Box w1 w.heap.size 27 #[.slice S sl sc, .int .i64 ri, .int .i64 acl, .slice L lims.length lc, .int .i64 rq, .int .i64 se, .int .i64 ra, .int .i64 bu]) := b0.out.below hb1 (by omega)
  have b1' : Hid (Box w1 (w.heap.size + 1) 38 #[.int .i64 id, .int .i64 cl]) := b1.out.below hb1 (by omega)
  have hz0 : w.heap.size < w1.heap.size := b0'.out.lt
  have hz1 : w.heap.size + 1 < w1.heap.size := b1'.out.lt
  have hVW1 : Hid (Vehs w1 w.heap.size A vs) := HA.out.below hW1.out
  have hLW1 : Hid (Ints w1 w.heap.size L lims) := HL.out.below hW1.out
  clear hb1 hW b0 b1 hWz hVW
  have k0 := b1'.out.cell 0
  have k1 := b1'.out.cell 1
  have a0 := b0'.out.cell 0
  have a1 := b0'.out.cell 1
  have a2 := b0'.out.cell 2
  have a3 := b0'.out.cell 3
  have a4 := b0'.out.cell 4
  have a5 := b0'.out.cell 5
  have a6 := b0'.out.cell 6
  have a7 := b0'.out.cell 7
  simp at k0 k1 a0 a1 a2 a3 a4 a5 a6 a7
  have hnil : ∀ er : Int, er ≠ 0 → regE vs acl lims id cl = er → ∀ W', Below w.heap.size w W' → RegPost (regL vs acl lims id cl) (regE vs acl lims id cl) w (.returned (.tuple #[.slice none 0 0, .int .i64 er])) W' := by
    intro er hne he W' hb
    have : regL vs acl lims id cl = [] := by unfold regL; rw [he, if_neg hne]
    rw [this, he]
    exact regPost_none hb
  have hnilH := Lib.hid hnil
  clear hnil
  cases hv : validV vs
  · have hE : Hid (regE vs acl lims id cl = 1) := Lib.hid (by unfold regE; rw [if_pos hv])
    clear hv
    go_wp2_with fail
    refine bodyPost_ret (v := .tuple #[.slice none 0 0, .int .i64 1]) (by simp [results, Try.results13, go_sem]) rfl (hnilH.out 1 (by decide) hE.out _ hW1.out)
  obtain ⟨h8, hokv⟩ := validV_ok hv
  have hvH := Lib.hid hv
  have hokH := Lib.hid hokv
  clear hv hokv
  by_cases hid : 0 ≤ id ∧ id ≤ 4294967295
  rotate_left
  · have hE : Hid (regE vs acl lims id cl = 8) := Lib.hid (by unfold regE; rw [if_neg (by rw [hvH.out]; decide), if_pos hid])
    by_cases hi0 : id < 0
    · clear hid
      go_wp2_with fail
      refine bodyPost_ret (v := .tuple #[.slice none 0 0, .int .i64 8]) (by simp [results, Try.results13, go_sem]) rfl (hnilH.out 8 (by decide) hE.out _ hW1.out)
    · have hi1 : 4294967295 < id := by omega
      clear hid
      go_wp2_with fail
      refine bodyPost_ret (v := .tuple #[.slice none 0 0, .int .i64 8]) (by simp [results, Try.results13, go_sem]) rfl (hnilH.out 8 (by decide) hE.out _ hW1.out)
  have hidH := Lib.hid hid
  obtain ⟨hid0, hid1⟩ := hid
  by_cases hcl : 0 ≤ cl ∧ cl ≤ acl
  rotate_left
  · have hE : Hid (regE vs acl lims id cl = 17) := Lib.hid (by unfold regE; rw [if_neg (by rw [hvH.out]; decide), if_neg (fun h => h hidH.out), if_pos hcl])
    by_cases hi0 : cl < 0
    · clear hcl
      go_wp2_with fail
      refine bodyPost_ret (v := .tuple #[.slice none 0 0, .int .i64 17]) (by simp [results, Try.results13, go_sem]) rfl (hnilH.out 17 (by decide) hE.out _ hW1.out)
    · have hi1 : acl < cl := by omega
      clear hcl
      go_wp2_with fail
      refine bodyPost_ret (v := .tuple #[.slice none 0 0, .int .i64 17]) (by simp [results, Try.results13, go_sem]) rfl (hnilH.out 17 (by decide) hE.out _ hW1.out)
  have hclH := Lib.hid hcl
  obtain ⟨hcl0, hcl1⟩ := hcl
  go_wp2_with fail
  refine (place_any A cap w.heap.size vs id _ hVW1.out hm).mono ?_; rintro e w' ⟨rfl, rfl⟩
  have hkle := placeTo_le vs id
  have hhas : Hid (hasId vs id = (decide (placeTo vs id < vs.length) && ((vs.getD (placeTo vs id) vz).id == id))) := rfl
  obtain ⟨k, hk⟩ : ∃ k, k = placeTo vs id := ⟨_, rfl⟩
  rw [← hk] at hkle hhas ⊢
  have hkH := Lib.hid hk
  clear hk
  go_upto_region 8 with fail
  go_cut [48] (fun s48 wx => s48 = .bool (hasId vs id) ∧ ∃ n, wx = w1.drewN n)
  case first =>
    by_cases hlt : k < vs.length
    · have hkl : (k : Int) < (vs.length : Int) := by omega
      obtain ⟨b, off, rfl, hbl, hc0, _⟩ := hVW1.out k hlt
      cases hq : ((vs.getD k vz).id == id)
      · have hE : Hid (hasId vs id = false) := Lib.hid (by rw [hhas.out, hq, Bool.and_false])
        generalize (vs.getD k vz).id = y at hc0 hq
        go_quiet (fail)
        go_wp2_with fail
        go_meet
        exact ⟨by rw [hE.out], _, rfl⟩
      · have hE : Hid (hasId vs id = true) := Lib.hid (by rw [hhas.out, hq, Bool.and_true]; exact decide_eq_true hlt)
        generalize (vs.getD k vz).id = y at hc0 hq
        go_quiet (fail)
        go_wp2_with fail
        go_meet
        exact ⟨by rw [hE.out], _, rfl⟩
    · have hkl : ¬ (k : Int) < (vs.length : Int) := by omega
      have hE : Hid (hasId vs id = false) := Lib.hid (by rw [hhas.out, decide_eq_false hlt, Bool.false_and])
      have hd : decide ((k : Int) < (vs.length : Int)) = false := by simp; omega
      go_quiet (fail)
      go_wp2_with fail
      go_meet
      exact ⟨by rw [hE.out], _, rfl⟩
  case rest =>
    obtain ⟨rfl, nd, rfl⟩ := hcut
    have hW2 : Hid (Below w.heap.size w (w1.drewN nd)) := below_drewN hW1.out nd
    have b0 : Hid (Box (w1.drewN nd) w.heap.size 27 #[.slice S sl sc, .int .i64 ri, .int .i64 acl, .slice L lims.length lc, .int .i64 rq, .int .i64 se, .int .i64 ra, .int .i64 bu]) := b0'.out
    have b1 : Hid (Box (w1.drewN nd) (w.heap.size + 1) 38 #[.int .i64 id, .int .i64 cl]) := b1'.out
    have hVW2 : Hid (Vehs (w1.drewN nd) w.heap.size A vs) := hVW1.out
    have hLW2 : Hid (Ints (w1.drewN nd) w.heap.size L lims) := hLW1.out
    have z0 : w.heap.size < (w1.drewN nd).heap.size := hz0
    have z1 : w.heap.size + 1 < (w1.drewN nd).heap.size := hz1
    clear k0 k1 a0 a1 a2 a3 a4 a5 a6 a7 hz0 hz1 b0' b1' hVW1 hLW1 hW1
    generalize w1.drewN nd = W2 at hW2 b0 b1 hVW2 hLW2 z0 z1 ⊢
    have k0 := b1.out.cell 0
    have k1 := b1.out.cell 1
    have a0 := b0.out.cell 0
    have a1 := b0.out.cell 1
    have a2 := b0.out.cell 2
    have a3 := b0.out.cell 3
    have a4 := b0.out.cell 4
    have a5 := b0.out.cell 5
    have a6 := b0.out.cell 6
    have a7 := b0.out.cell 7
    simp at k0 k1 a0 a1 a2 a3 a4 a5 a6 a7
    cases hh : hasId vs id
    rotate_left
    · have hE : Hid (regE vs acl lims id cl = 11) := Lib.hid (by unfold regE; rw [if_neg (by rw [hvH.out]; decide), if_neg (fun h => h hidH.out), if_neg (fun h => h hclH.out), if_pos hh])
      clear hh
      go_wp2_with fail
      refine bodyPost_ret (v := .tuple #[.slice none 0 0, .int .i64 11]) (by simp [results, Try.results13, go_sem]) rfl (hnilH.out 11 (by decide) hE.out _ hW2.out)
    have hhH := Lib.hid hh
    clear hh
    have hlen9 : vs.length ≤ 9223372036854775807 := hm
    go_wp2_with fail
    have hVc : Hid (Vehs W2 W2.heap.size A vs) := hVW2.out.more (by omega)
    have hLc : Hid (Ints W2 W2.heap.size (Ag.mk S sl sc ri acl L lc lims rq se ra bu).L (Ag.mk S sl sc ri acl L lc lims rq se ra bu).lims) := hLW2.out.more (by omega)
    go_region_held3 (fun w' => Below W2.heap.size W2 w' ∧ ∀ b o, b < W2.heap.size → w'.cell? ⟨b, o, none⟩ = W2.cell? ⟨b, o, none⟩) (first | exact held_start _ | exact held_step (by assumption) (by assumption))
      (first
        | (go_at_call 14; refine (count_held A cap vs cl W2 _ (by with_reducible assumption) hVc.out hm).mono ?_; rintro e w' ⟨rfl, hb⟩)
        | (go_at_call 27; refine (limit_held (Ag.mk S sl sc ri acl L lc lims rq se ra bu) cl W2 _ (by with_reducible assumption) hLc.out hlm).mono ?_; rintro e w' ⟨rfl, hb⟩))
    have hb23 : Below W2.heap.size W2 w' := And.left ‹Below W2.heap.size W2 w' ∧ _›
    obtain ⟨W3, hW3e⟩ : ∃ x, x = w' := ⟨_, rfl⟩
    rw [← hW3e] at hb23 ⊢
    have hW3 : Hid (Below w.heap.size w W3) := hW2.out.trans (hb23.mono (by omega))
    have b0' : Hid (Box W3 w.heap.size 27 #[.slice S sl sc, .int .i64 ri, .int .i64 acl, .slice L lims.length lc, .int .i64 rq, .int .i64 se, .int .i64 ra, .int .i64 bu]) := b0.out.below hb23 z0
    have b1' : Hid (Box W3 (w.heap.size + 1) 38 #[.int .i64 id, .int .i64 cl]) := b1.out.below hb23 z1
    have z3 : w.heap.size + 1 < W3.heap.size := Nat.lt_of_lt_of_le z1 hb23.size
    clear hW3e hb23 hb k0 k1 a0 a1 a2 a3 a4 a5 a6 a7 hVc hLc b0 b1 hVW2 hLW2 z0 z1 hW2
    have hVW3 : Hid (Vehs W3 w.heap.size A vs) := HA.out.below hW3.out
    have k0 := b1'.out.cell 0
    have k1 := b1'.out.cell 1
    simp at k0 k1
    by_cases hq : limV lims cl ≤ (countTo vs cl vs.length : Int)
    · have hE : Hid (regE vs acl lims id cl = 14) := Lib.hid (by unfold regE; rw [if_neg (by rw [hvH.out]; decide), if_neg (fun h => h hidH.out), if_neg (fun h => h hclH.out), if_neg (by rw [hhH.out]; decide), if_pos hq])
      go_wp2_with fail
      refine bodyPost_ret (v := .tuple #[.slice none 0 0, .int .i64 14]) (by simp [results, Try.results13, go_sem]) rfl (hnilH.out 14 (by decide) hE.out _ hW3.out)
    by_cases h8' : 8 ≤ vs.length
    · have hE : Hid (regE vs acl lims id cl = 10) := Lib.hid (by unfold regE; rw [if_neg (by rw [hvH.out]; decide), if_neg (fun h => h hidH.out), if_neg (fun h => h hclH.out), if_neg (by rw [hhH.out]; decide), if_neg hq, if_pos h8'])
      have h8i : (8 : Int) ≤ (vs.length : Int) := by omega
      go_wp2_with fail
      refine bodyPost_ret (v := .tuple #[.slice none 0 0, .int .i64 10]) (by simp [results, Try.results13, go_sem]) rfl (hnilH.out 10 (by decide) hE.out _ hW3.out)
    have hE : Hid (regE vs acl lims id cl = 0) := Lib.hid (by unfold regE; rw [if_neg (by rw [hvH.out]; decide), if_neg (fun h => h hidH.out), if_neg (fun h => h hclH.out), if_neg (by rw [hhH.out]; decide), if_neg hq, if_neg h8'])
    have hEL : Hid (regL vs acl lims id cl = ins vs k ⟨id, cl⟩) := Lib.hid (by unfold regL; rw [hE.out, if_pos rfl, hkH.out])
    have h8i : ¬ (8 : Int) ≤ (vs.length : Int) := by omega
    have h1le : vs.length ≤ 7 := by omega
    clear h8' h8
    have hmk := fun W => make_vehs1 vs.length (by omega) W
    have hfill := Lib.hid (fill_ins (List.replicate (vs.length + 1) vz) vs k ⟨id, cl⟩ hkle (by simp))
    obtain ⟨Z, hZ⟩ : ∃ Z, Z = List.replicate (vs.length + 1) vz := ⟨_, rfl⟩
    rw [← hZ] at hfill
    simp only [← hZ] at hmk
    have hZl : Hid (Z.length = vs.length + 1) := Lib.hid (by rw [hZ]; simp)
    obtain ⟨X1, hX1⟩ : ∃ X1, X1 = vs.take k := ⟨_, rfl⟩
    obtain ⟨X2, hX2⟩ : ∃ X2, X2 = vs.drop k := ⟨_, rfl⟩
    rw [← hX1, ← hX2] at hfill
    have hX1l : Hid (X1.length = k) := Lib.hid (by rw [hX1]; simp; omega)
    have hX2l : Hid (X2.length = vs.length - k) := Lib.hid (by rw [hX2]; simp)
    have hX1H := Lib.hid hX1
    have hX2H := Lib.hid hX2
    clear hZ hX1 hX2
    have hki : (k : Int) ≤ (vs.length : Int) := by omega
    have hki1 : (k : Int) < (vs.length : Int) + 1 := by omega
    rcases HS.out with ⟨rfl, hv0, rfl⟩ | ⟨b, off, rfl, hlc2⟩
    · have hk0 : k = 0 := by omega
      obtain rfl : k = vs.length := by omega
      have hnil0 : (vs.length : Int) ≤ 0 := by omega
      clear hv0 hk0
      obtain ⟨w4, hrun, hg4, hb4, hz4⟩ := run_copyK (P := Try.prog) (W3.alloc (.cells (vcells Z).toArray 38)) 31 31 3 38 2 (by decide) Try.underlying31 veh_size (some ⟨W3.heap.size, 0, none⟩) none (vs.length + 1) (vs.length + 1) vs.length 0 W3.heap.size 0 (vcells Z) 38 (heap_alloc_new _ _) (vcells X1) (by rw [vcells_length, hX1l.out]; congr 1; exact (Nat.min_eq_left (by omega)).symm) (by intro h; rw [vcells_length, hX1l.out] at h; omega) (by rw [vcells_length, vcells_length, hX1l.out, hZl.out]; omega) (vcells_one _) (w.heap.size + 2) W3 ((Below.refl _ _).alloc (by omega) _) (by omega)
      rw [show Nat.min vs.length (vs.length + 1) = vs.length from Nat.min_eq_left (by omega)] at hrun
      have hsp := splice_vcells Z X1 0
      rw [Nat.zero_mul] at hsp
      rw [hsp] at hg4
      have hR4 : Hid (RowV w4 W3.heap.size (Z.take 0 ++ (X1 ++ Z.drop (0 + X1.length)))) := hg4
      clear hg4 hsp
      have hZ1l : Hid ((Z.take 0 ++ (X1 ++ Z.drop (0 + X1.length))).length = vs.length + 1) := Lib.hid (by simp [hX1l.out, hZl.out] <;> omega)
      generalize (Z.take 0 ++ (X1 ++ Z.drop (0 + X1.length))) = Z1 at hR4 hfill hZ1l
      have hb4H := Lib.hid hb4
      have hz4' : w4.heap.size = W3.heap.size + 1 := by rw [hz4]; simp
      have hg4z : W3.heap.size < w4.heap.size := by omega
      have hv4z : w.heap.size + 1 < w4.heap.size := by omega
      have hz4H := Lib.hid hz4'
      have k0' := (hb4.cell (p := ⟨w.heap.size + 1, 0, none⟩) (by dsimp only; omega)).trans k0
      have k1' := (hb4.cell (p := ⟨w.heap.size + 1, 1, none⟩) (by dsimp only; omega)).trans k1
      obtain ⟨r0, r1⟩ := hR4.out.cells (show vs.length < _ from by rw [hZ1l.out]; omega)
      have rf0 := Box.frozen hR4.out (vs.length * 2)
      have rf1 := Box.frozen hR4.out (vs.length * 2 + 1)
      have hR5 : Hid (RowV ((w4.setCell ⟨W3.heap.size, vs.length * 2, none⟩ (.int .i64 id)).setCell ⟨W3.heap.size, vs.length * 2 + 1, none⟩ (.int .i64 cl)) W3.heap.size (Z1.set vs.length ⟨id, cl⟩)) := hR4.out.put vs.length ⟨id, cl⟩
      have hb5 : Hid (Below (w.heap.size + 2) W3 ((w4.setCell ⟨W3.heap.size, vs.length * 2, none⟩ (.int .i64 id)).setCell ⟨W3.heap.size, vs.length * 2 + 1, none⟩ (.int .i64 cl))) := (hb4H.out.setCell (by dsimp only; omega) _).setCell (by dsimp only; omega) _
      have hz5 : ((w4.setCell ⟨W3.heap.size, vs.length * 2, none⟩ (.int .i64 id)).setCell ⟨W3.heap.size, vs.length * 2 + 1, none⟩ (.int .i64 cl)).heap.size = w4.heap.size := by simp
      clear hb4 hz4 hz4' k0 k1
      go_upto_region 17 with fail
      generalize ((w4.setCell ⟨W3.heap.size, vs.length * 2, none⟩ (.int .i64 id)).setCell ⟨W3.heap.size, vs.length * 2 + 1, none⟩ (.int .i64 cl)) = W5 at hR5 hb5 hz5 ⊢
      have hZ2l : Hid ((Z1.set vs.length ⟨id, cl⟩).length = vs.length + 1) := Lib.hid (by rw [List.length_set]; exact hZ1l.out)
      generalize (Z1.set vs.length ⟨id, cl⟩) = Z2 at hR5 hfill hZ2l
      have hVW5 : Hid (Vehs W5.drew w.heap.size none vs) := hVW3.out.below ((hb5.out.drew).mono (by omega))
      clear r0 r1 rf0 rf1 k0' k1' hR4
      have hz5H := Lib.hid hz5
      clear hz5
      have hwr : IntKind.i64.wrap ((vs.length : Int) + 1) = (vs.length : Int) + 1 := by rw [IntKind.wrap_i64]; omega
      have hwr1 : 0 ≤ (vs.length : Int) + 1 := by omega
      have hwr2 : (vs.length : Int) + 1 ≤ (vs.length : Int) + 1 := by omega
      have hwr3 : ((vs.length : Int) + 1).toNat = vs.length + 1 := by omega
      refine wp_region_still_tail 7 (by kernel_rfl) (by kernel_rfl) ?_
      simp only [List.take_succ_cons, List.take_zero, List.drop_succ_cons, List.drop_zero]
      repeat still_step
      refine wpStill_nil ?_
      change wpList _ _ _ _ _ W5.drew
      obtain ⟨w6, hrun6, hg6, hb6, hz6⟩ := run_copyK (P := Try.prog) W5.drew 31 31 3 38 2 (by decide) Try.underlying31 veh_size (some ⟨W3.heap.size, 0, none⟩) none 0 0 0 0 W3.heap.size ((vs.length + 1) * 2) (vcells Z2) 38 hR5.out (vcells X2) (by rw [vcells_length, hX2l.out]; try simp) (by intro h; rw [vcells_length, hX2l.out] at h; omega) (by rw [vcells_length, vcells_length, hX2l.out, hZ2l.out]; omega) (vcells_one _) (w.heap.size + 2) W3 hb5.out.drew (by omega)
      rw [splice_vcells Z2 X2 (vs.length + 1), hfill.out] at hg6
      have hR6 : Hid (RowV w6 W3.heap.size (ins vs vs.length ⟨id, cl⟩)) := hg6
      clear hg6
      have hg6z := hR6.out.lt
      have hil : Hid ((ins vs vs.length ⟨id, cl⟩).length = vs.length + 1) := Lib.hid (ins_length vs vs.length _ hkle)
      have hb6H : Hid (Below w.heap.size w w6) := hW3.out.trans (hb6.mono (by omega))
      clear hb6 hz6
      go_wp2_with fail
      refine bodyPost_ret (v := .tuple #[.slice (some ⟨W3.heap.size, 0, none⟩) (vs.length + 1) (vs.length + 1), .int .i64 0]) (by simp [results, Try.results13, go_sem]) rfl ?_
      rw [hEL.out, hE.out]
      exact ⟨some ⟨W3.heap.size, 0, none⟩, vs.length + 1, by rw [hil.out], .inr ⟨_, _, rfl, by rw [hil.out]; exact Nat.le_refl _⟩, hR6.out.vehs hg6z, hb6H.out, fun a h => by injection h with h; subst h; dsimp only; omega⟩
    · by_cases hkl : k < vs.length
      · have hkli : (k : Int) < (vs.length : Int) := by omega
        obtain ⟨w4, hrun, hg4, hb4, hz4⟩ := run_copyK (P := Try.prog) (W3.alloc (.cells (vcells Z).toArray 38)) 31 31 3 38 2 (by decide) Try.underlying31 veh_size (some ⟨W3.heap.size, 0, none⟩) (some ⟨b, off, none⟩) (vs.length + 1) (vs.length + 1) k cap W3.heap.size 0 (vcells Z) 38 (heap_alloc_new _ _) (vcells X1) (by rw [vcells_length, hX1l.out]; congr 1; exact (Nat.min_eq_left (by omega)).symm) (by intro _; exact ⟨rfl, _, rfl, by rw [hX1H.out]; exact vehs_take (hVW3.out.below ((Below.refl _ _).alloc (by omega) _)) k⟩) (by rw [vcells_length, vcells_length, hX1l.out, hZl.out]; omega) (vcells_one _) (w.heap.size + 2) W3 ((Below.refl _ _).alloc (by omega) _) (by omega)
        rw [show Nat.min k (vs.length + 1) = k from Nat.min_eq_left (by omega)] at hrun
        have hsp := splice_vcells Z X1 0
        rw [Nat.zero_mul] at hsp
        rw [hsp] at hg4
        have hR4 : Hid (RowV w4 W3.heap.size (Z.take 0 ++ (X1 ++ Z.drop (0 + X1.length)))) := hg4
        clear hg4 hsp
        have hZ1l : Hid ((Z.take 0 ++ (X1 ++ Z.drop (0 + X1.length))).length = vs.length + 1) := Lib.hid (by simp [hX1l.out, hZl.out] <;> omega)
        generalize (Z.take 0 ++ (X1 ++ Z.drop (0 + X1.length))) = Z1 at hR4 hfill hZ1l
        have hb4H := Lib.hid hb4
        have hz4' : w4.heap.size = W3.heap.size + 1 := by rw [hz4]; simp
        have hg4z : W3.heap.size < w4.heap.size := by omega
        have hv4z : w.heap.size + 1 < w4.heap.size := by omega
        have hz4H := Lib.hid hz4'
        have k0' := (hb4.cell (p := ⟨w.heap.size + 1, 0, none⟩) (by dsimp only; omega)).trans k0
        have k1' := (hb4.cell (p := ⟨w.heap.size + 1, 1, none⟩) (by dsimp only; omega)).trans k1
        obtain ⟨r0, r1⟩ := hR4.out.cells (show k < _ from by rw [hZ1l.out]; omega)
        have rf0 := Box.frozen hR4.out (k * 2)
        have rf1 := Box.frozen hR4.out (k * 2 + 1)
        have hR5 : Hid (RowV ((w4.setCell ⟨W3.heap.size, k * 2, none⟩ (.int .i64 id)).setCell ⟨W3.heap.size, k * 2 + 1, none⟩ (.int .i64 cl)) W3.heap.size (Z1.set k ⟨id, cl⟩)) := hR4.out.put k ⟨id, cl⟩
        have hb5 : Hid (Below (w.heap.size + 2) W3 ((w4.setCell ⟨W3.heap.size, k * 2, none⟩ (.int .i64 id)).setCell ⟨W3.heap.size, k * 2 + 1, none⟩ (.int .i64 cl))) := (hb4H.out.setCell (by dsimp only; omega) _).setCell (by dsimp only; omega) _
        have hz5 : ((w4.setCell ⟨W3.heap.size, k * 2, none⟩ (.int .i64 id)).setCell ⟨W3.heap.size, k * 2 + 1, none⟩ (.int .i64 cl)).heap.size = w4.heap.size := by simp
        clear hb4 hz4 hz4' k0 k1
        go_upto_region 17 with fail
        generalize ((w4.setCell ⟨W3.heap.size, k * 2, none⟩ (.int .i64 id)).setCell ⟨W3.heap.size, k * 2 + 1, none⟩ (.int .i64 cl)) = W5 at hR5 hb5 hz5 ⊢
        have hZ2l : Hid ((Z1.set k ⟨id, cl⟩).length = vs.length + 1) := Lib.hid (by rw [List.length_set]; exact hZ1l.out)
        generalize (Z1.set k ⟨id, cl⟩) = Z2 at hR5 hfill hZ2l
        have hVW5 : Hid (Vehs W5.drew w.heap.size (some ⟨b, off, none⟩) vs) := hVW3.out.below ((hb5.out.drew).mono (by omega))
        clear r0 r1 rf0 rf1 k0' k1' hR4
        have hz5H := Lib.hid hz5
        clear hz5
        have hwr : IntKind.i64.wrap ((k : Int) + 1) = (k : Int) + 1 := by rw [IntKind.wrap_i64]; omega
        have hwr1 : 0 ≤ (k : Int) + 1 := by omega
        have hwr2 : (k : Int) + 1 ≤ (vs.length : Int) + 1 := by omega
        have hwr3 : ((k : Int) + 1).toNat = k + 1 := by omega
        have hne : ¬ vs.length = k := by omega
        have hne2 : ¬ cap = k := by omega
        refine wp_region_still_tail 7 (by kernel_rfl) (by kernel_rfl) ?_
        simp only [List.take_succ_cons, List.take_zero, List.drop_succ_cons, List.drop_zero]
        repeat still_step
        refine wpStill_nil ?_
        change wpList _ _ _ _ _ W5.drew
        obtain ⟨w6, hrun6, hg6, hb6, hz6⟩ := run_copyK (P := Try.prog) W5.drew 31 31 3 38 2 (by decide) Try.underlying31 veh_size (some ⟨W3.heap.size, (k + 1) * 2, none⟩) (some ⟨b, off + k * 2, none⟩) (vs.length - k) (vs.length - k) (vs.length - k) (cap - k) W3.heap.size ((k + 1) * 2) (vcells Z2) 38 hR5.out (vcells X2) (by rw [vcells_length, hX2l.out]; try exact congrArg (· * 2) (Nat.min_self _).symm) (by intro _; exact ⟨rfl, _, rfl, by rw [hX2H.out]; exact vehs_drop (hVW5.out) k⟩) (by rw [vcells_length, vcells_length, hX2l.out, hZ2l.out]; omega) (vcells_one _) (w.heap.size + 2) W3 hb5.out.drew (by omega)
        rw [splice_vcells Z2 X2 (k + 1), hfill.out] at hg6
        have hR6 : Hid (RowV w6 W3.heap.size (ins vs k ⟨id, cl⟩)) := hg6
        clear hg6
        have hg6z := hR6.out.lt
        have hil : Hid ((ins vs k ⟨id, cl⟩).length = vs.length + 1) := Lib.hid (ins_length vs k _ hkle)
        have hb6H : Hid (Below w.heap.size w w6) := hW3.out.trans (hb6.mono (by omega))
        clear hb6 hz6
        go_wp2_with fail
        refine bodyPost_ret (v := .tuple #[.slice (some ⟨W3.heap.size, 0, none⟩) (vs.length + 1) (vs.length + 1), .int .i64 0]) (by simp [results, Try.results13, go_sem]) rfl ?_
        rw [hEL.out, hE.out]
        exact ⟨some ⟨W3.heap.size, 0, none⟩, vs.length + 1, by rw [hil.out], .inr ⟨_, _, rfl, by rw [hil.out]; exact Nat.le_refl _⟩, hR6.out.vehs hg6z, hb6H.out, fun a h => by injection h with h; subst h; dsimp only; omega⟩
      · by_cases hlc3 : vs.length < cap
        · obtain rfl : k = vs.length := by omega
          obtain ⟨w4, hrun, hg4, hb4, hz4⟩ := run_copyK (P := Try.prog) (W3.alloc (.cells (vcells Z).toArray 38)) 31 31 3 38 2 (by decide) Try.underlying31 veh_size (some ⟨W3.heap.size, 0, none⟩) (some ⟨b, off, none⟩) (vs.length + 1) (vs.length + 1) vs.length cap W3.heap.size 0 (vcells Z) 38 (heap_alloc_new _ _) (vcells X1) (by rw [vcells_length, hX1l.out]; congr 1; exact (Nat.min_eq_left (by omega)).symm) (by intro _; exact ⟨rfl, _, rfl, by rw [hX1H.out]; exact vehs_take (hVW3.out.below ((Below.refl _ _).alloc (by omega) _)) vs.length⟩) (by rw [vcells_length, vcells_length, hX1l.out, hZl.out]; omega) (vcells_one _) (w.heap.size + 2) W3 ((Below.refl _ _).alloc (by omega) _) (by omega)
          rw [show Nat.min vs.length (vs.length + 1) = vs.length from Nat.min_eq_left (by omega)] at hrun
          have hsp := splice_vcells Z X1 0
          rw [Nat.zero_mul] at hsp
          rw [hsp] at hg4
          have hR4 : Hid (RowV w4 W3.heap.size (Z.take 0 ++ (X1 ++ Z.drop (0 + X1.length)))) := hg4
          clear hg4 hsp
          have hZ1l : Hid ((Z.take 0 ++ (X1 ++ Z.drop (0 + X1.length))).length = vs.length + 1) := Lib.hid (by simp [hX1l.out, hZl.out] <;> omega)
          generalize (Z.take 0 ++ (X1 ++ Z.drop (0 + X1.length))) = Z1 at hR4 hfill hZ1l
          have hb4H := Lib.hid hb4
          have hz4' : w4.heap.size = W3.heap.size + 1 := by rw [hz4]; simp
          have hg4z : W3.heap.size < w4.heap.size := by omega
          have hv4z : w.heap.size + 1 < w4.heap.size := by omega
          have hz4H := Lib.hid hz4'
          have k0' := (hb4.cell (p := ⟨w.heap.size + 1, 0, none⟩) (by dsimp only; omega)).trans k0
          have k1' := (hb4.cell (p := ⟨w.heap.size + 1, 1, none⟩) (by dsimp only; omega)).trans k1
          obtain ⟨r0, r1⟩ := hR4.out.cells (show vs.length < _ from by rw [hZ1l.out]; omega)
          have rf0 := Box.frozen hR4.out (vs.length * 2)
          have rf1 := Box.frozen hR4.out (vs.length * 2 + 1)
          have hR5 : Hid (RowV ((w4.setCell ⟨W3.heap.size, vs.length * 2, none⟩ (.int .i64 id)).setCell ⟨W3.heap.size, vs.length * 2 + 1, none⟩ (.int .i64 cl)) W3.heap.size (Z1.set vs.length ⟨id, cl⟩)) := hR4.out.put vs.length ⟨id, cl⟩
          have hb5 : Hid (Below (w.heap.size + 2) W3 ((w4.setCell ⟨W3.heap.size, vs.length * 2, none⟩ (.int .i64 id)).setCell ⟨W3.heap.size, vs.length * 2 + 1, none⟩ (.int .i64 cl))) := (hb4H.out.setCell (by dsimp only; omega) _).setCell (by dsimp only; omega) _
          have hz5 : ((w4.setCell ⟨W3.heap.size, vs.length * 2, none⟩ (.int .i64 id)).setCell ⟨W3.heap.size, vs.length * 2 + 1, none⟩ (.int .i64 cl)).heap.size = w4.heap.size := by simp
          clear hb4 hz4 hz4' k0 k1
          go_upto_region 17 with fail
          generalize ((w4.setCell ⟨W3.heap.size, vs.length * 2, none⟩ (.int .i64 id)).setCell ⟨W3.heap.size, vs.length * 2 + 1, none⟩ (.int .i64 cl)) = W5 at hR5 hb5 hz5 ⊢
          have hZ2l : Hid ((Z1.set vs.length ⟨id, cl⟩).length = vs.length + 1) := Lib.hid (by rw [List.length_set]; exact hZ1l.out)
          generalize (Z1.set vs.length ⟨id, cl⟩) = Z2 at hR5 hfill hZ2l
          have hVW5 : Hid (Vehs W5.drew w.heap.size (some ⟨b, off, none⟩) vs) := hVW3.out.below ((hb5.out.drew).mono (by omega))
          clear r0 r1 rf0 rf1 k0' k1' hR4
          have hz5H := Lib.hid hz5
          clear hz5
          have hwr : IntKind.i64.wrap ((vs.length : Int) + 1) = (vs.length : Int) + 1 := by rw [IntKind.wrap_i64]; omega
          have hwr1 : 0 ≤ (vs.length : Int) + 1 := by omega
          have hwr2 : (vs.length : Int) + 1 ≤ (vs.length : Int) + 1 := by omega
          have hwr3 : ((vs.length : Int) + 1).toNat = vs.length + 1 := by omega
          have hne2 : ¬ cap = vs.length := by omega
          refine wp_region_still_tail 7 (by kernel_rfl) (by kernel_rfl) ?_
          simp only [List.take_succ_cons, List.take_zero, List.drop_succ_cons, List.drop_zero]
          repeat still_step
          refine wpStill_nil ?_
          change wpList _ _ _ _ _ W5.drew
          obtain ⟨w6, hrun6, hg6, hb6, hz6⟩ := run_copyK (P := Try.prog) W5.drew 31 31 3 38 2 (by decide) Try.underlying31 veh_size (some ⟨W3.heap.size, 0, none⟩) (some ⟨b, off + vs.length * 2, none⟩) 0 0 0 (cap - vs.length) W3.heap.size ((vs.length + 1) * 2) (vcells Z2) 38 hR5.out (vcells X2) (by rw [vcells_length, hX2l.out]; try simp) (by intro h; rw [vcells_length, hX2l.out] at h; omega) (by rw [vcells_length, vcells_length, hX2l.out, hZ2l.out]; omega) (vcells_one _) (w.heap.size + 2) W3 hb5.out.drew (by omega)
          rw [splice_vcells Z2 X2 (vs.length + 1), hfill.out] at hg6
          have hR6 : Hid (RowV w6 W3.heap.size (ins vs vs.length ⟨id, cl⟩)) := hg6
          clear hg6
          have hg6z := hR6.out.lt
          have hil : Hid ((ins vs vs.length ⟨id, cl⟩).length = vs.length + 1) := Lib.hid (ins_length vs vs.length _ hkle)
          have hb6H : Hid (Below w.heap.size w w6) := hW3.out.trans (hb6.mono (by omega))
          clear hb6 hz6
          go_wp2_with fail
          refine bodyPost_ret (v := .tuple #[.slice (some ⟨W3.heap.size, 0, none⟩) (vs.length + 1) (vs.length + 1), .int .i64 0]) (by simp [results, Try.results13, go_sem]) rfl ?_
          rw [hEL.out, hE.out]
          exact ⟨some ⟨W3.heap.size, 0, none⟩, vs.length + 1, by rw [hil.out], .inr ⟨_, _, rfl, by rw [hil.out]; exact Nat.le_refl _⟩, hR6.out.vehs hg6z, hb6H.out, fun a h => by injection h with h; subst h; dsimp only; omega⟩
        · obtain rfl : k = vs.length := by omega
          obtain rfl : cap = vs.length := by omega
          obtain ⟨w4, hrun, hg4, hb4, hz4⟩ := run_copyK (P := Try.prog) (W3.alloc (.cells (vcells Z).toArray 38)) 31 31 3 38 2 (by decide) Try.underlying31 veh_size (some ⟨W3.heap.size, 0, none⟩) (some ⟨b, off, none⟩) (vs.length + 1) (vs.length + 1) vs.length vs.length W3.heap.size 0 (vcells Z) 38 (heap_alloc_new _ _) (vcells X1) (by rw [vcells_length, hX1l.out]; congr 1; exact (Nat.min_eq_left (by omega)).symm) (by intro _; exact ⟨rfl, _, rfl, by rw [hX1H.out]; exact vehs_take (hVW3.out.below ((Below.refl _ _).alloc (by omega) _)) vs.length⟩) (by rw [vcells_length, vcells_length, hX1l.out, hZl.out]; omega) (vcells_one _) (w.heap.size + 2) W3 ((Below.refl _ _).alloc (by omega) _) (by omega)
          rw [show Nat.min vs.length (vs.length + 1) = vs.length from Nat.min_eq_left (by omega)] at hrun
          have hsp := splice_vcells Z X1 0
          rw [Nat.zero_mul] at hsp
          rw [hsp] at hg4
          have hR4 : Hid (RowV w4 W3.heap.size (Z.take 0 ++ (X1 ++ Z.drop (0 + X1.length)))) := hg4
          clear hg4 hsp
          have hZ1l : Hid ((Z.take 0 ++ (X1 ++ Z.drop (0 + X1.length))).length = vs.length + 1) := Lib.hid (by simp [hX1l.out, hZl.out] <;> omega)
          generalize (Z.take 0 ++ (X1 ++ Z.drop (0 + X1.length))) = Z1 at hR4 hfill hZ1l
          have hb4H := Lib.hid hb4
          have hz4' : w4.heap.size = W3.heap.size + 1 := by rw [hz4]; simp
          have hg4z : W3.heap.size < w4.heap.size := by omega
          have hv4z : w.heap.size + 1 < w4.heap.size := by omega
          have hz4H := Lib.hid hz4'
          have k0' := (hb4.cell (p := ⟨w.heap.size + 1, 0, none⟩) (by dsimp only; omega)).trans k0
          have k1' := (hb4.cell (p := ⟨w.heap.size + 1, 1, none⟩) (by dsimp only; omega)).trans k1
          obtain ⟨r0, r1⟩ := hR4.out.cells (show vs.length < _ from by rw [hZ1l.out]; omega)
          have rf0 := Box.frozen hR4.out (vs.length * 2)
          have rf1 := Box.frozen hR4.out (vs.length * 2 + 1)
          have hR5 : Hid (RowV ((w4.setCell ⟨W3.heap.size, vs.length * 2, none⟩ (.int .i64 id)).setCell ⟨W3.heap.size, vs.length * 2 + 1, none⟩ (.int .i64 cl)) W3.heap.size (Z1.set vs.length ⟨id, cl⟩)) := hR4.out.put vs.length ⟨id, cl⟩
          have hb5 : Hid (Below (w.heap.size + 2) W3 ((w4.setCell ⟨W3.heap.size, vs.length * 2, none⟩ (.int .i64 id)).setCell ⟨W3.heap.size, vs.length * 2 + 1, none⟩ (.int .i64 cl))) := (hb4H.out.setCell (by dsimp only; omega) _).setCell (by dsimp only; omega) _
          have hz5 : ((w4.setCell ⟨W3.heap.size, vs.length * 2, none⟩ (.int .i64 id)).setCell ⟨W3.heap.size, vs.length * 2 + 1, none⟩ (.int .i64 cl)).heap.size = w4.heap.size := by simp
          clear hb4 hz4 hz4' k0 k1
          go_upto_region 17 with fail
          generalize ((w4.setCell ⟨W3.heap.size, vs.length * 2, none⟩ (.int .i64 id)).setCell ⟨W3.heap.size, vs.length * 2 + 1, none⟩ (.int .i64 cl)) = W5 at hR5 hb5 hz5 ⊢
          have hZ2l : Hid ((Z1.set vs.length ⟨id, cl⟩).length = vs.length + 1) := Lib.hid (by rw [List.length_set]; exact hZ1l.out)
          generalize (Z1.set vs.length ⟨id, cl⟩) = Z2 at hR5 hfill hZ2l
          have hVW5 : Hid (Vehs W5.drew w.heap.size (some ⟨b, off, none⟩) vs) := hVW3.out.below ((hb5.out.drew).mono (by omega))
          clear r0 r1 rf0 rf1 k0' k1' hR4
          have hz5H := Lib.hid hz5
          clear hz5
          have hwr : IntKind.i64.wrap ((vs.length : Int) + 1) = (vs.length : Int) + 1 := by rw [IntKind.wrap_i64]; omega
          have hwr1 : 0 ≤ (vs.length : Int) + 1 := by omega
          have hwr2 : (vs.length : Int) + 1 ≤ (vs.length : Int) + 1 := by omega
          have hwr3 : ((vs.length : Int) + 1).toNat = vs.length + 1 := by omega
          refine wp_region_still_tail 7 (by kernel_rfl) (by kernel_rfl) ?_
          simp only [List.take_succ_cons, List.take_zero, List.drop_succ_cons, List.drop_zero]
          repeat still_step
          refine wpStill_nil ?_
          change wpList _ _ _ _ _ W5.drew
          obtain ⟨w6, hrun6, hg6, hb6, hz6⟩ := run_copyK (P := Try.prog) W5.drew 31 31 3 38 2 (by decide) Try.underlying31 veh_size (some ⟨W3.heap.size, 0, none⟩) (some ⟨b, off, none⟩) 0 0 0 0 W3.heap.size ((vs.length + 1) * 2) (vcells Z2) 38 hR5.out (vcells X2) (by rw [vcells_length, hX2l.out]; try simp) (by intro h; rw [vcells_length, hX2l.out] at h; omega) (by rw [vcells_length, vcells_length, hX2l.out, hZ2l.out]; omega) (vcells_one _) (w.heap.size + 2) W3 hb5.out.drew (by omega)
          rw [splice_vcells Z2 X2 (vs.length + 1), hfill.out] at hg6
          have hR6 : Hid (RowV w6 W3.heap.size (ins vs vs.length ⟨id, cl⟩)) := hg6
          clear hg6
          have hg6z := hR6.out.lt
          have hil : Hid ((ins vs vs.length ⟨id, cl⟩).length = vs.length + 1) := Lib.hid (ins_length vs vs.length _ hkle)
          have hb6H : Hid (Below w.heap.size w w6) := hW3.out.trans (hb6.mono (by omega))
          clear hb6 hz6
          go_wp2_with fail
          refine bodyPost_ret (v := .tuple #[.slice (some ⟨W3.heap.size, 0, none⟩) (vs.length + 1) (vs.length + 1), .int .i64 0]) (by simp [results, Try.results13, go_sem]) rfl ?_
          rw [hEL.out, hE.out]
          exact ⟨some ⟨W3.heap.size, 0, none⟩, vs.length + 1, by rw [hil.out], .inr ⟨_, _, rfl, by rw [hil.out]; exact Nat.le_refl _⟩, hR6.out.vehs hg6z, hb6H.out, fun a h => by injection h with h; subst h; dsimp only; omega⟩

end Go.Proofs.Ytobeediccmmjhaa
