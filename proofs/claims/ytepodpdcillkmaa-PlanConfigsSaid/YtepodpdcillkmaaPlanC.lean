/- plan.Junction. -/
import Derived.Test.YtepodpdcillkmaaPlanB
namespace Go.Proofs.Ytepodpdcillkmaa
open Go.RowKit
set_option linter.unusedVariables false
set_option linter.unusedSimpArgs false

/-- Does group g occur among the first k? -/
def hasTo (P : List Ph) (k : Nat) (g : Int) : Bool := (List.range k).any fun i => (P.getD i pz).g == g
theorem hasTo_succ (P : List Ph) (k : Nat) (g : Int) : hasTo P (k + 1) g = (hasTo P k g || ((P.getD k pz).g == g)) := by
  simp [hasTo, List.range_succ, List.any_append]
/-- The groups as bits. -/
def gm (a b c d : Bool) : Int := (if a then 1 else 0) + (if b then 2 else 0) + (if c then 4 else 0) + (if d then 8 else 0)
def groupBits (P : List Ph) (k : Nat) : Int := gm (hasTo P k 0) (hasTo P k 1) (hasTo P k 2) (hasTo P k 3)
theorem gm_or (a b c d : Bool) (g : Int) (h0 : 0 ≤ g) (h1 : g ≤ 3) : bits .or .i64 (gm a b c d) (2 ^ g.toNat) = gm (a || (g == 0)) (b || (g == 1)) (c || (g == 2)) (d || (g == 3)) := by
  have : g = 0 ∨ g = 1 ∨ g = 2 ∨ g = 3 := by omega
  rcases this with rfl | rfl | rfl | rfl <;> revert a b c d <;> decide
def full (a b c d : Bool) : Bool := (a || !b) && ((b || !c) && (c || !d))
theorem gm_full (a b c d : Bool) : (bits .and .i64 (gm a b c d) (gm a b c d + 1) == 0) = (full a b c d) := by
  revert a b c d; decide
def contig (P : List Ph) : Bool := full (hasTo P P.length 0) (hasTo P P.length 1) (hasTo P P.length 2) (hasTo P P.length 3)
def allPh (P : List Ph) : Bool := (List.range P.length).all fun i => phOk (P.getD i pz)
def planJ (P : List Ph) (C : List Int) (s : Int) : Bool := decide (1 ≤ P.length ∧ P.length ≤ 8 ∧ C.length = P.length) && (validM C && (wi s 0 60 && (allPh P && (contig P && apart P C))))

theorem planJ_size {P : List Ph} {C : List Int} {s : Int} (h : ¬ (1 ≤ P.length ∧ P.length ≤ 8 ∧ C.length = P.length)) : planJ P C s = false := by unfold planJ; rw [decide_eq_false h]; rfl
theorem planJ_valid {P : List Ph} {C : List Int} {s : Int} (h : validM C = false) : planJ P C s = false := by unfold planJ; rw [h]; simp
theorem planJ_start {P : List Ph} {C : List Int} {s : Int} (h : wi s 0 60 = false) : planJ P C s = false := by unfold planJ; rw [h]; simp
theorem planJ_ph {P : List Ph} {C : List Int} {s : Int} {i : Nat} (hi : i < P.length) (h : phOk (P.getD i pz) = false) : planJ P C s = false := by
  have : allPh P = false := by
    unfold allPh
    rw [List.all_eq_false]
    exact ⟨i, by simpa using hi, by rw [h]; decide⟩
  unfold planJ; rw [this]; simp
theorem planJ_rest {P : List Ph} {C : List Int} {s : Int} (h : 1 ≤ P.length ∧ P.length ≤ 8 ∧ C.length = P.length) (hv : validM C = true) (hs : wi s 0 60 = true) (hp : ∀ i, i < P.length → phOk (P.getD i pz) = true) : planJ P C s = (contig P && apart P C) := by
  have : allPh P = true := by
    unfold allPh
    rw [List.all_eq_true]
    exact fun i hi => hp i (by simpa using hi)
  unfold planJ
  rw [decide_eq_true h, hv, hs, this]; rfl

set_option maxHeartbeats 2000000 in
theorem planJ_any (A A2 : Option Addr) (cap cap2 : Nat) (P : List Ph) (C : List Int) (s : Int) (w : World) (hA : Phs w w.heap.size A P) (hm : P.length ≤ 60) (hA2 : Ints w w.heap.size A2 C) (hn : C.length ≤ 60) :
    Calls Try.prog 31 #[.agg #[.slice A P.length cap, .slice A2 C.length cap2, .int .i64 s]] w fun e w' => e = .returned (.bool (planJ P C s)) ∧ Below w.heap.size w w' := by
  have HA := Lib.hid hA
  have HA2 := Lib.hid hA2
  clear hA hA2
  go_enter Try.func31, Try.ntmps31
  by_cases hsz : 1 ≤ P.length ∧ P.length ≤ 8 ∧ C.length = P.length
  rotate_left
  · have hE : Hid (planJ P C s = false) := Lib.hid (planJ_size hsz)
    by_cases h1 : 1 ≤ P.length
    · by_cases h8 : P.length ≤ 8
      · have hne : ((C.length : Int) != (P.length : Int)) = true := by simp; omega
        clear hsz
        go_wp2_with fail
        go_ret
        exact ⟨by rw [hE.out]; rfl, by go_grown⟩
      · clear hsz
        go_wp2_with fail
        go_ret
        exact ⟨by rw [hE.out]; rfl, by go_grown⟩
    · clear hsz
      go_wp2_with fail
      go_ret
      exact ⟨by rw [hE.out]; rfl, by go_grown⟩
  have hszH := Lib.hid hsz
  obtain ⟨h1, h8, hl⟩ := hsz
  have hne : ((C.length : Int) != (P.length : Int)) = false := by simp [hl]
  clear hl
  have hI1 : Hid (Ints (w.alloc (.cells #[.slice A P.length cap, .slice A2 C.length cap2, .int .i64 s] 26)) w.heap.size A2 C) := HA2.out.below ((Below.refl _ _).alloc (Nat.le_refl _) _)
  have hP1 : Hid (Phs (w.alloc (.cells #[.slice A P.length cap, .slice A2 C.length cap2, .int .i64 s] 26)) w.heap.size A P) := HA.out.below ((Below.refl _ _).alloc (Nat.le_refl _) _)
  go_wp2_with fail
  refine (valid_any _ _ _ _ _ hI1.out hn).mono ?_; rintro e w2 ⟨rfl, kk, rfl⟩
  cases hv : validM C
  · have hE : Hid (planJ P C s = false) := Lib.hid (planJ_valid hv)
    clear hv
    go_wp2_with fail
    go_ret
    exact ⟨by rw [hE.out]; rfl, below_drewN (by go_grown) kk⟩
  have hvH := Lib.hid hv
  clear hv
  go_wp2_with fail
  refine (within_any _ _ _ _).mono ?_; rintro e w' ⟨rfl, rfl⟩
  cases hs : wi s 0 60
  · have hE : Hid (planJ P C s = false) := Lib.hid (planJ_start hs)
    clear hs
    go_wp2_with fail
    go_ret
    exact ⟨by rw [hE.out]; rfl, below_drewN (by go_grown) kk⟩
  have hsH := Lib.hid hs
  clear hs
  go_wp2_with fail
  have hW : Hid (Below w.heap.size w ((w.alloc (.cells #[.slice A P.length cap, .slice A2 C.length cap2, .int .i64 s] 26)).drewN kk)) := below_drewN ((Below.refl _ _).alloc (Nat.le_refl _) _) kk
  have j0 : Box ((w.alloc (.cells #[.slice A P.length cap, .slice A2 C.length cap2, .int .i64 s] 26)).drewN kk) w.heap.size 26 #[.slice A P.length cap, .slice A2 C.length cap2, .int .i64 s] := Box.new w _ _
  have hWz : ((w.alloc (.cells #[.slice A P.length cap, .slice A2 C.length cap2, .int .i64 s] 26)).drewN kk).heap.size = w.heap.size + 1 := World.size_alloc _ _
  generalize ((w.alloc (.cells #[.slice A P.length cap, .slice A2 C.length cap2, .int .i64 s] 26)).drewN kk) = W at hW j0 hWz ⊢
  have j0H := Lib.hid j0
  have hWz1 : w.heap.size + 1 ≤ W.heap.size := by omega
  have hWz2 : W.heap.size ≤ w.heap.size + 1 := by omega
  clear hWz j0 hI1 hP1
  go_loopw [4, 36] (fun v4 v36 wr => ∃ k : Nat, k ≤ P.length ∧ v36 = .int .i64 k ∧ v4 = .int .i64 (groupBits P k) ∧ (∀ i, i < k → phOk (P.getD i pz) = true) ∧ Below (w.heap.size + 1) W wr) (fun _ v36 _ => P.length - (intOf v36).toNat)
  case atStart => exact ⟨0, by omega, rfl, rfl, by simp, Below.refl _ _⟩
  case round =>
    obtain ⟨k, hk, rfl, rfl, hok, hb⟩ := hrel
    have hokH := Lib.hid hok
    clear hok
    by_cases hlt : k < P.length
    · have hkl : (k : Int) < (P.length : Int) := by omega
      obtain ⟨b, off, rfl, hbl, hat⟩ := (HA.out.below (hW.out.trans (hb.mono (by omega)))) k hlt
      have c0 := hat.c0
      have c1 := hat.c1
      have c2 := hat.c2
      have c3 := hat.c3
      have c4 := hat.c4
      have c5 := hat.c5
      have c6 := hat.c6
      have c7 := hat.c7
      clear hat
      generalize hph : P.getD k pz = ph at c0 c1 c2 c3 c4 c5 c6 c7
      have hphH := Lib.hid hph
      have hz := hb.size
      have hbz : b < wr.heap.size := by omega
      have hwz : w.heap.size < wr.heap.size := by omega
      have hbH := Lib.hid hb
      clear hph hb hz
      go_wp2_with fail
      refine (phase_any ph _).mono ?_; rintro e w9 ⟨rfl, hb9⟩
      have hq0 := (Box.new wr 55 #[.int .i64 ph.r, .int .i64 ph.g, .int .i64 ph.mn, .int .i64 ph.mx, .int .i64 ph.ye, .int .i64 ph.re, .int .i64 ph.wa, .int .i64 ph.cl]).below hb9 (by simp)
      have hb9w : Hid (Below wr.heap.size wr w9) := ((Below.refl _ _).alloc (Nat.le_refl _) _).trans (hb9.mono (by simp))
      have d1 := hq0.cell 1
      simp at d1
      have hz9 := hb9w.out.size
      have hz9' : wr.heap.size < w9.heap.size := hq0.lt
      clear hb9 hq0 c0 c1 c2 c3 c4 c5 c6 c7
      cases hp : phOk ph
      · have hE : Hid (planJ P C s = false) := Lib.hid (planJ_ph hlt (by rw [hphH.out]; exact hp))
        clear hp
        go_wp2_with fail
        go_ret
        exact ⟨by rw [hE.out]; rfl, hW.out.trans ((hbH.out.mono (by omega)).trans (hb9w.out.mono (by omega)))⟩
      · have hpH := Lib.hid hp
        have hg : 0 ≤ ph.g ∧ ph.g ≤ 3 := by
          unfold phOk at hp
          simp only [Bool.and_eq_true] at hp
          exact wi_yes hp.2.1
        obtain ⟨g0, g1⟩ := hg
        clear hp
        have hor : bits .or .i64 (groupBits P k) (2 ^ ph.g.toNat) = groupBits P (k + 1) := by
          unfold groupBits
          rw [gm_or _ _ _ _ _ g0 g1, hasTo_succ, hasTo_succ, hasTo_succ, hasTo_succ, hphH.out]
        have hpw : (2 : Int) ^ ph.g.toNat ≤ 256 ∧ (1 : Int) ≤ 2 ^ ph.g.toNat := pow_le_256 _ (by omega)
        go_wp2_with fail
        go_roundw
        case rel =>
          refine ⟨k + 1, by omega, by go_num, rfl, fun i hi => ?_, hbH.out.trans (hb9w.out.mono (by omega))⟩
          by_cases hik : i < k
          · exact hokH.out i hik
          · obtain rfl : i = k := by omega
            rw [hphH.out]; exact hpH.out
        case measure => simp [intOf]; omega
    · have hkl : ¬ (k : Int) < (P.length : Int) := by omega
      obtain rfl : k = P.length := by omega
      have hrest := Lib.hid (planJ_rest hszH.out hvH.out hsH.out hokH.out)
      have hgb : (bits .and .i64 (groupBits P P.length) (groupBits P P.length + 1) == 0) = contig P := gm_full _ _ _ _
      have hgr : 0 ≤ groupBits P P.length ∧ groupBits P P.length ≤ 15 := by
        unfold groupBits gm
        constructor <;> (repeat' split) <;> omega
      obtain ⟨gb0, gb1⟩ := hgr
      have hj := j0H.out.below hb (by omega)
      have k0 := hj.cell 0
      have k1 := hj.cell 1
      have k2 := hj.cell 2
      simp at k0 k1 k2
      have hz := hb.size
      have hzw : w.heap.size < wr.heap.size := by omega
      have hbw : Hid (Below w.heap.size w wr) := hW.out.trans (hb.mono (by omega))
      have hPr : Hid (Phs wr wr.heap.size A P) := (HA.out.below hbw.out).more (by omega)
      have hCr : Hid (Ints wr wr.heap.size A2 C) := (HA2.out.below hbw.out).more (by omega)
      clear hj hb hz
      generalize groupBits P P.length = m at hgb gb0 gb1 ⊢
      cases hct : contig P
      · rw [hct] at hgb hrest
        have hE : Hid (planJ P C s = false) := hrest
        clear hct hrest
        go_wp2_with fail
        go_ret
        exact ⟨by rw [hE.out]; rfl, hbw.out⟩
      · rw [hct] at hgb hrest
        have hE : Hid (planJ P C s = apart P C) := hrest
        clear hct hrest
        go_wp2_with fail
        refine (apart_any _ _ _ _ P C s _ hPr.out (by omega) hCr.out hn).mono ?_; rintro e w9 ⟨rfl, hb9⟩
        go_wp2_with fail
        go_ret
        exact ⟨by rw [hE.out]; rfl, hbw.out.trans (hb9.mono (by omega))⟩

end Go.Proofs.Ytepodpdcillkmaa
