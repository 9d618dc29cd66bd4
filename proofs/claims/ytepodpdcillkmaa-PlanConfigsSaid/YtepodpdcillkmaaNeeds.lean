/- The walk of signalbrokerlaw07.PlanNeeds. -/
import Derived.Test.YtepodpdcillkmaaPlanL
namespace Go.Proofs.Ytepodpdcillkmaa
open Go.RowKit
set_option linter.unusedVariables false
set_option linter.unusedSimpArgs false

/-- What region 6 leaves: two blocks that hold the two phases. -/
def N6 (W : World) (p q : Ph) (v11 v12 : Value) (wx : World) : Prop :=
  ∃ x y : Nat, v11 = .pointer (some ⟨x, 0, none⟩) ∧ v12 = .pointer (some ⟨y, 0, none⟩) ∧ Box wx x 55 p.cells.toArray ∧ Box wx y 55 q.cells.toArray ∧ W.heap.size ≤ x ∧ W.heap.size ≤ y ∧ Below W.heap.size W wx

theorem planJ_at (A A2 : Option Addr) (cap cap2 n m : Nat) (P : List Ph) (C : List Int) (s : Int) (b : Bool) (w : World) (hP : P.length = n) (hC : C.length = m) (hb : planJ P C s = b) (hA : Phs w w.heap.size A P) (hm : n ≤ 60) (hA2 : Ints w w.heap.size A2 C) (hn : m ≤ 60) :
    Calls Try.prog 31 #[.agg #[.slice A n cap, .slice A2 m cap2, .int .i64 s]] w fun e w' => e = .returned (.bool b) ∧ Below w.heap.size w w' := by
  subst hP hC hb
  exact planJ_any A A2 cap cap2 P C s w hA hm hA2 hn

theorem pow_nat (k : Nat) : ((2 : Int) ^ k) = ((2 ^ k : Nat) : Int) := by simp
theorem xor_pow (x k : Nat) (hx : x < 4611686018427387904) (hk : k ≤ 8) : bits .xor .i64 (x : Int) (2 ^ k) = ((x ^^^ 2 ^ k : Nat) : Int) := by
  rw [pow_nat, bits_xor_nat _ _ hx]
  have := Nat.pow_le_pow_right (n := 2) (by omega) hk
  omega

/-- Block g holds the ints l at its start. -/
def RowI (w : World) (g : Nat) (l : List Int) : Prop := ∃ cur : Array Value, Box w g 3 cur ∧ ∀ j, j < l.length → cur[j]? = some (.int .i64 (l.getD j 0))
theorem RowI.lt {w : World} {g : Nat} {l : List Int} (h : RowI w g l) : g < w.heap.size := by obtain ⟨_, hb, _⟩ := h; exact hb.lt
theorem RowI.cell {w : World} {g : Nat} {l : List Int} (h : RowI w g l) {j : Nat} (hj : j < l.length) : w.cell? ⟨g, j, none⟩ = some (.int .i64 (l.getD j 0)) := by
  obtain ⟨cur, hb, hc⟩ := h
  exact (hb.cell j).trans (hc j hj)
theorem RowI.frozen {w : World} {g : Nat} {l : List Int} (h : RowI w g l) (j : Nat) : w.frozen? ⟨g, j, none⟩ = false := by
  obtain ⟨cur, hb, hc⟩ := h
  exact hb.frozen j
theorem RowI.far {w : World} {g : Nat} {l : List Int} (h : RowI w g l) {p : Addr} (hp : g ≠ p.block) (u : Value) : RowI (w.setCell p u) g l := by
  obtain ⟨cur, hb, hc⟩ := h
  exact ⟨cur, hb.far hp u, hc⟩
theorem RowI.below {w w' : World} {B g : Nat} {l : List Int} (h : RowI w g l) (hb : Below B w w') (hg : g < B) : RowI w' g l := by
  obtain ⟨cur, h1, hc⟩ := h
  exact ⟨cur, h1.below hb hg, hc⟩
theorem RowI.put {w : World} {g : Nat} {l : List Int} (h : RowI w g l) (k : Nat) (x : Int) : RowI (w.setCell ⟨g, k, none⟩ (.int .i64 x)) g (l.set k x) := by
  obtain ⟨cur, hb, hc⟩ := h
  refine ⟨_, hb.put k _, fun j hj => ?_⟩
  rw [List.length_set] at hj
  have e := hc j hj
  rw [Array.getElem?_setIfInBounds]
  have hs : j < cur.size := by
    apply Classical.byContradiction
    intro hge
    rw [Array.getElem?_eq_none (by omega)] at e
    cases e
  by_cases hkj : k = j
  · subst hkj
    rw [if_pos rfl, if_pos hs]
    simp [List.getD, hj]
  · rw [if_neg hkj, e]
    simp [List.getD, hkj, List.getElem?_set]
theorem RowI.ints {w : World} {g : Nat} {l : List Int} (h : RowI w g l) {B : Nat} (hB : g < B) : Ints w B (some ⟨g, 0, none⟩) l := fun i hi => by
  refine ⟨g, 0, rfl, hB, ?_⟩
  rw [Nat.zero_add]; exact h.cell hi
theorem rowI_of_own {w : World} {base g cap n : Nat} {l : List Int} (h : w.ownsRow base 3 1 (.slice (some ⟨g, 0, none⟩) n cap) n (l.map (Value.int .i64))) (hl : l.length = n) : RowI w g l := by
  have e := fun j => h.cellAt j
  obtain ⟨_, h2⟩ := h
  rcases h2 with ⟨hv, _⟩ | ⟨g', cap', cur, hv, hg, hh, hcap, _, hcs, _⟩
  · cases hv
  · injection hv with hv _ hv2
    injection hv with hv
    injection hv with hv
    subst hv hv2
    have hb : Box w g 3 cur := hh
    refine ⟨cur, hb, fun j hj => ?_⟩
    have e1 := (hb.cell j).symm.trans (e j (by omega))
    rw [e1]
    simp [List.getD, hj]
theorem ints_setN (M : List Nat) (k x : Nat) : (ints M).set k (x : Int) = ints (M.set k x) := by simp [ints, List.map_set]
theorem flip_row (M : List Nat) (i k : Nat) (hne : i ≠ k) : ((ints M).set i ((M.getD i 0 ^^^ 2 ^ k : Nat) : Int)).set k ((M.getD k 0 ^^^ 2 ^ i : Nat) : Int) = ints (flipT M i k) := by
  rw [ints_setN, ints_setN]; rfl

theorem table_bd (P : List Ph) (ex : Bool) (i : Nat) (h8 : P.length ≤ 8) : (tableOf P ex).getD i 0 < 4611686018427387904 := by
  by_cases hi : i < (tableOf P ex).length
  · have := (tableOf_sym P ex).lt i hi
    have h2 : 2 ^ (tableOf P ex).length ≤ 2 ^ 8 := Nat.pow_le_pow_right (by omega) (by rw [tableOf_length]; exact h8)
    omega
  · rw [List.getD, List.getElem?_eq_none (by omega)]; simp

theorem planJ_held (A A2 : Option Addr) (cap cap2 n m : Nat) (P : List Ph) (C : List Int) (s : Int) (b : Bool) (W w : World) (h : Below W.heap.size W w ∧ ∀ b o, b < W.heap.size → w.cell? ⟨b, o, none⟩ = W.cell? ⟨b, o, none⟩) (hP : P.length = n) (hC : C.length = m) (hb : planJ P C s = b) (hA : Phs W W.heap.size A P) (hm : n ≤ 60) (hA2 : Ints W W.heap.size A2 C) (hn : m ≤ 60) :
    Calls Try.prog 31 #[.agg #[.slice A n cap, .slice A2 m cap2, .int .i64 s]] w fun e w' => e = .returned (.bool b) ∧ Below w.heap.size w w' :=
  planJ_at A A2 cap cap2 n m P C s b w hP hC hb ((hA.below h.1).more h.1.size) hm ((hA2.below h.1).more h.1.size) hn

set_option maxRecDepth 100000 in
set_option maxHeartbeats 2000000 in
theorem needs_walk (A : Option Addr) (len cap : Nat) (zs : List Int) (a b : Int) (w : World) (hA : IsRow w A len cap zs) (_ : (Lit.int .i64 a).wf = true) (_ : (Lit.int .i64 b).wf = true) :
    Calls Try.prog 9 #[.slice A len cap, .int .i64 a, .int .i64 b] w fun e w' => e = .returned (.bool true) ∧ Below w.heap.size w w' := by
  obtain ⟨xs, rfl, hI, hm⟩ := hA.opened
  have HI := Lib.hid hI
  clear hI hA
  go_enter Try.func9, Try.ntmps9
  go_wp2_with fail
  refine (mknew_any A cap xs w HI.out hm).mono ?_; rintro e w1 ⟨rfl, hd, hb1, hz⟩
  have hdH : Hid (HasDeck w1 w.heap.size) := ⟨_, hd⟩
  have hb1H := Lib.hid hb1
  clear hd hb1
  go_wp2_with fail
  refine (junc_any w.heap.size w1 hdH.out).mono ?_; rintro e w2 ⟨gp, gc, capp, capc, n, P, ex, st, rfl, hPs, hn6, hPok, st0, st2, hPh, hC, hd2, hg2⟩
  have hbel := Lib.hid (after_rows hb1H.out hg2)
  have hbelz := (after_rows hb1H.out hg2).size
  have hmade := Lib.hid (made_of hPs hn6 hPok st0 st2)
  have hP1 := hmade.out.n1
  have hP8 := hmade.out.n8
  have hCH := Lib.hid hC
  have hPhH := Lib.hid hPh
  have hCl : Hid ((ints (tableOf P ex)).length = P.length) := Lib.hid (by rw [ints_length, tableOf_length])
  clear hPs hPok hPh hC hd2 hg2 hz hn6 st0 st2
  go_wp2_with fail
  have hbelJ : Hid (Below w.heap.size w (w2.alloc (.cells #[.slice (some ⟨gp, 0, none⟩) P.length capp, .slice (some ⟨gc, 0, none⟩) P.length capc, .int .i64 st] 26))) := hbel.out.alloc hbelz _
  have hJ : Hid (Box (w2.alloc (.cells #[.slice (some ⟨gp, 0, none⟩) P.length capp, .slice (some ⟨gc, 0, none⟩) P.length capc, .int .i64 st] 26)) w2.heap.size 26 #[.slice (some ⟨gp, 0, none⟩) P.length capp, .slice (some ⟨gc, 0, none⟩) P.length capc, .int .i64 st]) := Box.new _ _ _
  have hCJ : Hid (Ints (w2.alloc (.cells #[.slice (some ⟨gp, 0, none⟩) P.length capp, .slice (some ⟨gc, 0, none⟩) P.length capc, .int .i64 st] 26)) w2.heap.size (some ⟨gc, 0, none⟩) (ints (tableOf P ex))) := hCH.out.below ((Below.refl _ _).alloc (Nat.le_refl _) _)
  have hPJ : Hid (Phs (w2.alloc (.cells #[.slice (some ⟨gp, 0, none⟩) P.length capp, .slice (some ⟨gc, 0, none⟩) P.length capc, .int .i64 st] 26)) w2.heap.size (some ⟨gp, 0, none⟩) P) := hPhH.out.below ((Below.refl _ _).alloc (Nat.le_refl _) _)
  have hWz : (w2.alloc (.cells #[.slice (some ⟨gp, 0, none⟩) P.length capp, .slice (some ⟨gc, 0, none⟩) P.length capc, .int .i64 st] 26)).heap.size = w2.heap.size + 1 := World.size_alloc _ _
  generalize w2.alloc (.cells #[.slice (some ⟨gp, 0, none⟩) P.length capp, .slice (some ⟨gc, 0, none⟩) P.length capc, .int .i64 st] 26) = W at hbelJ hJ hCJ hPJ hWz ⊢
  have hWz' : w2.heap.size + 1 ≤ W.heap.size := by omega
  have hWz2 : W.heap.size ≤ w2.heap.size + 1 := by omega
  clear hWz hCH hPhH
  obtain ⟨i, hi⟩ : ∃ k : Nat, a % (P.length : Int) = (k : Int) := ⟨(a % (P.length : Int)).toNat, (Int.toNat_of_nonneg (Int.emod_nonneg _ (by omega))).symm⟩
  obtain ⟨k, hk⟩ : ∃ k : Nat, b % (P.length : Int) = (k : Int) := ⟨(b % (P.length : Int)).toNat, (Int.toNat_of_nonneg (Int.emod_nonneg _ (by omega))).symm⟩
  have hil : i < P.length := by
    have := Int.emod_lt_of_pos a (b := (P.length : Int)) (by omega)
    omega
  have hkl : k < P.length := by
    have := Int.emod_lt_of_pos b (b := (P.length : Int)) (by omega)
    omega
  have hiH := Lib.hid hi
  have hkH := Lib.hid hk
  clear hi hk
  refine (mod_any _ _ _ (by omega) (by omega)).mono ?_; rintro e w' ⟨rfl, rfl⟩
  rw [hiH.out]
  go_wp2_with fail
  refine (mod_any _ _ _ (by omega) (by omega)).mono ?_; rintro e w' ⟨rfl, rfl⟩
  rw [hkH.out]
  have j0 := hJ.out.cell 0
  have j1 := hJ.out.cell 1
  have j2 := hJ.out.cell 2
  have jf1 := hJ.out.frozen 1
  simp at j0 j1 j2
  by_cases hik : i = k
  · have t0 : ((i : Int) == (k : Int)) = true := by simp [hik]
    clear hik
    go_wp2_with fail
    refine (planJ_at _ _ _ _ _ _ P (ints (tableOf P ex)) st true _ rfl hCl.out (hmade.out.valid ex) (hPJ.out.more (by omega)) (by omega) (hCJ.out.more (by omega)) (by omega)).mono ?_; rintro e w3 ⟨rfl, hb3⟩
    have hb3H := Lib.hid (hbelJ.out.trans (hb3.mono (by omega)))
    have hb3z := hb3.size
    clear hb3
    go_wp2_with fail
    refine (awake7_any _).mono ?_; rintro e w4 ⟨rfl, hb4⟩
    go_wp2_with fail
    go_ret
    exact ⟨rfl, hb3H.out.trans (hb4.mono (by omega))⟩
  · have t0 : ((i : Int) == (k : Int)) = false := by simp; omega
    have hflip := Lib.hid (hmade.out.flip ex hik hil hkl)
    have hikH := Lib.hid hik
    clear hik
    have hili : (i : Int) < (P.length : Int) := by omega
    have hkli : (k : Int) < (P.length : Int) := by omega
    have hpi := phs_at hPJ.out hil
    have hpk := phs_at hPJ.out hkl
    generalize hph : P.getD i pz = ph at hpi
    generalize hqh : P.getD k pz = qh at hpk
    have hphH := Lib.hid hph
    have hqhH := Lib.hid hqh
    obtain ⟨c0, c1, c2, c3, c4, c5, c6, c7⟩ := hpi
    obtain ⟨d0, d1, d2, d3, d4, d5, d6, d7⟩ := hpk
    have hgpz : gp < W.heap.size := World.block_lt_of_cell? _ _ c0
    have hJz : w2.heap.size < W.heap.size := by omega
    clear hph hqh
    go_upto_region 6 with fail
    go_cut [11, 12] (fun s11 s12 wx => N6 W ph qh s11 s12 wx)
    case first =>
      go_region
      all_goals
        go_wp2_with fail
        go_meet
      · exact ⟨_, _, rfl, rfl, ((Box.new W _ _).alloc _).drew, (boxNew2 W _ _ _).drew, by omega, by omega, (((Below.refl _ _).alloc (by omega) _).alloc (by simp) _).drew⟩
      · exact ⟨_, _, rfl, rfl, (boxNew2 W _ _ _).drew, ((Box.new W _ _).alloc _).drew, by omega, by omega, (((Below.refl _ _).alloc (by omega) _).alloc (by simp) _).drew⟩
    case rest =>
      obtain ⟨x, y, rfl, rfl, hbx, hby, hx, hy, hbW⟩ := hcut
      have hbWH := Lib.hid hbW
      have hbxH := Lib.hid hbx
      have hbyH := Lib.hid hby
      have hJcH : Hid (Box wc w2.heap.size 26 #[.slice (some ⟨gp, 0, none⟩) P.length capp, .slice (some ⟨gc, 0, none⟩) P.length capc, .int .i64 st]) := hJ.out.below hbW hJz
      have hxz := hbx.lt
      have hyz := hby.lt
      have k1 := hJcH.out.cell 1
      simp at k1
      have hCc : Hid (Ints wc w2.heap.size (some ⟨gc, 0, none⟩) (ints (tableOf P ex))) := hCJ.out.below (hbW.mono (by omega))
      have hwcz := hbW.size
      have hJz2 : w2.heap.size < wc.heap.size := by omega
      clear hbW hbx hby c0 c1 c2 c3 c4 c5 c6 c7 d0 d1 d2 d3 d4 d5 d6 d7 j0 j1 j2 jf1 hgpz
      obtain ⟨i0, hi0, hz0, hz10, hz20⟩ := info_parts int_info
      go_wp2_with (at_builtin; refine wpList_append_own _ rfl (.const nilS) (.tmp 44) 22 rfl wc.heap.size 3 i0 (.int .i64 0) 1 8 Try.underlying22 hi0 hz0 hz10 hz20 rfl (by decide) _ _ _ rfl (World.ownsRow_nil _ _ _ _) ⟨gc, 0, none⟩ P.length capc ((ints (tableOf P ex)).map (Value.int .i64)) rfl ?c1 ?c2 ?c3 ?c4 ?c5 ?c6 ?_)
      case c1 => rw [List.length_map, hCl.out]; omega
      case c2 =>
        intro j u hu
        obtain ⟨hj, hu2⟩ := List.getElem?_eq_some_iff.1 hu
        rw [List.length_map] at hj
        obtain ⟨b', off', e', _, hc'⟩ := hCc.out j hj
        injection e' with e'
        injection e' with e1 e2
        subst e1 e2
        rw [Addr.add_lit, hc', ← hu2]
        simp [List.getD, hj]
      case c3 => intro u hu; obtain ⟨z, _, rfl⟩ := List.mem_map.1 hu; rfl
      case c4 => unfold maxLen; omega
      case c5 => omega
      case c6 => exact Nat.le_refl _
      intro v5 w5 hown5 hg5 _
      obtain ⟨gb, capb, hv5⟩ := Joins.ownsRow_form hown5 (by omega)
      subst hv5
      obtain ⟨hgb, hgb5⟩ := hown5.lt gb rfl
      have hb5 : Below wc.heap.size wc w5 := ⟨hg5.os, hg5.tape, hg5.output, hg5.size, fun q hq => hg5.block q hq (by simp [Value.ownBlock])⟩
      have hJ5 : Box w5 w2.heap.size 26 #[.slice (some ⟨gp, 0, none⟩) P.length capp, .slice (some ⟨gc, 0, none⟩) P.length capc, .int .i64 st] := hJcH.out.below hb5 hJz2
      have l1 := hJ5.cell 1
      simp at l1
      have lf1 := hJ5.frozen 1
      have hJ5H := Lib.hid hJ5
      have hz5 := hb5.size
      have hb5H := Lib.hid hb5
      have hown5H := Lib.hid hown5
      clear hJ5 hb5 hown5 hg5 k1
      have hR5 : RowI w5 gb (ints (tableOf P ex)) := rowI_of_own hown5H.out hCl.out
      have hb5z : wc.heap.size ≤ w5.heap.size := hz5
      have hR6 : Hid (RowI (w5.setCell ⟨w2.heap.size, 1, none⟩ (.slice (some ⟨gb, 0, none⟩) P.length capb)) gb (ints (tableOf P ex))) := hR5.far (by dsimp only; omega) _
      have hJ6 : Hid (Box (w5.setCell ⟨w2.heap.size, 1, none⟩ (.slice (some ⟨gb, 0, none⟩) P.length capb)) w2.heap.size 26 #[.slice (some ⟨gp, 0, none⟩) P.length capp, .slice (some ⟨gb, 0, none⟩) P.length capb, .int .i64 st]) := Box.put_eq hJ5H.out (by simp)
      have hbelC : Hid (Below w2.heap.size W wc) := hbWH.out.mono (by omega)
      have hbel6 : Hid (Below w2.heap.size W (w5.setCell ⟨w2.heap.size, 1, none⟩ (.slice (some ⟨gb, 0, none⟩) P.length capb))) := (hbelC.out.trans (hb5H.out.mono (by omega))).setCell (by dsimp only; omega) _
      have hx6 : Hid (Box (w5.setCell ⟨w2.heap.size, 1, none⟩ (.slice (some ⟨gb, 0, none⟩) P.length capb)) x 55 ph.cells.toArray) := (hbxH.out.below hb5H.out hxz).far (by dsimp only; omega) _
      have hy6 : Hid (Box (w5.setCell ⟨w2.heap.size, 1, none⟩ (.slice (some ⟨gb, 0, none⟩) P.length capb)) y 55 qh.cells.toArray) := (hbyH.out.below hb5H.out hyz).far (by dsimp only; omega) _
      have hz6 : (w5.setCell ⟨w2.heap.size, 1, none⟩ (.slice (some ⟨gb, 0, none⟩) P.length capb)).heap.size = w5.heap.size := by simp
      clear hR5
      go_upto_region 8 with fail
      generalize w5.setCell ⟨w2.heap.size, 1, none⟩ (.slice (some ⟨gb, 0, none⟩) P.length capb) = W6 at hR6 hJ6 hbel6 hx6 hy6 hz6 ⊢
      have hJz6 : w2.heap.size < W6.heap.size := by omega
      have hgb6 : gb < W6.heap.size := by omega
      have hgbx : gb ≠ x := by omega
      have hgby : gb ≠ y := by omega
      have hgbj : gb ≠ w2.heap.size := by omega
      have hgw2 : w2.heap.size ≤ gb := by omega
      have hfar6 := Lib.hid hz6
      clear l1 lf1 hz6
      have m1 := hJ6.out.cell 1
      simp at m1
      have mi := hR6.out.cell (j := i) (by rw [hCl.out]; exact hil)
      have fi := hR6.out.frozen i
      rw [ints_getD] at mi
      have bi : (tableOf P ex).getD i 0 < 4611686018427387904 := table_bd P ex i hmade.out.n8
      have bk : (tableOf P ex).getD k 0 < 4611686018427387904 := table_bd P ex k hmade.out.n8
      have hxi := xor_pow _ k bi (by omega)
      have hxk := xor_pow _ i bk (by omega)
      have hfl := Lib.hid (flip_row (tableOf P ex) i k hikH.out)
      generalize hti : (tableOf P ex).getD i 0 = ti at mi hxi bi hfl
      generalize htk : (tableOf P ex).getD k 0 = tk at hxk bk hfl
      have htkH := Lib.hid htk
      clear hti htk
      obtain ⟨hpk0, hpk1⟩ : (2 : Int) ^ k ≤ 256 ∧ (1 : Int) ≤ 2 ^ k := pow_le_256 _ (by omega)
      obtain ⟨hpi0, hpi1⟩ : (2 : Int) ^ i ≤ 256 ∧ (1 : Int) ≤ 2 ^ i := pow_le_256 _ (by omega)
      generalize hA1 : (ti ^^^ 2 ^ k : Nat) = u1 at hxi hfl
      generalize hA2 : (tk ^^^ 2 ^ i : Nat) = u2 at hxk hfl
      clear hA1 hA2
      have hR7 : Hid (RowI (W6.setCell ⟨gb, i, none⟩ (.int .i64 (u1 : Int))) gb ((ints (tableOf P ex)).set i (u1 : Int))) := hR6.out.put i _
      have hJ7 : Hid (Box (W6.setCell ⟨gb, i, none⟩ (.int .i64 (u1 : Int))) w2.heap.size 26 #[.slice (some ⟨gp, 0, none⟩) P.length capp, .slice (some ⟨gb, 0, none⟩) P.length capb, .int .i64 st]) := hJ6.out.far (Ne.symm hgbj) _
      have hx7 : Hid (Box (W6.setCell ⟨gb, i, none⟩ (.int .i64 (u1 : Int))) x 55 ph.cells.toArray) := hx6.out.far (Ne.symm hgbx) _
      have hy7 : Hid (Box (W6.setCell ⟨gb, i, none⟩ (.int .i64 (u1 : Int))) y 55 qh.cells.toArray) := hy6.out.far (Ne.symm hgby) _
      have hbel7 : Hid (Below w2.heap.size W (W6.setCell ⟨gb, i, none⟩ (.int .i64 (u1 : Int)))) := hbel6.out.setCell hgw2 _
      have hz7 : (W6.setCell ⟨gb, i, none⟩ (.int .i64 (u1 : Int))).heap.size = W6.heap.size := by simp
      go_upto_region 9 with fail
      generalize W6.setCell ⟨gb, i, none⟩ (.int .i64 (u1 : Int)) = W7 at hR7 hJ7 hbel7 hx7 hy7 hz7 ⊢
      have hJz7 : w2.heap.size < W7.heap.size := by omega
      have hgb7 : gb < W7.heap.size := by omega
      have hz7H := Lib.hid hz7
      have n1 := hJ7.out.cell 1
      simp at n1
      have nk := hR7.out.cell (j := k) (by rw [List.length_set, hCl.out]; exact hkl)
      have fk := hR7.out.frozen k
      have hgk : ((ints (tableOf P ex)).set i (u1 : Int)).getD k 0 = (tk : Int) := by
        rw [← htkH.out, ← ints_getD]
        simp only [List.getD, List.getElem?_set, if_neg hikH.out]
      rw [hgk] at nk
      have hR8 : Hid (RowI (W7.setCell ⟨gb, k, none⟩ (.int .i64 (u2 : Int))) gb (((ints (tableOf P ex)).set i (u1 : Int)).set k (u2 : Int))) := hR7.out.put k _
      rw [hfl.out] at hR8
      have hJ8 : Hid (Box (W7.setCell ⟨gb, k, none⟩ (.int .i64 (u2 : Int))) w2.heap.size 26 #[.slice (some ⟨gp, 0, none⟩) P.length capp, .slice (some ⟨gb, 0, none⟩) P.length capb, .int .i64 st]) := hJ7.out.far (Ne.symm hgbj) _
      have hx8 : Hid (Box (W7.setCell ⟨gb, k, none⟩ (.int .i64 (u2 : Int))) x 55 ph.cells.toArray) := hx7.out.far (Ne.symm hgbx) _
      have hy8 : Hid (Box (W7.setCell ⟨gb, k, none⟩ (.int .i64 (u2 : Int))) y 55 qh.cells.toArray) := hy7.out.far (Ne.symm hgby) _
      have hbel8 : Hid (Below w2.heap.size W (W7.setCell ⟨gb, k, none⟩ (.int .i64 (u2 : Int)))) := hbel7.out.setCell hgw2 _
      have hz8 : (W7.setCell ⟨gb, k, none⟩ (.int .i64 (u2 : Int))).heap.size = W7.heap.size := by simp
      clear m1 mi fi hxi hgk hz7
      go_upto_region 10 with fail
      generalize W7.setCell ⟨gb, k, none⟩ (.int .i64 (u2 : Int)) = W8 at hR8 hJ8 hbel8 hx8 hy8 hz8 ⊢
      have hJz8 : w2.heap.size < W8.heap.size := by omega
      have hgb8 : gb < W8.heap.size := by omega
      have hx8z := hx8.out.lt
      have hy8z := hy8.out.lt
      have hI8 : Hid (Ints W8 W8.heap.size (some ⟨gb, 0, none⟩) (ints (flipT (tableOf P ex) i k))) := hR8.out.ints hgb8
      have hP8' : Hid (Phs W8 W8.heap.size (some ⟨gp, 0, none⟩) P) := (hPJ.out.below hbel8.out).more (by omega)
      have hFl : Hid ((ints (flipT (tableOf P ex) i k)).length = P.length) := Lib.hid (by rw [ints_length, flipT_length, tableOf_length])
      have hall : Hid (Below w.heap.size w W8) := hbelJ.out.trans (hbel8.out.mono (by omega))
      have hwz8 : w.heap.size ≤ W8.heap.size := by omega
      have o0 := hJ8.out.cell 0
      have o1 := hJ8.out.cell 1
      have o2 := hJ8.out.cell 2
      have x0 := hx8.out.cell 0
      have x1 := hx8.out.cell 1
      have y0 := hy8.out.cell 0
      have y1 := hy8.out.cell 1
      simp at o0 o1 o2 x0 x1 y0 y1
      have hne : P.getD i pz = ph := hphH.out
      have hne2 : P.getD k pz = qh := hqhH.out
      have hneed : Hid (need P i k = ((ph.r == qh.r) || !(ph.g == qh.g))) := Lib.hid (by unfold need; rw [hne, hne2]; simp [hikH.out])
      clear hne hne2 n1 nk fk hxk hz8 hpi0 hpi1 hpk0 hpk1 bi bk hwcz hz5 hb5z hgb hgb5 hgbx hgby hgbj hgw2 hJz6 hgb6 hJz7 hgb7 hJz2 hxz hyz
      generalize ph.r = pr at x0 hneed
      generalize ph.g = pg at x1 hneed
      generalize qh.r = qr at y0 hneed
      generalize qh.g = qg at y1 hneed
      by_cases hr : pr = qr
      · have br : (pr != qr) = false := by simp [hr]
        have hv : Hid (planJ P (ints (flipT (tableOf P ex) i k)) st = false) := Lib.hid (by rw [hflip.out, hneed.out]; simp [hr])
        clear hr
        refine wp_region_held_drew (S := fun w' => Below W8.heap.size W8 w' ∧ ∀ b o, b < W8.heap.size → w'.cell? ⟨b, o, none⟩ = W8.cell? ⟨b, o, none⟩) (by kernel_rfl) ?_ (fun hHeld => ?_)
        · exact held_start _
        refine wpAnyH_take (i := 0) (oi := { dst := some 67, op := Op.load 26 (Operand.tmp 7), type := 26, pos := _, after := #[], guard := none }) (v := ?_) rfl (by kernel_rfl) (by kernel_rfl) (by kernel_rfl) (fun _ _ _ h => h) (Or.inl ⟨by rfl, ?_⟩) (by assumption) ?_
        rotate_left
        · intro w hSw; (try dsimp only at hSw); go_simp; (try with_reducible rfl)
        (try simp only [Act.put, List.setIfInBounds_toArray, List.set_cons_zero, List.set_cons_succ])
        refine wpAnyH_take (i := 2) (oi := { dst := some 69, op := Op.fieldAddr 55 (Operand.tmp 11) 0, type := 0, pos := _, after := #[], guard := none }) (v := ?_) rfl (by kernel_rfl) (by kernel_rfl) (by kernel_rfl) (fun _ _ _ h => h) (Or.inl ⟨by rfl, ?_⟩) (by assumption) ?_
        rotate_left
        · intro w hSw; (try dsimp only at hSw); go_simp; (try with_reducible rfl)
        (try simp only [Act.put, List.setIfInBounds_toArray, List.set_cons_zero, List.set_cons_succ])
        refine wpAnyH_take (i := 3) (oi := { dst := some 70, op := Op.load 3 (Operand.tmp 69), type := 3, pos := _, after := #[{ on := 2, ground := Ground.data }], guard := none }) (v := ?_) rfl (by kernel_rfl) (by kernel_rfl) (by kernel_rfl) (fun _ _ _ h => h) (Or.inl ⟨by rfl, ?_⟩) (by assumption) ?_
        rotate_left
        · intro w hSw; (try dsimp only at hSw); go_simp; (try with_reducible rfl)
        (try simp only [Act.put, List.setIfInBounds_toArray, List.set_cons_zero, List.set_cons_succ])
        refine wpAnyH_take (i := 4) (oi := { dst := some 71, op := Op.fieldAddr 55 (Operand.tmp 12) 0, type := 0, pos := _, after := #[], guard := none }) (v := ?_) rfl (by kernel_rfl) (by kernel_rfl) (by kernel_rfl) (fun _ _ _ h => h) (Or.inl ⟨by rfl, ?_⟩) (by assumption) ?_
        rotate_left
        · intro w hSw; (try dsimp only at hSw); go_simp; (try with_reducible rfl)
        (try simp only [Act.put, List.setIfInBounds_toArray, List.set_cons_zero, List.set_cons_succ])
        refine wpAnyH_take (i := 5) (oi := { dst := some 72, op := Op.load 3 (Operand.tmp 71), type := 3, pos := _, after := #[{ on := 4, ground := Ground.data }], guard := none }) (v := ?_) rfl (by kernel_rfl) (by kernel_rfl) (by kernel_rfl) (fun _ _ _ h => h) (Or.inl ⟨by rfl, ?_⟩) (by assumption) ?_
        rotate_left
        · intro w hSw; (try dsimp only at hSw); go_simp; (try with_reducible rfl)
        (try simp only [Act.put, List.setIfInBounds_toArray, List.set_cons_zero, List.set_cons_succ])
        refine wpAnyH_take (i := 6) (oi := { dst := some 73, op := Op.binOp BinOp.neq 3 (Operand.tmp 70) (Operand.tmp 72) 3, type := 4, pos := _, after := #[{ on := 3, ground := Ground.data }, { on := 5, ground := Ground.data }], guard := none }) (v := ?_) rfl (by kernel_rfl) (by kernel_rfl) (by kernel_rfl) (fun _ _ _ h => h) (Or.inl ⟨by rfl, ?_⟩) (by assumption) ?_
        rotate_left
        · intro w hSw; (try dsimp only at hSw); go_simp; (try with_reducible rfl)
        (try simp only [Act.put, List.setIfInBounds_toArray, List.set_cons_zero, List.set_cons_succ])
        refine wpAnyH_ready (rs := [1]) (by kernel_rfl) (by simp) ?_
        refine AllReadyH.cons (o := { dst := some 68, op := Op.call { callee := Callee.value (Operand.func 31), args := #[Operand.tmp 67], argTypes := #[26] }, type := 4, pos := _, after := #[{ on := 0, ground := Ground.data }], guard := none }) rfl (fun K hK => ?_) ?_
        rotate_left
        · exact AllReadyH.nil
        go_simp
        go_at_call 31
        refine (planJ_held _ _ _ _ _ _ P (ints (flipT (tableOf P ex) i k)) st _ W8 _ (by with_reducible assumption) rfl hFl.out hv.out hP8'.out (by omega) hI8.out (by omega)).mono ?_
        rintro e w' ⟨rfl, hb⟩
        (try go_wp2_with fail)
        refine hK.out _ _ ?_ (fun hHeld2 => ?_)
        · exact held_step (by assumption) (by assumption)
        clear hK K hHeld
        have hHeld := hHeld2
        clear hHeld2
        (try simp only [Act.put, List.setIfInBounds_toArray, List.set_cons_zero, List.set_cons_succ])
        refine wpAnyH_take (i := 7) (oi := { dst := some 74, op := Op.move (Operand.tmp 73), type := 4, pos := _, after := #[{ on := 6, ground := Ground.data }, { on := 1, ground := Ground.chain }], guard := none }) (v := ?_) rfl (by kernel_rfl) (by kernel_rfl) (by kernel_rfl) (fun _ _ _ h => h) (Or.inl ⟨by rfl, ?_⟩) (by assumption) ?_
        rotate_left
        · intro w hSw; (try dsimp only at hSw); go_simp; (try with_reducible rfl)
        (try simp only [Act.put, List.setIfInBounds_toArray, List.set_cons_zero, List.set_cons_succ])
        refine wpAnyH_take (i := 8) (oi := { dst := some 75, op := Op.fieldAddr 55 (Operand.tmp 11) 1, type := 0, pos := _, after := #[{ on := 7, ground := Ground.guard }], guard := some (7, true) }) rfl (by kernel_rfl) (by kernel_rfl) (by kernel_rfl) (fun _ _ _ h => h) (Or.inr ⟨by rfl, rfl⟩) (by assumption) ?_
        (try simp only [Act.put, List.setIfInBounds_toArray, List.set_cons_zero, List.set_cons_succ])
        refine wpAnyH_take (i := 9) (oi := { dst := some 76, op := Op.load 3 (Operand.tmp 75), type := 3, pos := _, after := #[{ on := 8, ground := Ground.data }, { on := 7, ground := Ground.guard }], guard := some (7, true) }) rfl (by kernel_rfl) (by kernel_rfl) (by kernel_rfl) (fun _ _ _ h => h) (Or.inr ⟨by rfl, rfl⟩) (by assumption) ?_
        (try simp only [Act.put, List.setIfInBounds_toArray, List.set_cons_zero, List.set_cons_succ])
        refine wpAnyH_take (i := 10) (oi := { dst := some 77, op := Op.fieldAddr 55 (Operand.tmp 12) 1, type := 0, pos := _, after := #[{ on := 7, ground := Ground.guard }], guard := some (7, true) }) rfl (by kernel_rfl) (by kernel_rfl) (by kernel_rfl) (fun _ _ _ h => h) (Or.inr ⟨by rfl, rfl⟩) (by assumption) ?_
        (try simp only [Act.put, List.setIfInBounds_toArray, List.set_cons_zero, List.set_cons_succ])
        refine wpAnyH_take (i := 11) (oi := { dst := some 78, op := Op.load 3 (Operand.tmp 77), type := 3, pos := _, after := #[{ on := 10, ground := Ground.data }, { on := 7, ground := Ground.guard }], guard := some (7, true) }) rfl (by kernel_rfl) (by kernel_rfl) (by kernel_rfl) (fun _ _ _ h => h) (Or.inr ⟨by rfl, rfl⟩) (by assumption) ?_
        (try simp only [Act.put, List.setIfInBounds_toArray, List.set_cons_zero, List.set_cons_succ])
        refine wpAnyH_take (i := 12) (oi := { dst := some 79, op := Op.binOp BinOp.eql 3 (Operand.tmp 76) (Operand.tmp 78) 3, type := 4, pos := _, after := #[{ on := 9, ground := Ground.data }, { on := 11, ground := Ground.data }, { on := 7, ground := Ground.guard }], guard := some (7, true) }) rfl (by kernel_rfl) (by kernel_rfl) (by kernel_rfl) (fun _ _ _ h => h) (Or.inr ⟨by rfl, rfl⟩) (by assumption) ?_
        (try simp only [Act.put, List.setIfInBounds_toArray, List.set_cons_zero, List.set_cons_succ])
        refine wpAnyH_take (i := 13) (oi := { dst := some 80, op := Op.pick (Operand.tmp 74) (Operand.tmp 79) (Operand.const (Value.bool false)), type := 4, pos := _, after := #[{ on := 7, ground := Ground.data }, { on := 12, ground := Ground.data }], guard := none }) (v := ?_) rfl (by kernel_rfl) (by kernel_rfl) (by kernel_rfl) (fun _ _ _ h => h) (Or.inl ⟨by rfl, ?_⟩) (by assumption) ?_
        rotate_left
        · intro w hSw; (try dsimp only at hSw); go_simp; (try with_reducible rfl)
        (try simp only [Act.put, List.setIfInBounds_toArray, List.set_cons_zero, List.set_cons_succ])
        refine wpAnyH_take (i := 14) (oi := { dst := some 81, op := Op.binOp BinOp.eql 4 (Operand.tmp 68) (Operand.tmp 80) 4, type := 4, pos := _, after := #[{ on := 1, ground := Ground.data }, { on := 13, ground := Ground.data }], guard := none }) (v := ?_) rfl (by kernel_rfl) (by kernel_rfl) (by kernel_rfl) (fun _ _ _ h => h) (Or.inl ⟨by rfl, ?_⟩) (by assumption) ?_
        rotate_left
        · intro w hSw; (try dsimp only at hSw); go_simp; (try with_reducible rfl)
        (try simp only [Act.put, List.setIfInBounds_toArray, List.set_cons_zero, List.set_cons_succ])
        refine wpAnyH_take (i := 15) (oi := { dst := some 82, op := Op.move (Operand.tmp 81), type := 4, pos := _, after := #[{ on := 14, ground := Ground.data }, { on := 7, ground := Ground.chain }], guard := none }) (v := ?_) rfl (by kernel_rfl) (by kernel_rfl) (by kernel_rfl) (fun _ _ _ h => h) (Or.inl ⟨by rfl, ?_⟩) (by assumption) ?_
        rotate_left
        · intro w hSw; (try dsimp only at hSw); go_simp; (try with_reducible rfl)
        (try simp only [Act.put, List.setIfInBounds_toArray, List.set_cons_zero, List.set_cons_succ])
        refine wpAnyH_ready (rs := [16]) (by kernel_rfl) (by simp) ?_
        refine AllReadyH.cons (o := { dst := some 83, op := Op.call { callee := Callee.value (Operand.func 32), args := #[], argTypes := #[] }, type := 4, pos := _, after := #[{ on := 15, ground := Ground.chain }, { on := 15, ground := Ground.guard }], guard := some (15, true) }) rfl (fun K hK => ?_) ?_
        rotate_left
        · exact AllReadyH.nil
        go_simp
        go_at_call 32
        refine (awake7_any _).mono ?_
        rintro e w' ⟨rfl, hb⟩
        (try go_wp2_with fail)
        refine hK.out _ _ ?_ (fun hHeld2 => ?_)
        · exact held_step (by assumption) (by assumption)
        clear hK K hHeld
        have hHeld := hHeld2
        clear hHeld2
        (try simp only [Act.put, List.setIfInBounds_toArray, List.set_cons_zero, List.set_cons_succ])
        refine wpAnyH_take (i := 17) (oi := { dst := some 84, op := Op.pick (Operand.tmp 82) (Operand.tmp 83) (Operand.const (Value.bool false)), type := 4, pos := _, after := #[{ on := 15, ground := Ground.data }, { on := 16, ground := Ground.data }], guard := none }) (v := ?_) rfl (by kernel_rfl) (by kernel_rfl) (by kernel_rfl) (fun _ _ _ h => h) (Or.inl ⟨by rfl, ?_⟩) (by assumption) ?_
        rotate_left
        · intro w hSw; (try dsimp only at hSw); go_simp; (try with_reducible rfl)
        (try simp only [Act.put, List.setIfInBounds_toArray, List.set_cons_zero, List.set_cons_succ])
        refine wpAnyH_take (i := 18) (oi := { dst := some 6, op := Op.assign (Operand.tmp 84), type := 4, pos := _, after := #[{ on := 17, ground := Ground.data }, { on := 16, ground := Ground.chain }, { on := 0, ground := Ground.phase }, { on := 1, ground := Ground.phase }, { on := 2, ground := Ground.phase }, { on := 3, ground := Ground.phase }, { on := 4, ground := Ground.phase }, { on := 5, ground := Ground.phase }, { on := 6, ground := Ground.phase }, { on := 7, ground := Ground.phase }, { on := 8, ground := Ground.phase }, { on := 9, ground := Ground.phase }, { on := 10, ground := Ground.phase }, { on := 11, ground := Ground.phase }, { on := 12, ground := Ground.phase }, { on := 13, ground := Ground.phase }, { on := 14, ground := Ground.phase }, { on := 15, ground := Ground.phase }, { on := 16, ground := Ground.phase }, { on := 17, ground := Ground.phase }], guard := none }) (v := ?_) rfl (by kernel_rfl) (by kernel_rfl) (by kernel_rfl) (fun _ _ _ h => h) (Or.inl ⟨by rfl, ?_⟩) (by assumption) ?_
        rotate_left
        · intro w hSw; (try dsimp only at hSw); go_simp; (try with_reducible rfl)
        (try simp only [Act.put, List.setIfInBounds_toArray, List.set_cons_zero, List.set_cons_succ])
        refine wpAnyH_done (by kernel_rfl) ?_ _
        go_wp2
        go_ret
        exact ⟨rfl, hall.out.trans ((And.left hHeld).mono (by omega))⟩
      · have br : (pr != qr) = true := by simpa using hr
        have br2 : (pr == qr) = false := by simpa using hr
        by_cases hg : pg = qg
        · have bg : (pg == qg) = true := by simp [hg]
          have hv : Hid (planJ P (ints (flipT (tableOf P ex) i k)) st = true) := Lib.hid (by rw [hflip.out, hneed.out, br2, bg]; rfl)
          clear hr hg br2
          go_region_held3 (fun w' => Below W8.heap.size W8 w' ∧ ∀ b o, b < W8.heap.size → w'.cell? ⟨b, o, none⟩ = W8.cell? ⟨b, o, none⟩) (first | exact held_start _ | exact held_step (by assumption) (by assumption))
            (first
              | (go_at_call 31; refine (planJ_held _ _ _ _ _ _ P (ints (flipT (tableOf P ex) i k)) st _ W8 _ (by with_reducible assumption) rfl hFl.out hv.out hP8'.out (by omega) hI8.out (by omega)).mono ?_; rintro e w' ⟨rfl, hb⟩)
              | (go_at_call 32; refine (awake7_any _).mono ?_; rintro e w' ⟨rfl, hb⟩))
          go_wp2
          go_ret
          exact ⟨rfl, hall.out.trans ((And.left ‹Below W8.heap.size W8 _ ∧ _›).mono (by omega))⟩
        · have bg : (pg == qg) = false := by simpa using hg
          have hv : Hid (planJ P (ints (flipT (tableOf P ex) i k)) st = false) := Lib.hid (by rw [hflip.out, hneed.out, br2, bg]; rfl)
          clear hr hg br2
          go_region_held3 (fun w' => Below W8.heap.size W8 w' ∧ ∀ b o, b < W8.heap.size → w'.cell? ⟨b, o, none⟩ = W8.cell? ⟨b, o, none⟩) (first | exact held_start _ | exact held_step (by assumption) (by assumption))
            (first
              | (go_at_call 31; refine (planJ_held _ _ _ _ _ _ P (ints (flipT (tableOf P ex) i k)) st _ W8 _ (by with_reducible assumption) rfl hFl.out hv.out hP8'.out (by omega) hI8.out (by omega)).mono ?_; rintro e w' ⟨rfl, hb⟩)
              | (go_at_call 32; refine (awake7_any _).mono ?_; rintro e w' ⟨rfl, hb⟩))
          go_wp2
          go_ret
          exact ⟨rfl, hall.out.trans ((And.left ‹Below W8.heap.size W8 _ ∧ _›).mono (by omega))⟩

end Go.Proofs.Ytepodpdcillkmaa
