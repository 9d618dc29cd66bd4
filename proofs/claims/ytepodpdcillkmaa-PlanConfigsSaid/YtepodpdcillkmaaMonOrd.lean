/- The walk of signalbrokerlaw10.MonitorOrder. -/
import Derived.Test.YtepodpdcillkmaaMon
import Derived.Test.YtepodpdcillkmaaJunc
namespace Go.Proofs.Ytepodpdcillkmaa
open Go.RowKit
set_option linter.unusedVariables false
set_option linter.unusedSimpArgs false

def icells (l : List Int) : Array Value := (l.map (Value.int .i64)).toArray
theorem icells_at (l : List Int) (p : Nat) (h : p < l.length) : (icells l)[p]? = some (.int .i64 (l.getD p 0)) := by simp [icells, List.getD, h]
theorem icells_zero (n : Nat) : madeCells #[Value.int .i64 0] n = icells (List.replicate n 0) := by
  rw [cellsOf_zero]
  simp [cellsOf, icells]
theorem icells_set (l : List Int) (p : Nat) (x : Int) : (icells l).setIfInBounds p (.int .i64 x) = icells (l.set p x) := by
  simp [icells, List.map_set]
theorem Box.iints {w : World} {g : Nat} {l : List Int} {t : TypeId} (h : Box w g t (icells l)) {B : Nat} (hB : g < B) : Ints w B (some ⟨g, 0, none⟩) l := fun i hi => by
  refine ⟨g, 0, rfl, hB, ?_⟩
  rw [Nat.zero_add, h.cell i, icells_at l i hi]
theorem own_put {w : World} {base gb cap n : Nat} {l : List Int} (h : w.ownsRow base 3 1 (.slice (some ⟨gb, 0, none⟩) n cap) n (l.map (Value.int .i64))) (hl : l.length = n) (k : Nat) (hk : k < n) (x : Int) :
    Ints (w.setCell ⟨gb, k, none⟩ (.int .i64 x)) (gb + 1) (some ⟨gb, 0, none⟩) (l.set k x) := by
  intro i hi
  have hi' : i < n := by simpa [hl] using hi
  refine ⟨gb, 0, rfl, by omega, ?_⟩
  have e := fun j => h.cellAt j
  obtain ⟨_, h2⟩ := h
  rcases h2 with ⟨hv, _⟩ | ⟨g, cap', cur, hv, hg, hh, hcap, _, hcs, _⟩
  · cases hv
  · injection hv with hv _ hv2
    injection hv with hv
    injection hv with hv
    subst hv hv2
    have hb : Box w gb 3 cur := hh
    rw [Nat.zero_add, (hb.put k _).cell i]
    have e1 := (hb.cell i).symm.trans (e i (by omega))
    rw [Array.getElem?_setIfInBounds, e1]
    by_cases hik : k = i
    · subst hik
      rw [if_pos rfl, if_pos (by omega)]
      simp [List.getD, hl, hk]
    · rw [if_neg hik]
      simp [List.getD, hl, hi', hik, List.getElem?_set]

theorem forb_more (c l : List Int) (k : Nat) (h : forb c l = true) : forb c (l.set k 1) = true := by
  obtain ⟨p, q, hp, hq, hh⟩ := forb_hit h
  have hl : (l.set k 1).length = l.length := by simp
  have up : ∀ r, r < l.length → nr (l.getD r 0) = true → nr ((l.set k 1).getD r 0) = true := by
    intro r hr hn
    by_cases hk : k = r
    · subst hk
      simp [List.getD, hr, nr]
    · simp only [List.getD, List.getElem?_set, if_neg hk] at hn ⊢
      exact hn
  unfold hitF at hh
  rw [Bool.and_eq_true, Bool.and_eq_true] at hh
  exact forb_yes (by omega) (by omega) (hitF_yes (up p hp hh.1) (up q hq hh.2.1) hh.2.2)

theorem forb_at (A A2 : Option Addr) (cap cap2 B B2 n m : Nat) (c l : List Int) (w : World) (hc : c.length = n) (hl : l.length = m) (hA : Ints w B A c) (hn : n ≤ 60) (hA2 : Ints w B2 A2 l) (hm : m ≤ 1000) :
    Calls Try.prog 17 #[.slice A n cap, .slice A2 m cap2] w fun e w' => e = .returned (.bool (forb c l)) ∧ w = w' := by
  subst hc hl
  exact forb_any A A2 cap cap2 B B2 c l w hA hn hA2 hm

set_option maxRecDepth 100000 in
set_option maxHeartbeats 2000000 in
theorem order_walk (A : Option Addr) (len cap : Nat) (zs : List Int) (A2 : Option Addr) (len2 cap2 : Nat) (zs2 : List Int) (at_ : Int) (w : World) (hA : IsRow w A len cap zs) (hA2 : IsRow w A2 len2 cap2 zs2) (_ : (Lit.int .i64 at_).wf = true) :
    Calls Try.prog 3 #[.slice A len cap, .slice A2 len2 cap2, .int .i64 at_] w fun e w' => e = .returned (.bool true) ∧ Below w.heap.size w w' := by
  obtain ⟨xs, rfl, hI, hm⟩ := hA.opened
  obtain ⟨ys, rfl, hI2, hm2⟩ := hA2.opened
  have HI := Lib.hid hI
  have HI2 := Lib.hid hI2
  clear hI hI2 hA hA2
  go_enter Try.func3, Try.ntmps3
  by_cases h30 : 30 < ys.length
  · have h30' : (30 : Int) < (ys.length : Int) := by omega
    go_wp2_with fail
    refine (awake10_any _).mono ?_; rintro e w4 ⟨rfl, hb4⟩
    go_wp2_with fail
    go_ret
    exact ⟨rfl, hb4⟩
  have h30' : ¬ (30 : Int) < (ys.length : Int) := by omega
  go_wp2_with fail
  refine (mknew_any A cap xs w HI.out hm).mono ?_; rintro e w1 ⟨rfl, hd, hb1, hz⟩
  have hdH : Hid (HasDeck w1 w.heap.size) := ⟨_, hd⟩
  have hb1H := Lib.hid hb1
  clear hd hb1
  go_wp2_with fail
  refine (junc_any w.heap.size w1 hdH.out).mono ?_; rintro e w2 ⟨gp, gc, capp, capc, n, P, ex, st, rfl, hPs, hn6, hPok, st0, st2, hPh, hC, hd2, hg2⟩
  have hbel := Lib.hid (after_rows hb1H.out hg2)
  have hbelz := (after_rows hb1H.out hg2).size
  have hPl : P.length = (shapeOf n).length := by rw [← hPs, List.length_map]
  have hsl := shape_len n
  have hP1 : 1 ≤ P.length := by omega
  have hP8 : P.length ≤ 8 := by omega
  have hCH := Lib.hid hC
  have hCl : Hid ((ints (tableOf P ex)).length = P.length) := Lib.hid (by rw [ints_length, tableOf_length])
  clear hPs hPok hPh hC hd2 hg2 hz hPl hsl hn6
  have hmk := fun W => run_make_row' (P := Try.prog) 22 3 (.int .i64 0) 8 Try.underlying22 int_info rfl .i64 .i64 P.length (by omega) (by omega) W
  go_wp2_with fail
  clear hmk
  have hbelJ : Hid (Below w.heap.size w (w2.alloc (.cells #[.slice (some ⟨gp, 0, none⟩) P.length capp, .slice (some ⟨gc, 0, none⟩) P.length capc, .int .i64 st] 26))) := hbel.out.alloc hbelz _
  have hJ : Hid (Box (w2.alloc (.cells #[.slice (some ⟨gp, 0, none⟩) P.length capp, .slice (some ⟨gc, 0, none⟩) P.length capc, .int .i64 st] 26)) w2.heap.size 26 #[.slice (some ⟨gp, 0, none⟩) P.length capp, .slice (some ⟨gc, 0, none⟩) P.length capc, .int .i64 st]) := Box.new _ _ _
  have hCJ : Hid (Ints (w2.alloc (.cells #[.slice (some ⟨gp, 0, none⟩) P.length capp, .slice (some ⟨gc, 0, none⟩) P.length capc, .int .i64 st] 26)) w2.heap.size (some ⟨gc, 0, none⟩) (ints (tableOf P ex))) := hCH.out.below ((Below.refl _ _).alloc (Nat.le_refl _) _)
  have hWz : (w2.alloc (.cells #[.slice (some ⟨gp, 0, none⟩) P.length capp, .slice (some ⟨gc, 0, none⟩) P.length capc, .int .i64 st] 26)).heap.size = w2.heap.size + 1 := World.size_alloc _ _
  generalize w2.alloc (.cells #[.slice (some ⟨gp, 0, none⟩) P.length capp, .slice (some ⟨gc, 0, none⟩) P.length capc, .int .i64 st] 26) = W at hbelJ hJ hCJ hWz ⊢
  have hWzH := Lib.hid hWz
  have hWz' : w2.heap.size + 1 ≤ W.heap.size := by omega
  have hWz2 : W.heap.size ≤ w2.heap.size + 1 := by omega
  clear hWz
  go_loopw [24] (fun v24 wr => ∃ (i : Nat) (L : List Int), i ≤ P.length ∧ v24 = .int .i64 i ∧ L.length = P.length ∧ Box wr (w2.heap.size + 1) 3 (icells L) ∧ Below (w2.heap.size + 1) W wr) (fun v24 _ => P.length - (intOf v24).toNat)
  case atStart => exact ⟨0, List.replicate P.length 0, by omega, rfl, by simp, by rw [← icells_zero, ← hWzH.out]; exact Box.new _ _ _, (Below.refl _ _).alloc (by omega) _⟩
  case round =>
    obtain ⟨i, L, hi, rfl, hL, hbox, hb⟩ := hrel
    have hLH := Lib.hid hL
    clear hL
    by_cases hlt : i < P.length
    · have hil : (i : Int) < (P.length : Int) := by omega
      by_cases hiy : i < ys.length
      · have hiyl : (i : Int) < (ys.length : Int) := by omega
        obtain ⟨b, off, rfl, hbl, hc⟩ := (HI2.out.below (hbelJ.out.trans (hb.mono (by omega)))) i hiy
        generalize ys.getD i 0 = y at hc
        have hzb := hbox.lt
        have hbz : b < wr.heap.size := by omega
        have hboxH := Lib.hid hbox
        have hbH := Lib.hid hb
        clear hbox hb
        go_wp2_with fail
        refine (mod_any _ _ _ (by omega) (by omega)).mono ?_; rintro e w' ⟨rfl, rfl⟩
        generalize y % 4 = z
        have c0 := hboxH.out.cell i
        rw [icells_at L i (by rw [hLH.out]; omega)] at c0
        have f0 := hboxH.out.frozen i
        clear hc
        go_wp2_with fail
        go_roundw
        case rel => exact ⟨i + 1, L.set i z, by omega, by go_num, by rw [List.length_set]; exact hLH.out, Box.put_eq hboxH.out (icells_set L i z), hbH.out.setCell (by simp) _⟩
        case measure => simp [intOf]; omega
      · have hiyl : ¬ (i : Int) < (ys.length : Int) := by omega
        go_wp2_with fail
        go_roundw
        case rel => exact ⟨i + 1, L, by omega, by go_num, hLH.out, hbox, hb⟩
        case measure => simp [intOf]; omega
    · have hil : ¬ (i : Int) < (P.length : Int) := by omega
      have hzb := hbox.lt
      have hboxH := Lib.hid hbox
      have hbH := Lib.hid hb
      clear hbox hb
      obtain ⟨i0, hi0, hz0, hz10, hz20⟩ := info_parts int_info
      go_wp2_with (at_builtin; refine wpList_append_own _ rfl (.const nilS) (.tmp 40) 22 rfl wr.heap.size 3 i0 (.int .i64 0) 1 8 Try.underlying22 hi0 hz0 hz10 hz20 rfl (by decide) _ _ _ rfl (World.ownsRow_nil _ _ _ _) ⟨w2.heap.size + 1, 0, none⟩ P.length P.length (L.map (Value.int .i64)) rfl ?c1 ?c2 ?c3 ?c4 ?c5 ?c6 ?_)
      case c1 => exact hLH.out
      case c2 =>
        intro j x hj
        rw [hboxH.out.cell j]
        simp [icells, hj]
      case c3 => intro x _; rfl
      case c4 => unfold maxLen; omega
      case c5 => omega
      intro v2 w5 hown5 hg5 _
      obtain ⟨gb, capb, hv2⟩ := Joins.ownsRow_form hown5 (by omega)
      subst hv2
      obtain ⟨hgb, hgb5⟩ := hown5.lt gb rfl
      obtain ⟨k, hk⟩ : ∃ k : Nat, at_ % (P.length : Int) = (k : Int) := ⟨(at_ % (P.length : Int)).toNat, (Int.toNat_of_nonneg (Int.emod_nonneg _ (by omega))).symm⟩
      have hkl : k < P.length := by
        have := Int.emod_lt_of_pos at_ (b := (P.length : Int)) (by omega)
        omega
      have hkH := Lib.hid hk
      clear hk
      have c0 := hown5.cellAt k (by omega)
      have f0 := hown5.frozenAt k
      have hb5 : Below wr.heap.size wr w5 := ⟨hg5.os, hg5.tape, hg5.output, hg5.size, fun q hq => hg5.block q hq (by simp [Value.ownBlock])⟩
      have hb5H := Lib.hid hb5
      have hown5H := Lib.hid hown5
      have hz5 := hg5.size
      have hLa5 : Hid (Ints w5 (w2.heap.size + 2) (some ⟨w2.heap.size + 1, 0, none⟩) L) := (hboxH.out.below hb5 hzb).iints (by omega)
      obtain ⟨x0, hx0⟩ : ∃ x0, L.getD k 0 = x0 := ⟨_, rfl⟩
      have c1 : w5.cell? ⟨gb, k, none⟩ = some (.int .i64 x0) := by
        rw [c0, ← hx0]
        simp [List.getD, show k < L.length by rw [hLH.out]; exact hkl]
      clear hown5 hg5 c0 hx0 hb5
      go_wp2_with fail
      refine (mod_any _ _ _ (by omega) (by omega)).mono ?_; rintro e w' ⟨rfl, rfl⟩
      rw [hkH.out]
      have hbc : Hid (Ints (w5.setCell ⟨gb, k, none⟩ (.int .i64 1)) (gb + 1) (some ⟨gb, 0, none⟩) (L.set k 1)) := own_put hown5H.out hLH.out k hkl 1
      have hb6 : Hid (Below (w2.heap.size + 2) w5 (w5.setCell ⟨gb, k, none⟩ (.int .i64 1))) := (Below.refl _ _).setCell (by dsimp only; omega) _
      have hbW : Hid (Below (w2.heap.size + 1) W (w5.setCell ⟨gb, k, none⟩ (.int .i64 1))) := (hbH.out.trans (hb5H.out.mono (by omega))).setCell (by dsimp only; omega) _
      have hall : Hid (Below w.heap.size w (w5.setCell ⟨gb, k, none⟩ (.int .i64 1))) := hbelJ.out.trans (hbW.out.mono (by omega))
      have j1 := (hJ.out.below hbW.out (by omega)).cell 1
      have hz6 : (w5.setCell ⟨gb, k, none⟩ (.int .i64 1)).heap.size = w5.heap.size := by simp
      have hz6' : w2.heap.size < (w5.setCell ⟨gb, k, none⟩ (.int .i64 1)).heap.size := by omega
      have hz6s : w.heap.size ≤ (w5.setCell ⟨gb, k, none⟩ (.int .i64 1)).heap.size := by omega
      simp at j1
      have hC6 : Hid (Ints (w5.setCell ⟨gb, k, none⟩ (.int .i64 1)) w2.heap.size (some ⟨gc, 0, none⟩) (ints (tableOf P ex))) := hCJ.out.below (hbW.out.mono (by omega))
      have hLa6 : Hid (Ints (w5.setCell ⟨gb, k, none⟩ (.int .i64 1)) (w2.heap.size + 2) (some ⟨w2.heap.size + 1, 0, none⟩) L) := hLa5.out.below hb6.out
      have hm : Hid (forb (ints (tableOf P ex)) L = true → forb (ints (tableOf P ex)) (L.set k 1) = true) := forb_more _ _ _
      clear hz6
      go_wp2_with fail
      refine (forb_at _ _ _ _ _ _ _ _ _ _ _ hCl.out hLH.out hC6.out (by omega) hLa6.out (by omega)).mono ?_; rintro e w' ⟨rfl, rfl⟩
      have hLk : Hid ((L.set k 1).length = P.length) := Lib.hid (by rw [List.length_set]; exact hLH.out)
      generalize w5.setCell ⟨gb, k, none⟩ (.int .i64 1) = W6 at hbc hb6 hbW hall j1 hz6' hz6s hC6 hLa6 ⊢
      cases hf : forb (ints (tableOf P ex)) L
      · clear hf
        go_wp2_with fail
        refine (awake10_any _).mono ?_; rintro e w9 ⟨rfl, hb9⟩
        go_wp2_with fail
        go_ret
        exact ⟨rfl, hall.out.trans (hb9.mono hz6s)⟩
      · have hf2 := Lib.hid (hm.out hf)
        clear hf hm
        go_wp2_with fail
        refine (forb_at _ _ _ _ _ _ _ _ _ _ _ hCl.out hLk.out hC6.out (by omega) hbc.out (by omega)).mono ?_; rintro e w' ⟨rfl, rfl⟩
        rw [hf2.out]
        go_wp2_with fail
        refine (awake10_any _).mono ?_; rintro e w9 ⟨rfl, hb9⟩
        go_wp2_with fail
        go_ret
        exact ⟨rfl, hall.out.trans (hb9.mono hz6s)⟩

end Go.Proofs.Ytepodpdcillkmaa
