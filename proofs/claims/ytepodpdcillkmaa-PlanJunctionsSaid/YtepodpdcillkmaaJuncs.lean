/- The walk of signalbrokerlaw07.PlanJunctions. -/
import Derived.Test.YtepodpdcillkmaaBent
import Derived.Test.YtepodpdcillkmaaRings
namespace Go.Proofs.Ytepodpdcillkmaa
open Go.RowKit
set_option linter.unusedVariables false
set_option linter.unusedSimpArgs false

/-- A junction's three values, that can be read. -/
structure JOut (n : Nat) (A : Option Addr) (l cap : Nat) (A2 : Option Addr) (l2 cap2 : Nat) (s : Int) (w : World) : Prop where
  ex : ∃ (P : List Ph) (C : List Int), P.length = l ∧ C.length = l2 ∧ l ≤ n ∧ l2 ≤ n ∧ Phs w w.heap.size A P ∧ Ints w w.heap.size A2 C
theorem JOut.below {n : Nat} {A A2 : Option Addr} {l cap l2 cap2 : Nat} {s : Int} {w w' : World} (h : JOut n A l cap A2 l2 cap2 s w) (hb : Below w.heap.size w w') : JOut n A l cap A2 l2 cap2 s w' := by
  obtain ⟨P, C, a, b, c, d, e, f⟩ := h
  exact ⟨P, C, a, b, c, d, (e.below hb).more hb.size, (f.below hb).more hb.size⟩
theorem JOut.le {n n' : Nat} {A A2 : Option Addr} {l cap l2 cap2 : Nat} {s : Int} {w : World} (h : JOut n A l cap A2 l2 cap2 s w) (hn : n ≤ n') : JOut n' A l cap A2 l2 cap2 s w := by
  obtain ⟨P, C, a, b, c, d, e, f⟩ := h
  exact ⟨P, C, a, b, by omega, by omega, e, f⟩
theorem bent1 (n bA oA bC oC l cap l2 cap2 : Nat) (s which byv : Int) (w : World) (h : JOut n (some ⟨bA, oA, none⟩) l cap (some ⟨bC, oC, none⟩) l2 cap2 s w) (hn : n ≤ 30) (h1 : 1 ≤ l) (h2 : 0 < l2) :
    Calls Try.prog 33 #[.agg #[.slice (some ⟨bA, oA, none⟩) l cap, .slice (some ⟨bC, oC, none⟩) l2 cap2, .int .i64 s], .int .i64 which, .int .i64 byv] w
      fun e w' => ∃ gp capp m bD oD capd m2 s', e = .returned (.agg #[.slice (some ⟨gp, 0, none⟩) m capp, .slice (some ⟨bD, oD, none⟩) m2 capd, .int .i64 s']) ∧ Hid (JOut (2 * n) (some ⟨gp, 0, none⟩) m capp (some ⟨bD, oD, none⟩) m2 capd s' w' ∧ 1 ≤ m) ∧ Below w.heap.size w w' := by
  obtain ⟨P, C, rfl, rfl, c, d, e, f⟩ := h
  refine (bent_any bA oA bC oC cap cap2 P C s which byv w e h1 (by omega) f (by omega)).mono ?_
  rintro e w' ⟨gp, capp, A2, capd, P', C', s', rfl, a1, a2, a3, a4, a5, a6, a7, a8, a9, a10, a11⟩
  obtain ⟨bD, oD, rfl⟩ := a6 h2
  exact ⟨gp, capp, P'.length, bD, oD, capd, C'.length, s', rfl, ⟨⟨P', C', rfl, rfl, by omega, by omega, a7, a8⟩, a1⟩, a9⟩
theorem bent2 (n bA oA bC oC l cap l2 cap2 : Nat) (s which byv : Int) (w : World) (h : Hid (JOut n (some ⟨bA, oA, none⟩) l cap (some ⟨bC, oC, none⟩) l2 cap2 s w ∧ 1 ≤ l)) (hn : n ≤ 30) :
    Calls Try.prog 33 #[.agg #[.slice (some ⟨bA, oA, none⟩) l cap, .slice (some ⟨bC, oC, none⟩) l2 cap2, .int .i64 s], .int .i64 which, .int .i64 byv] w
      fun e w' => ∃ A m capp A2 m2 capd s', e = .returned (.agg #[.slice A m capp, .slice A2 m2 capd, .int .i64 s']) ∧ Hid (JOut (2 * n) A m capp A2 m2 capd s' w') ∧ Below w.heap.size w w' := by
  obtain ⟨⟨P, C, rfl, rfl, c, d, e, f⟩, h1⟩ := h.out
  refine (bent_any bA oA bC oC cap cap2 P C s which byv w e h1 (by omega) f (by omega)).mono ?_
  rintro e w' ⟨gp, capp, A2, capd, P', C', s', rfl, a1, a2, a3, a4, a5, a6, a7, a8, a9, a10, a11⟩
  exact ⟨_, P'.length, capp, A2, C'.length, capd, s', rfl, ⟨P', C', rfl, rfl, by omega, by omega, a7, a8⟩, a9⟩
theorem held_hid {n : Nat} {A A2 : Option Addr} {l cap l2 cap2 : Nat} {s : Int} {w w' : World} (h : Hid (JOut n A l cap A2 l2 cap2 s w ∧ 1 ≤ l)) (hb : Below w.heap.size w w') : Hid (JOut n A l cap A2 l2 cap2 s w' ∧ 1 ≤ l) := ⟨h.out.1.below hb, h.out.2⟩

theorem held_alloc {W w' : World} (h : Below W.heap.size W w' ∧ ∀ b o, b < W.heap.size → w'.cell? ⟨b, o, none⟩ = W.cell? ⟨b, o, none⟩) (o : Obj) : Below W.heap.size W (w'.alloc o) ∧ ∀ b o', b < W.heap.size → (w'.alloc o).cell? ⟨b, o', none⟩ = W.cell? ⟨b, o', none⟩ := by
  have k := h.1.alloc h.1.size o
  exact ⟨k, fun b o' hlt => k.cell (p := ⟨b, o', none⟩) hlt⟩

theorem rplanJ_held (A A2 : Option Addr) (cap cap2 n m : Nat) (P : List Ph) (C : List Int) (s : Int) (b : Bool) (W w : World) (h : Below W.heap.size W w ∧ ∀ b o, b < W.heap.size → w.cell? ⟨b, o, none⟩ = W.cell? ⟨b, o, none⟩) (hP : P.length = n) (hC : C.length = m) (hb : planJ P C s = b) (hA : Phs W W.heap.size A P) (hm : n ≤ 60) (hA2 : Ints W W.heap.size A2 C) (hn : m ≤ 60) :
    Calls Try.prog 34 #[.agg #[.slice A n cap, .slice A2 m cap2, .int .i64 s]] w fun e w' => e = .returned (.bool b) ∧ Below w.heap.size w w' := by
  subst hP hC hb
  exact rplanJ_any A A2 cap cap2 P C s w ((hA.below h.1).more h.1.size) hm ((hA2.below h.1).more h.1.size) hn

theorem of_held (A A2 : Option Addr) (cap n2 cap2 : Nat) (P : List Ph) (s r g : Int) (W w : World) (h : Below W.heap.size W w ∧ ∀ b o, b < W.heap.size → w.cell? ⟨b, o, none⟩ = W.cell? ⟨b, o, none⟩) (hA : Phs W W.heap.size A P) (hm : P.length ≤ 1000) :
    Calls Try.prog 35 #[.agg #[.slice A P.length cap, .slice A2 n2 cap2, .int .i64 s], .int .i64 r, .int .i64 g] w fun e w' => ∃ (A : Option Addr) (cap : Nat), e = .returned (.slice A (ofTo P r g P.length).length cap) ∧ Hid (Ints w' w'.heap.size A (ofTo P r g P.length)) ∧ Below w.heap.size w w' :=
  of_any A A2 cap n2 cap2 P s r g w ((hA.below h.1).more h.1.size) hm
theorem rof_held (A A2 : Option Addr) (cap n2 cap2 : Nat) (P : List Ph) (s r g : Int) (W w : World) (h : Below W.heap.size W w ∧ ∀ b o, b < W.heap.size → w.cell? ⟨b, o, none⟩ = W.cell? ⟨b, o, none⟩) (hA : Phs W W.heap.size A P) (hm : P.length ≤ 1000) :
    Calls Try.prog 36 #[.agg #[.slice A P.length cap, .slice A2 n2 cap2, .int .i64 s], .int .i64 r, .int .i64 g] w fun e w' => ∃ (A : Option Addr) (cap : Nat), e = .returned (.slice A (ofTo P r g P.length).length cap) ∧ Hid (Ints w' w'.heap.size A (ofTo P r g P.length)) ∧ Below w.heap.size w w' :=
  rof_any A A2 cap n2 cap2 P s r g w ((hA.below h.1).more h.1.size) hm
theorem groups_held (A A2 : Option Addr) (cap n2 cap2 : Nat) (P : List Ph) (s : Int) (W w : World) (h : Below W.heap.size W w ∧ ∀ b o, b < W.heap.size → w.cell? ⟨b, o, none⟩ = W.cell? ⟨b, o, none⟩) (hA : Phs W W.heap.size A P) (hm : P.length ≤ 1000) (hg : ∀ i, i < P.length → -1 ≤ (P.getD i pz).g ∧ (P.getD i pz).g ≤ 1000000) :
    Calls Try.prog 37 #[.agg #[.slice A P.length cap, .slice A2 n2 cap2, .int .i64 s]] w fun e w' => e = .returned (.int .i64 (groupsTo P P.length)) ∧ Below w.heap.size w w' :=
  groups_any A A2 cap n2 cap2 P s w ((hA.below h.1).more h.1.size) hm hg
theorem rgroups_held (A A2 : Option Addr) (cap n2 cap2 : Nat) (P : List Ph) (s : Int) (W w : World) (h : Below W.heap.size W w ∧ ∀ b o, b < W.heap.size → w.cell? ⟨b, o, none⟩ = W.cell? ⟨b, o, none⟩) (hA : Phs W W.heap.size A P) (hm : P.length ≤ 1000) (hg : ∀ i, i < P.length → -1 ≤ (P.getD i pz).g ∧ (P.getD i pz).g ≤ 1000000) :
    Calls Try.prog 38 #[.agg #[.slice A P.length cap, .slice A2 n2 cap2, .int .i64 s]] w fun e w' => e = .returned (.int .i64 (groupsTo P P.length)) ∧ Below w.heap.size w w' :=
  rgroups_any A A2 cap n2 cap2 P s w ((hA.below h.1).more h.1.size) hm hg

/-- What the region that makes the four junctions leaves. -/
def J4 (W : World) (s46 s47 s48 : Value) (wx : World) : Prop :=
  ∃ g, s46 = .slice (some ⟨g, 0, none⟩) 4 4 ∧ s47 = .int .i64 4 ∧ s48 = .int .i64 0 ∧ Below W.heap.size W wx ∧
    ∀ i, i < 4 → ∃ A l cap A2 l2 cap2 s, wx.cell? ⟨g, i * 3, none⟩ = some (.slice A l cap) ∧ wx.cell? ⟨g, i * 3 + 1, none⟩ = some (.slice A2 l2 cap2) ∧ wx.cell? ⟨g, i * 3 + 2, none⟩ = some (.int .i64 s) ∧ JOut 32 A l cap A2 l2 cap2 s wx

theorem j4_new {W w1 w2 w3 : World} {R R2 B B2 D D2 : Option Addr} {rl rcap rl2 rcap2 l capp l2 capc g1 m1 c1 b1 o1 m2 d1 m3 c3 m4 d3 : Nat} {rs st s1 s3 : Int}
    (r : JOut 12 R rl rcap R2 rl2 rcap2 rs W) (j : JOut 8 B l capp B2 l2 capc st W) (h3 : Hid (JOut (2 * 16) D m3 c3 D2 m4 d3 s3 w3))
    (h1 : Hid (JOut (2 * 8) (some ⟨g1, 0, none⟩) m1 c1 (some ⟨b1, o1, none⟩) m2 d1 s1 w1 ∧ 1 ≤ m1)) (hb2 : Below w1.heap.size w1 w2) (hb3 : Below w2.heap.size w2 w3) (hb1 : Below W.drew.heap.size W.drew w1) :
    J4 W (.slice (some ⟨w3.heap.size, 0, none⟩) 4 4) (.int .i64 4) (.int .i64 0) (w3.alloc (.cells #[.slice R rl rcap, .slice R2 rl2 rcap2, .int .i64 rs, .slice B l capp, .slice B2 l2 capc, .int .i64 st, .slice (some ⟨g1, 0, none⟩) m1 c1, .slice (some ⟨b1, o1, none⟩) m2 d1, .int .i64 s1, .slice D m3 c3, .slice D2 m4 d3, .int .i64 s3] 26)) := by
  have hW1 : Below W.heap.size W w1 := ((Below.refl _ _).drew).trans hb1
  have hW3 : Below W.heap.size W w3 := hW1.trans ((hb2.mono hW1.size).trans (hb3.mono (Nat.le_trans hW1.size hb2.size)))
  have h13 : Below w1.heap.size w1 w3 := hb2.trans (hb3.mono hb2.size)
  have ha : Below w3.heap.size w3 (w3.alloc (.cells #[.slice R rl rcap, .slice R2 rl2 rcap2, .int .i64 rs, .slice B l capp, .slice B2 l2 capc, .int .i64 st, .slice (some ⟨g1, 0, none⟩) m1 c1, .slice (some ⟨b1, o1, none⟩) m2 d1, .int .i64 s1, .slice D m3 c3, .slice D2 m4 d3, .int .i64 s3] 26)) := (Below.refl _ _).alloc (Nat.le_refl _) _
  have hb := fun k => (Box.new w3 26 #[.slice R rl rcap, .slice R2 rl2 rcap2, .int .i64 rs, .slice B l capp, .slice B2 l2 capc, .int .i64 st, .slice (some ⟨g1, 0, none⟩) m1 c1, .slice (some ⟨b1, o1, none⟩) m2 d1, .int .i64 s1, .slice D m3 c3, .slice D2 m4 d3, .int .i64 s3]).cell k
  refine ⟨w3.heap.size, rfl, rfl, rfl, hW3.trans (ha.mono hW3.size), fun i hi => ?_⟩
  match i, hi with
  | 0, _ => exact ⟨R, rl, rcap, R2, rl2, rcap2, rs, hb 0, hb 1, hb 2, ((r.below hW3).below ha).le (by omega)⟩
  | 1, _ => exact ⟨B, l, capp, B2, l2, capc, st, hb 3, hb 4, hb 5, ((j.below hW3).below ha).le (by omega)⟩
  | 2, _ => exact ⟨_, m1, c1, _, m2, d1, s1, hb 6, hb 7, hb 8, ((h1.out.1.below h13).below ha).le (by omega)⟩
  | 3, _ => exact ⟨D, m3, c3, D2, m4, d3, s3, hb 9, hb 10, hb 11, (h3.out.below ha).le (by omega)⟩

set_option maxRecDepth 100000 in
set_option maxHeartbeats 4000000 in
theorem juncs_core (R : Option Addr) (rl rcap : Nat) (R2 : Option Addr) (rl2 rcap2 : Nat) (rs : Int) (A : Option Addr) (len cap : Nat) (zs : List Int) (which byv : Int) (w : World)
    (hR : JOut 1000000 R rl rcap R2 rl2 rcap2 rs w ∨ 12 < rl ∨ 12 < rl2) (hR2 : rl ≤ 12 → rl2 ≤ 12 → JOut 12 R rl rcap R2 rl2 rcap2 rs w) (hA : IsRow w A len cap zs) :
    Calls Try.prog 10 #[.agg #[.slice R rl rcap, .slice R2 rl2 rcap2, .int .i64 rs], .slice A len cap, .int .i64 which, .int .i64 byv] w fun e w' => e = .returned (.bool true) ∧ Below w.heap.size w w' := by
  obtain ⟨xs, rfl, hI, hm⟩ := hA.opened
  have HI := Lib.hid hI
  have HR := Lib.hid hR2
  clear hI hA hR hR2
  go_enter Try.func10, Try.ntmps10
  by_cases hbig : 12 < rl
  · have hbi : (12 : Int) < (rl : Int) := by omega
    go_wp2_with fail
    refine (awake7_any _).mono ?_; rintro e w4 ⟨rfl, hb4⟩
    go_wp2_with fail
    go_ret
    exact ⟨rfl, ((Below.refl _ w).alloc (Nat.le_refl _) _).trans (hb4.mono (by simp))⟩
  by_cases hbig2 : 12 < rl2
  · have hbi : ¬ (12 : Int) < (rl : Int) := by omega
    have hbi2 : (12 : Int) < (rl2 : Int) := by omega
    go_wp2_with fail
    refine (awake7_any _).mono ?_; rintro e w4 ⟨rfl, hb4⟩
    go_wp2_with fail
    go_ret
    exact ⟨rfl, ((Below.refl _ w).alloc (Nat.le_refl _) _).trans (hb4.mono (by simp))⟩
  have hbi : ¬ (12 : Int) < (rl : Int) := by omega
  have hbi2 : ¬ (12 : Int) < (rl2 : Int) := by omega
  have HRj := Lib.hid (HR.out (by omega) (by omega))
  clear HR hbig hbig2
  have hbA : Below w.heap.size w (w.alloc (.cells #[.slice R rl rcap, .slice R2 rl2 rcap2, .int .i64 rs] 26)) := (Below.refl _ _).alloc (Nat.le_refl _) _
  have hRJ : Hid (JOut 12 R rl rcap R2 rl2 rcap2 rs (w.alloc (.cells #[.slice R rl rcap, .slice R2 rl2 rcap2, .int .i64 rs] 26))) := HRj.out.below hbA
  have hRB : Hid (Box (w.alloc (.cells #[.slice R rl rcap, .slice R2 rl2 rcap2, .int .i64 rs] 26)) w.heap.size 26 #[.slice R rl rcap, .slice R2 rl2 rcap2, .int .i64 rs]) := Box.new _ _ _
  have hI0 : Hid (Ints (w.alloc (.cells #[.slice R rl rcap, .slice R2 rl2 rcap2, .int .i64 rs] 26)) (w.alloc (.cells #[.slice R rl rcap, .slice R2 rl2 rcap2, .int .i64 rs] 26)).heap.size A xs) := (HI.out.below hbA).more hbA.size
  have hbAH := Lib.hid hbA
  clear hbA
  go_wp2_with fail
  have hz0 : (w.alloc (.cells #[.slice R rl rcap, .slice R2 rl2 rcap2, .int .i64 rs] 26)).heap.size = w.heap.size + 1 := by simp
  generalize (w.alloc (.cells #[.slice R rl rcap, .slice R2 rl2 rcap2, .int .i64 rs] 26)) = W0 at hRJ hRB hI0 hbAH hz0 ⊢
  have hz00 : w.heap.size < W0.heap.size := by omega
  clear hz0
  refine (mknew_any A cap xs W0 hI0.out hm).mono ?_; rintro e w1 ⟨rfl, hd, hb1, hz⟩
  have hdH : Hid (HasDeck w1 W0.heap.size) := ⟨_, hd⟩
  have hb1H := Lib.hid hb1
  clear hd hb1
  go_wp2_with fail
  refine (junc_any W0.heap.size w1 hdH.out).mono ?_; rintro e w2 ⟨gp, gc, capp, capc, n, P, ex, st, rfl, hPs, hn6, hPok, st0, st2, hPh, hC, hd2, hg2⟩
  have hbel := Lib.hid (after_rows hb1H.out hg2)
  have hbelz := (after_rows hb1H.out hg2).size
  have hmade := Lib.hid (made_of hPs hn6 hPok st0 st2)
  have hP1 := hmade.out.n1
  have hP8 := hmade.out.n8
  have hCH := Lib.hid hC
  have hPhH := Lib.hid hPh
  have hCl : Hid ((ints (tableOf P ex)).length = P.length) := Lib.hid (by rw [ints_length, tableOf_length])
  clear hPs hPok hPh hC hd2 hg2 hz hn6 st0 st2
  go_upto_region 4 with fail
  have hbelJ : Hid (Below W0.heap.size W0 (w2.alloc (.cells #[.slice (some ⟨gp, 0, none⟩) P.length capp, .slice (some ⟨gc, 0, none⟩) P.length capc, .int .i64 st] 26))) := hbel.out.alloc hbelz _
  have hJ : Hid (Box (w2.alloc (.cells #[.slice (some ⟨gp, 0, none⟩) P.length capp, .slice (some ⟨gc, 0, none⟩) P.length capc, .int .i64 st] 26)) w2.heap.size 26 #[.slice (some ⟨gp, 0, none⟩) P.length capp, .slice (some ⟨gc, 0, none⟩) P.length capc, .int .i64 st]) := Box.new _ _ _
  have hCJ : Hid (Ints (w2.alloc (.cells #[.slice (some ⟨gp, 0, none⟩) P.length capp, .slice (some ⟨gc, 0, none⟩) P.length capc, .int .i64 st] 26)) w2.heap.size (some ⟨gc, 0, none⟩) (ints (tableOf P ex))) := hCH.out.below ((Below.refl _ _).alloc (Nat.le_refl _) _)
  have hPJ : Hid (Phs (w2.alloc (.cells #[.slice (some ⟨gp, 0, none⟩) P.length capp, .slice (some ⟨gc, 0, none⟩) P.length capc, .int .i64 st] 26)) w2.heap.size (some ⟨gp, 0, none⟩) P) := hPhH.out.below ((Below.refl _ _).alloc (Nat.le_refl _) _)
  have hWz : (w2.alloc (.cells #[.slice (some ⟨gp, 0, none⟩) P.length capp, .slice (some ⟨gc, 0, none⟩) P.length capc, .int .i64 st] 26)).heap.size = w2.heap.size + 1 := World.size_alloc _ _
  generalize w2.alloc (.cells #[.slice (some ⟨gp, 0, none⟩) P.length capp, .slice (some ⟨gc, 0, none⟩) P.length capc, .int .i64 st] 26) = W at hbelJ hJ hCJ hPJ hWz ⊢
  have hJz : w2.heap.size < W.heap.size := by omega
  have hRz : w.heap.size < W.heap.size := by omega
  clear hWz hCH hPhH
  have hJO : Hid (JOut 8 (some ⟨gp, 0, none⟩) P.length capp (some ⟨gc, 0, none⟩) P.length capc st W) := Lib.hid ⟨P, _, rfl, hCl.out, hP8, hP8, hPJ.out.more (by omega), hCJ.out.more (by omega)⟩
  have hRW : Hid (JOut 12 R rl rcap R2 rl2 rcap2 rs W) := hRJ.out.below hbelJ.out
  have hRBW : Hid (Box W w.heap.size 26 #[.slice R rl rcap, .slice R2 rl2 rcap2, .int .i64 rs]) := hRB.out.below hbelJ.out hz00
  have j0 := hJ.out.cell 0
  have j1 := hJ.out.cell 1
  have j2 := hJ.out.cell 2
  have q0 := hRBW.out.cell 0
  have q1 := hRBW.out.cell 1
  have q2 := hRBW.out.cell 2
  simp at j0 j1 j2 q0 q1 q2
  go_cut [46, 47, 48] (fun s46 s47 s48 wx => J4 W s46 s47 s48 wx)
  case first =>
    go_region_held3 (fun w' => Below W.heap.size W w' ∧ ∀ b o, b < W.heap.size → w'.cell? ⟨b, o, none⟩ = W.cell? ⟨b, o, none⟩) (first | exact held_start _ | exact held_step (by assumption) (by assumption) | exact held_alloc (by assumption) _)
      (first
        | (go_at_call 33; with_reducible refine (bent1 8 gp 0 gc 0 P.length capp P.length capc st _ _ _ (hJO.out.below (And.left (show Below W.heap.size W _ ∧ _ by with_reducible assumption))) (by omega) (by omega) (by omega)).mono ?_; rintro e w' ⟨g1, c1, m1, b1, o1, d1, m2, s1, rfl, hj, hb⟩)
        | (go_at_call 33; with_reducible refine (bent2 16 _ _ _ _ _ _ _ _ _ _ _ _ (by first | assumption | exact held_hid (by assumption) (by assumption)) (by omega)).mono ?_; rintro e w' ⟨g1, m1, c1, b1, m2, d1, s1, rfl, hj, hb⟩))
    go_wp2_with fail
    go_meet
    exact j4_new hRW.out hJO.out hj (by assumption) (by assumption) (by assumption) (by assumption)
  case rest =>
    obtain ⟨g, rfl, rfl, rfl, hbc, hfour⟩ := hcut
    have hbcH := Lib.hid hbc
    have hfourH := Lib.hid hfour
    have hzc := hbc.size
    clear hbc hfour j0 j1 j2 q0 q1 q2
    go_wp2_with fail
    go_loopw [48] (fun v48 wr => ∃ i : Nat, i ≤ 4 ∧ v48 = .int .i64 i ∧ Below wc.heap.size wc wr) (fun v48 _ => 4 - (intOf v48).toNat)
    case atStart => exact ⟨0, by omega, rfl, Below.refl _ _⟩
    case round =>
      obtain ⟨i, hi, rfl, hb⟩ := hrel
      have hbH := Lib.hid hb
      have hz := hb.size
      by_cases hi4 : i < 4
      · have hii : (i : Int) < 4 := by omega
        obtain ⟨B, l, cp, B2, l2, cp2, s', h0, h1, h2, hjo⟩ := hfourH.out i hi4
        have hgz : g < wc.heap.size := World.block_lt_of_cell? _ _ h0
        have e0 := (hb.cell (p := ⟨g, i * 3, none⟩) hgz).trans h0
        have e1 := (hb.cell (p := ⟨g, i * 3 + 1, none⟩) hgz).trans h1
        have e2 := (hb.cell (p := ⟨g, i * 3 + 2, none⟩) hgz).trans h2
        have hgr : g < wr.heap.size := by omega
        have hjr := Lib.hid (hjo.below hb)
        clear h0 h1 h2 hb hjo
        go_wp2_with fail
        have hbX : Below wr.heap.size wr (wr.alloc (.cells #[.slice B l cp, .slice B2 l2 cp2, .int .i64 s'] 26)) := (Below.refl _ _).alloc (Nat.le_refl _) _
        have hjX : Hid (JOut 32 B l cp B2 l2 cp2 s' (wr.alloc (.cells #[.slice B l cp, .slice B2 l2 cp2, .int .i64 s'] 26))) := hjr.out.below hbX
        have x0 : (wr.alloc (.cells #[.slice B l cp, .slice B2 l2 cp2, .int .i64 s'] 26)).cell? ⟨wr.heap.size, 0, none⟩ = some (.slice B l cp) := (Box.new _ _ _).cell 0
        have x1 : (wr.alloc (.cells #[.slice B l cp, .slice B2 l2 cp2, .int .i64 s'] 26)).cell? ⟨wr.heap.size, 1, none⟩ = some (.slice B2 l2 cp2) := (Box.new _ _ _).cell 1
        have x2 : (wr.alloc (.cells #[.slice B l cp, .slice B2 l2 cp2, .int .i64 s'] 26)).cell? ⟨wr.heap.size, 2, none⟩ = some (.int .i64 s') := (Box.new _ _ _).cell 2
        have hXz : (wr.alloc (.cells #[.slice B l cp, .slice B2 l2 cp2, .int .i64 s'] 26)).heap.size = wr.heap.size + 1 := World.size_alloc _ _
        generalize (wr.alloc (.cells #[.slice B l cp, .slice B2 l2 cp2, .int .i64 s'] 26)) = X at hbX hjX x0 x1 x2 hXz ⊢
        have hXz1 : wr.heap.size < X.heap.size := by omega
        have hbXH := Lib.hid hbX
        clear hbX hXz e0 e1 e2
        obtain ⟨P', C', hl1, hl2, hl3, hl4, hp, hc⟩ := hjX.out
        have hp1 := Lib.hid hp
        have hc1 := Lib.hid hc
        have hl1H := Lib.hid hl1
        have hl2H := Lib.hid hl2
        clear hp hc hl1 hl2
        obtain ⟨bb, hbb⟩ : ∃ bb, planJ P' C' s' = bb := ⟨_, rfl⟩
        have hbbH := Lib.hid hbb
        clear hbb
        go_region_held3 (fun w' => Below X.heap.size X w' ∧ ∀ b o, b < X.heap.size → w'.cell? ⟨b, o, none⟩ = X.cell? ⟨b, o, none⟩) (first | exact held_start _ | exact held_step (by assumption) (by assumption))
          (first
            | (go_at_call 31; refine (planJ_held _ _ _ _ _ _ P' C' s' bb X _ (by with_reducible assumption) hl1H.out hl2H.out hbbH.out hp1.out (by omega) hc1.out (by omega)).mono ?_; rintro e w' ⟨rfl, hb⟩)
            | (go_at_call 34; refine (rplanJ_held _ _ _ _ _ _ P' C' s' bb X _ (by with_reducible assumption) hl1H.out hl2H.out hbbH.out hp1.out (by omega) hc1.out (by omega)).mono ?_; rintro e w' ⟨rfl, hb⟩))
        have hS7 : Below X.heap.size X w' := And.left ‹Below X.heap.size X w' ∧ _›
        have hW7 : Hid (Below wc.heap.size wc w') := hbH.out.trans ((hbXH.out.mono hz).trans (hS7.mono (by omega)))
        clear hS7
        have hnn : (bb != bb) = false := by simp
        go_wp2_with fail
        go_roundw
        case rel => exact ⟨i + 1, by omega, by go_num, hW7.out⟩
        case measure => simp [intOf]; omega
      · have hii : ¬ (i : Int) < 4 := by omega
        have hbW : Hid (Below W.heap.size W wr) := hbcH.out.trans (hb.mono hzc)
        clear hb
        go_wp2_with fail
        go_loopw [12] (fun v12 wx => ∃ r : Int, -1 ≤ r ∧ r ≤ 3 ∧ v12 = .int .i64 r ∧ Below W.heap.size W wx) (fun v12 _ => (3 - intOf v12).toNat)
        case atStart => exact ⟨-1, by omega, by omega, rfl, hbW.out⟩
        case round =>
          obtain ⟨r, hr0, hr1, rfl, hb1⟩ := hrel
          have hb1H := Lib.hid hb1
          by_cases hr : r < 3
          · clear hb1
            go_wp2_with fail
            go_loopw [13] (fun v13 wx => ∃ q : Int, -1 ≤ q ∧ q ≤ 5 ∧ v13 = .int .i64 q ∧ Below W.heap.size W wx) (fun v13 _ => (5 - intOf v13).toNat)
            case atStart => exact ⟨-1, by omega, by omega, rfl, hb1H.out⟩
            case round =>
              obtain ⟨q, hq0, hq1, rfl, hb2⟩ := hrel
              have hb2H := Lib.hid hb2
              by_cases hq : q < 5
              · have hJ2 := hJ.out.below hb2 hJz
                have c0 := hJ2.cell 0
                have c1 := hJ2.cell 1
                have c2 := hJ2.cell 2
                simp at c0 c1 c2
                have hPr : Hid (Phs wr wr.heap.size (some ⟨gp, 0, none⟩) P) := (hPJ.out.below (hb2.mono (by omega))).more (by have := hb2.size; omega)
                have hJr : w2.heap.size < wr.heap.size := by have := hb2.size; omega
                have hzr := hb2.size
                clear hb2 hJ2
                go_wp2_with fail
                go_region_held3 (fun w' => Below wr.heap.size wr w' ∧ ∀ b o, b < wr.heap.size → w'.cell? ⟨b, o, none⟩ = wr.cell? ⟨b, o, none⟩) (first | exact held_start _ | exact held_step (by assumption) (by assumption))
                  (first
                    | (go_at_call 35; refine (of_held (some ⟨gp, 0, none⟩) (some ⟨gc, 0, none⟩) capp P.length capc P st r q wr _ (by with_reducible assumption) hPr.out (by omega)).mono ?_; rintro e w' ⟨A5, cap5, rfl, hI5, hb⟩)
                    | (go_at_call 36; refine (rof_held (some ⟨gp, 0, none⟩) (some ⟨gc, 0, none⟩) capp P.length capc P st r q wr _ (by with_reducible assumption) hPr.out (by omega)).mono ?_; rintro e w' ⟨A6, cap6, rfl, hI6, hb⟩))
                have hI5' : Hid (Ints w' w'.heap.size A5 (ofTo P r q P.length)) := (hI5.out.below hb).more hb.size
                have hS9 : Below wr.heap.size wr w' := And.left ‹Below wr.heap.size wr w' ∧ _›
                have hbW9 : Hid (Below W.heap.size W w') := hb2H.out.trans (hS9.mono hzr)
                have hLl := ofTo_len P r q P.length
                have hnn : ((ofTo P r q P.length).length != (ofTo P r q P.length).length) = false := by simp
                clear hI5 hb hS9
                generalize ofTo P r q P.length = L at hI5' hI6 hLl hnn ⊢
                obtain ⟨w9, hw9⟩ : ∃ x, x = w' := ⟨w', rfl⟩
                rw [← hw9] at hI5' hI6 hbW9 ⊢
                clear hw9
                go_wp2_with fail
                go_loopw [81] (fun v81 wx => ∃ k : Nat, k ≤ L.length ∧ v81 = .int .i64 k ∧ Below w9.heap.size w9 wx) (fun v81 _ => L.length - (intOf v81).toNat)
                case atStart => exact ⟨0, by omega, rfl, Below.refl _ _⟩
                case round =>
                  obtain ⟨k, hk, rfl, hb3⟩ := hrel
                  by_cases hkL : k < L.length
                  · have hkl : (k : Int) < (L.length : Int) := by omega
                    obtain ⟨b5, o5, rfl, hl5, hc5⟩ := (hI5'.out.below hb3) k hkL
                    obtain ⟨b6, o6, rfl, hl6, hc6⟩ := (hI6.out.below hb3) k hkL
                    generalize L.getD k 0 = lv at hc5 hc6
                    have hb3H := Lib.hid hb3
                    clear hb3
                    go_wp2_with fail
                    go_quiet (fail)
                    go_wp2_with fail
                    go_roundw
                    case rel => exact ⟨k + 1, by omega, by go_num, below_drewN hb3H.out _⟩
                    case measure => simp [intOf]; omega
                  · have hkl : ¬ (k : Int) < (L.length : Int) := by omega
                    have hbWr : Hid (Below W.heap.size W wr) := hbW9.out.trans (hb3.mono hbW9.out.size)
                    clear hb3
                    go_wp2_with fail
                    go_roundw
                    case rel => exact ⟨q + 1, by omega, by omega, by go_num, hbWr.out⟩
                    case measure => simp [intOf]; omega
              · go_wp2_with fail
                go_roundw
                case rel => exact ⟨r + 1, by omega, by omega, by go_num, hb2⟩
                case measure => simp [intOf]; omega
          · have hJ2 := hJ.out.below hb1 hJz
            have c0 := hJ2.cell 0
            have c1 := hJ2.cell 1
            have c2 := hJ2.cell 2
            simp at c0 c1 c2
            have hPr : Hid (Phs wr wr.heap.size (some ⟨gp, 0, none⟩) P) := (hPJ.out.below (hb1.mono (by omega))).more (by have := hb1.size; omega)
            have hCr : Hid (Ints wr wr.heap.size (some ⟨gc, 0, none⟩) (ints (tableOf P ex))) := (hCJ.out.below (hb1.mono (by omega))).more (by have := hb1.size; omega)
            have hJr : w2.heap.size < wr.heap.size := by have := hb1.size; omega
            have hgg : Hid (∀ i, i < P.length → -1 ≤ (P.getD i pz).g ∧ (P.getD i pz).g ≤ 1000000) := Lib.hid fun i hi => by have := (hmade.out.rng i hi).2; omega
            have hvv := Lib.hid (hmade.out.valid ex)
            have hz9 := hb1.size
            have hall : Hid (Below w.heap.size w wr) := hbAH.out.trans ((hbelJ.out.trans (hb1.mono hbelJ.out.size)).mono (by omega))
            clear hb1 hJ2
            go_wp2_with fail
            go_region_held3 (fun w' => Below wr.heap.size wr w' ∧ ∀ b o, b < wr.heap.size → w'.cell? ⟨b, o, none⟩ = wr.cell? ⟨b, o, none⟩) (first | exact held_start _ | exact held_step (by assumption) (by assumption))
              (first
                | (go_at_call 31; refine (planJ_held _ _ _ _ _ _ P (ints (tableOf P ex)) st true wr _ (by with_reducible assumption) rfl hCl.out hvv.out hPr.out (by omega) hCr.out (by omega)).mono ?_; rintro e w' ⟨rfl, hb⟩)
                | (go_at_call 37; refine (groups_held (some ⟨gp, 0, none⟩) (some ⟨gc, 0, none⟩) capp P.length capc P st wr _ (by with_reducible assumption) hPr.out (by omega) hgg.out).mono ?_; rintro e w' ⟨rfl, hb⟩)
                | (go_at_call 38; refine (rgroups_held (some ⟨gp, 0, none⟩) (some ⟨gc, 0, none⟩) capp P.length capc P st wr _ (by with_reducible assumption) hPr.out (by omega) hgg.out).mono ?_; rintro e w' ⟨rfl, hb⟩)
                | (go_at_call 32; refine (awake7_any _).mono ?_; rintro e w' ⟨rfl, hb⟩))
            go_wp2
            go_ret
            exact ⟨rfl, hall.out.trans ((And.left ‹Below wr.heap.size wr _ ∧ _›).mono hall.out.size)⟩

end Go.Proofs.Ytepodpdcillkmaa
