/- The walk of signalbrokerlaw10.MonitorQuiet (printed by tools/genQ.py). -/
import Derived.Test.YtepodpdcillkmaaCtlH
import Derived.Test.YtepodpdcillkmaaCtlG
import Derived.Test.YtepodpdcillkmaaCtlV
namespace Go.Proofs.Ytepodpdcillkmaa
open Go.RowKit
set_option linter.unusedVariables false
set_option linter.unusedSimpArgs false

theorem ph_bounds {p : Ph} (h : phOk p = true) : 0 ≤ p.r ∧ p.r < 2 ∧ 0 ≤ p.g ∧ p.g ≤ 1000000 ∧ 1 ≤ p.ye ∧ p.ye ≤ 1000000 ∧ p.re ≤ 1000000 := by
  simp only [phOk, wi, Bool.and_eq_true, decide_eq_true_eq] at h
  obtain ⟨⟨a1, a2⟩, ⟨b1, b2⟩, _, _, ⟨c1, c2⟩, ⟨d1, d2⟩, _⟩ := h
  exact ⟨a1, by omega, b1, by omega, c1, by omega, by omega⟩
/-- A phase in conflict with s is green or yellow, among the first k. -/
def wantTo (P : List Ph) (ex : Bool) (L : List Lt) (s : Nat) (k : Nat) : Bool := (List.range k).any fun p => !(p == s) && (tb ((ints (tableOf P ex)).getD s 0) p && nr (L.getD p lz).m)
theorem wantTo_succ (P : List Ph) (ex : Bool) (L : List Lt) (s k : Nat) : wantTo P ex L s (k + 1) = (wantTo P ex L s k || (!(k == s) && (tb ((ints (tableOf P ex)).getD s 0) k && nr (L.getD k lz).m))) := by
  unfold wantTo
  rw [List.range_succ, List.any_append]
  simp
theorem tab_conf (P : List Ph) (ex : Bool) (s p : Nat) (hs : s < P.length) (hp : p < P.length) : tb ((ints (tableOf P ex)).getD s 0) p = conf P ex s p := by
  rw [← cf_table P ex s p hs hp, cf_nat _ _ _ (by rw [ints_length, tableOf_length]; exact hs) (by rw [ints_length, tableOf_length]; exact hp)]
theorem nr_on {L : List Lt} {i : Nat} (h : nr (L.getD i lz).m = true) : onL L i = true := by
  unfold nr at h
  unfold onL
  simp only [Bool.or_eq_true, beq_iff_eq] at h
  have : (L.getD i lz).m ≠ 0 := by omega
  simpa using this
theorem forb_out {P : List Ph} {ex : Bool} {L : List Lt} {gr : Int} {N : List Int} (h : Inv P ex L gr N) : forb (ints (tableOf P ex)) (seen L (-1) L.length) = false := by
  refine forb_no fun p q hp hq => ?_
  rw [seen_length] at hp hq
  have e : ∀ i, i < L.length → (seen L (-1) L.length).getD i 0 = (L.getD i lz).m := fun i hi => by
    rw [seen_getD _ _ _ _ hi, if_pos hi, if_neg (by omega)]
  unfold hitF
  rw [e p hp, e q hq]
  cases h1 : nr (L.getD p lz).m
  · rfl
  · cases h2 : nr (L.getD q lz).m
    · rfl
    · have hl := h.len
      rw [cf_table P ex p q (by omega) (by omega), h.cl p q (by omega) (by omega) (nr_on h1) (nr_on h2)]; rfl
theorem forb_stuck {P : List Ph} {ex : Bool} {L : List Lt} {gr : Int} {N : List Int} (h : Inv P ex L gr N) {s : Nat} (hs : s < P.length) : forb (ints (tableOf P ex)) (seen L (s : Int) L.length) = wantTo P ex L s P.length := by
  have hl := h.len
  have e : ∀ i, i < L.length → (seen L (s : Int) L.length).getD i 0 = if i = s then 1 else (L.getD i lz).m := fun i hi => by
    rw [seen_getD _ _ _ _ hi, if_pos hi]
    by_cases his : i = s
    · rw [if_pos his, if_pos (by omega)]
    · rw [if_neg his, if_neg (by omega)]
  have hwant : ∀ p, p < P.length → p ≠ s → conf P ex s p = true → nr (L.getD p lz).m = true → wantTo P ex L s P.length = true := fun p hp hps hc hn => by
    unfold wantTo
    rw [List.any_eq_true]
    refine ⟨p, List.mem_range.2 hp, ?_⟩
    rw [tab_conf P ex s p hs hp, hc, hn]
    simp [hps]
  cases hw : wantTo P ex L s P.length
  · refine forb_no fun p q hp hq => ?_
    rw [seen_length] at hp hq
    unfold hitF
    rw [e p hp, e q hq, cf_table P ex p q (by omega) (by omega)]
    by_cases hps : p = s
    · by_cases hqs : q = s
      · subst hps hqs; rw [conf_self]; simp
      · subst hps
        rw [if_pos rfl, if_neg hqs]
        cases hn : nr (L.getD q lz).m
        · simp
        · cases hc : conf P ex p q
          · simp
          · rw [hwant q (by omega) hqs hc hn] at hw; cases hw
    · rw [if_neg hps]
      cases hn : nr (L.getD p lz).m
      · rfl
      · by_cases hqs : q = s
        · subst hqs
          rw [if_pos rfl]
          cases hc : conf P ex p q
          · simp
          · rw [hwant p (by omega) hps (by rw [conf_symm]; exact hc) hn] at hw; cases hw
        · rw [if_neg hqs]
          cases hn2 : nr (L.getD q lz).m
          · rfl
          · rw [h.cl p q (by omega) (by omega) (nr_on hn) (nr_on hn2)]; rfl
  · unfold wantTo at hw
    rw [List.any_eq_true] at hw
    obtain ⟨p, hp, hq⟩ := hw
    have hp := List.mem_range.1 hp
    rw [tab_conf P ex s p hs hp] at hq
    simp only [Bool.and_eq_true, Bool.not_eq_true', beq_eq_false_iff_ne] at hq
    obtain ⟨h1, h2, h3⟩ := hq
    refine forb_yes (p := s) (q := p) (by rw [seen_length]; omega) (by rw [seen_length]; omega) (hitF_yes ?_ ?_ ?_)
    · rw [e s (by omega), if_pos rfl]; rfl
    · rw [e p (by omega), if_neg h1]; exact h3
    · rw [cf_table P ex s p hs hp]; exact h2

theorem held_only {X w w' : World} {g : Nat} (h : Below X.heap.size X w ∧ ∀ b o, b < X.heap.size → w.cell? ⟨b, o, none⟩ = X.cell? ⟨b, o, none⟩) (hg : w.grownBy w' (some g)) (hX : X.heap.size ≤ g) : Below X.heap.size X w' ∧ ∀ b o, b < X.heap.size → w'.cell? ⟨b, o, none⟩ = X.cell? ⟨b, o, none⟩ := by
  have hb : Below X.heap.size X w' := h.1.grown hg h.1.size (fun q hq => by injection hq with hq; omega)
  exact ⟨hb, fun b o hlt => hb.cell (p := ⟨b, o, none⟩) hlt⟩
theorem held_new {X w : World} (h : Below X.heap.size X w ∧ ∀ b o, b < X.heap.size → w.cell? ⟨b, o, none⟩ = X.cell? ⟨b, o, none⟩) (o : Obj) : Below X.heap.size X (w.alloc o) ∧ ∀ b o', b < X.heap.size → (w.alloc o).cell? ⟨b, o', none⟩ = X.cell? ⟨b, o', none⟩ := by
  have hb : Below X.heap.size X (w.alloc o) := h.1.alloc h.1.size o
  exact ⟨hb, fun b o hlt => hb.cell (p := ⟨b, o, none⟩) hlt⟩
theorem held_re {X w : World} {o o' : Obj} (h : Below X.heap.size X (w.alloc o) ∧ ∀ b i, b < X.heap.size → (w.alloc o).cell? ⟨b, i, none⟩ = X.cell? ⟨b, i, none⟩) (hz : X.heap.size ≤ w.heap.size) : Below X.heap.size X (w.alloc o') ∧ ∀ b i, b < X.heap.size → (w.alloc o').cell? ⟨b, i, none⟩ = X.cell? ⟨b, i, none⟩ := by
  have hb : Below X.heap.size X (w.alloc o') := ⟨h.1.os, h.1.tape, h.1.output, by simp; omega, fun q hq => (Below.heap_alloc w o' q (by omega)).trans ((Below.heap_alloc w o q (by omega)).symm.trans (h.1.block q hq))⟩
  exact ⟨hb, fun b i hlt => hb.cell (p := ⟨b, i, none⟩) hlt⟩
theorem held_put {X w : World} (h : Below X.heap.size X w ∧ ∀ b o, b < X.heap.size → w.cell? ⟨b, o, none⟩ = X.cell? ⟨b, o, none⟩) {g : Nat} (hX : X.heap.size ≤ g) (i : Nat) (u : Value) : Below X.heap.size X (w.setCell ⟨g, i, none⟩ u) ∧ ∀ b o', b < X.heap.size → (w.setCell ⟨g, i, none⟩ u).cell? ⟨b, o', none⟩ = X.cell? ⟨b, o', none⟩ := by
  have hb : Below X.heap.size X (w.setCell ⟨g, i, none⟩ u) := h.1.setCell (p := ⟨g, i, none⟩) hX u
  exact ⟨hb, fun b o hlt => hb.cell (p := ⟨b, o, none⟩) hlt⟩
theorem seen_at (A3 : Option Addr) (cap3 n : Nat) (L : List Lt) (s : Int) (w : World) (hl : L.length = n) (hL : Lts w w.heap.size A3 L) (h8 : n ≤ 8) :
    Calls Try.prog 20 #[.slice A3 n cap3, .int .i64 s] w fun e w' => ∃ g, e = .returned (.slice (some ⟨g, 0, none⟩) n n) ∧ Ints w' w'.heap.size (some ⟨g, 0, none⟩) (seen L s L.length) ∧ Below w.heap.size w w' := by
  subst hl
  exact seen_any A3 cap3 L s w hL h8
/-- What the region that makes the control leaves. -/
def QMid (P : List Ph) (ex : Bool) (st : Int) (X : World) (s8 : Value) (wx : World) : Prop :=
  ∃ gv L gr N wt gl cl gn cn, s8 = .pointer (some ⟨gv, 0, none⟩) ∧ Box wx gv 35 #[.slice (some ⟨gl, 0, none⟩) P.length cl, .int .i64 gr, .slice (some ⟨gn, 0, none⟩) 2 cn, .int .i64 wt] ∧ RowL wx gl L ∧ RowI wx gn N ∧ Good P ex st L gr N wt ∧ Below X.heap.size X wx

set_option maxRecDepth 100000 in
set_option maxHeartbeats 8000000 in
theorem quiet_walk (A : Option Addr) (len cap : Nat) (zs : List Int) (A2 : Option Addr) (len2 cap2 : Nat) (zs2 : List Int) (stuck : Int) (w : World) (hA : IsRow w A len cap zs) (hA2 : IsRow w A2 len2 cap2 zs2) (_ : (Lit.int .i64 stuck).wf = true) :
    Calls Try.prog 4 #[.slice A len cap, .slice A2 len2 cap2, .int .i64 stuck] w fun e w' => e = .returned (.bool true) ∧ Below w.heap.size w w' := by
  obtain ⟨xs, rfl, hI, hmx⟩ := hA.opened
  obtain ⟨ys, rfl, hI2, hmy⟩ := hA2.opened
  have HI := Lib.hid hI
  have HI2 := Lib.hid hI2
  clear hI hI2 hA hA2
  go_enter Try.func4, Try.ntmps4
  go_wp2_with fail
  refine (mknew_any A cap xs w HI.out hmx).mono ?_; rintro e w1 ⟨rfl, hd, hb1, hz⟩
  have hdH : Hid (HasDeck w1 w.heap.size) := ⟨_, hd⟩
  have hb1H := Lib.hid hb1
  clear hd hb1
  go_wp2_with fail
  refine (junc_any w.heap.size w1 hdH.out).mono ?_; rintro e w2 ⟨gp, gc, capp, capc, n, P, ex, st, rfl, hPs, hn6, hPok, st0, st2, hPh, hC, hd2, hg2⟩
  have hbel := Lib.hid (after_rows hb1H.out hg2)
  have hbelz := (after_rows hb1H.out hg2).size
  have hmade := Lib.hid (made_of hPs hn6 hPok st0 st2)
  have hP1 := hmade.out.n1
  have hP8 := hmade.out.n8
  have hph : Hid (∀ i, i < P.length → 0 ≤ (P.getD i pz).r ∧ (P.getD i pz).r < 2 ∧ 0 ≤ (P.getD i pz).g ∧ (P.getD i pz).g ≤ 1000000 ∧ 1 ≤ (P.getD i pz).ye ∧ (P.getD i pz).ye ≤ 1000000 ∧ (P.getD i pz).re ≤ 1000000) := Lib.hid fun i hi => ph_bounds (hmade.out.ph i hi)
  have hCH := Lib.hid hC
  have hPhH := Lib.hid hPh
  have hCl : Hid ((ints (tableOf P ex)).length = P.length) := Lib.hid (by rw [ints_length, tableOf_length])
  clear hPs hPok hPh hC hd2 hg2 hz hn6
  go_upto_region 2 with fail
  have hbX0 : Below w2.heap.size w2 (w2.alloc (.cells #[.slice (some ⟨gp, 0, none⟩) P.length capp, .slice (some ⟨gc, 0, none⟩) P.length capc, .int .i64 st] 26)) := (Below.refl _ _).alloc (Nat.le_refl _) _
  have hJ : Hid (Box (w2.alloc (.cells #[.slice (some ⟨gp, 0, none⟩) P.length capp, .slice (some ⟨gc, 0, none⟩) P.length capc, .int .i64 st] 26)) w2.heap.size 26 #[.slice (some ⟨gp, 0, none⟩) P.length capp, .slice (some ⟨gc, 0, none⟩) P.length capc, .int .i64 st]) := Box.new _ _ _
  have hXz : (w2.alloc (.cells #[.slice (some ⟨gp, 0, none⟩) P.length capp, .slice (some ⟨gc, 0, none⟩) P.length capc, .int .i64 st] 26)).heap.size = w2.heap.size + 1 := World.size_alloc _ _
  generalize (w2.alloc (.cells #[.slice (some ⟨gp, 0, none⟩) P.length capp, .slice (some ⟨gc, 0, none⟩) P.length capc, .int .i64 st] 26)) = X at hbX0 hJ hXz ⊢
  have hbX : Hid (Below w.heap.size w X) := hbel.out.trans (hbX0.mono hbelz)
  have hPX : Hid (Phs X w2.heap.size (some ⟨gp, 0, none⟩) P) := hPhH.out.below hbX0
  have hCX : Hid (Ints X w2.heap.size (some ⟨gc, 0, none⟩) (ints (tableOf P ex))) := hCH.out.below hbX0
  have hYX : Hid (Ints X w.heap.size A2 ys) := HI2.out.below hbX.out
  have hgpX : gp < X.heap.size := by
    obtain ⟨b, o, e, hlt, _⟩ := hPX.out 0 (by omega)
    injection e with e; injection e with e; omega
  have hgcX : gc < X.heap.size := by
    obtain ⟨b, o, e, hlt, _⟩ := hCX.out 0 (by rw [hCl.out]; omega)
    injection e with e; injection e with e; omega
  have hwX : w.heap.size ≤ X.heap.size := by omega
  have h2X : w2.heap.size ≤ X.heap.size := by omega
  have j0 := hJ.out.cell 0
  have j1 := hJ.out.cell 1
  have j2 := hJ.out.cell 2
  have jz := hJ.out.lt
  simp at j0 j1 j2
  clear hbX0 hXz hPhH hCH
  go_cut [8] (fun s8 wx => QMid P ex st X s8 wx)
  case first =>
    go_region_held3 (fun w' => Below X.heap.size X w' ∧ ∀ b o, b < X.heap.size → w'.cell? ⟨b, o, none⟩ = X.cell? ⟨b, o, none⟩) (first | exact held_start _ | exact held_step (by assumption) (by assumption) | exact held_re (by with_reducible assumption) (by have h1 := hgb.size; have h2 := hnzH.out; (try simp only [World.size_drew, World.size_alloc] at h2); omega) | exact held_new (by assumption) _ | exact held_only (by assumption) (by assumption) (by first | omega | (have h2 := hnzH.out; (try simp only [World.size_drew, World.size_alloc] at h2); omega)) | exact held_put (held_put (held_put (held_put (by assumption) (by first | omega | (have h2 := hnzH.out; (try simp only [World.size_drew, World.size_alloc] at h2); omega)) _ _) (by first | omega | (have h2 := hnzH.out; (try simp only [World.size_drew, World.size_alloc] at h2); omega)) _ _) (by first | omega | (have h2 := hnzH.out; (try simp only [World.size_drew, World.size_alloc] at h2); omega)) _ _) (by first | omega | (have h2 := hnzH.out; (try simp only [World.size_drew, World.size_alloc] at h2); omega)) _ _)
      (first
        | (go_at_call 14; refine (mknew_any A2 cap2 ys _ ((hYX.out.below ((And.left (show Below X.heap.size X _ ∧ _ by with_reducible assumption)).mono hwX)).more (Nat.le_trans hwX (And.left (show Below X.heap.size X _ ∧ _ by with_reducible assumption)).size)) hmy).mono ?_; rintro e w' ⟨rfl, hd, hb, hnz⟩; have hdk : Hid (HasDeck w' _) := ⟨_, hd⟩; have hdX := (And.left (show Below X.heap.size X _ ∧ _ by with_reducible assumption)).size; have hnzH := Lib.hid hnz; clear hd hnz)
        | (go_at_call 18; refine (control_any _ (some ⟨gp, 0, none⟩) (some ⟨gc, 0, none⟩) capp capc P ex st _ (by first | exact hdk.out | exact hdk.out.alloc _ | (have h := hdk.out; simp only [World.size_drew, World.size_alloc] at h; exact h)) ((hPX.out.below ((And.left (show Below X.heap.size X _ ∧ _ by with_reducible assumption)).mono h2X)).more (Nat.le_trans h2X (And.left (show Below X.heap.size X _ ∧ _ by with_reducible assumption)).size)) hP1 hP8 ((hCX.out.below ((And.left (show Below X.heap.size X _ ∧ _ by with_reducible assumption)).mono h2X)).more (Nat.le_trans h2X (And.left (show Below X.heap.size X _ ∧ _ by with_reducible assumption)).size)) (fun i hi => ⟨(hph.out i hi).1, (hph.out i hi).2.1⟩) (fun i hi => ⟨(hph.out i hi).2.2.1, (hph.out i hi).2.2.2.1⟩) (fun i hi => (hph.out i hi).2.2.2.2) st0 (by omega) (fun a ha => by injection ha with ha; subst ha; dsimp only; omega) (fun a ha => by injection ha with ha; subst ha; dsimp only; omega)).mono ?_; rintro e w' ⟨L, gr, N, wt, gl, cl, gn, cn, rfl, hrl, hrn, hgood, hgb⟩; first | (have hbv := (Box.new _ 35 #[.slice none 0 0, .int .i64 0, .slice none 0 0, .int .i64 0]).grown hgb (by intro e; injection e with e; have h2 := hnzH.out; (try simp only [World.size_drew, World.size_alloc] at h2); omega); have v0 := hbv.cell 0; have v1 := hbv.cell 1; have v2 := hbv.cell 2; have v3 := hbv.cell 3; have vf := hbv.frozen; have vz := hbv.lt; simp at v0 v1 v2 v3) | (have hbv := ((Box.new X 35 #[.slice none 0 0, .int .i64 0, .slice none 0 0, .int .i64 0]).drew.below hb (by simp)).grown hgb (by intro e; injection e with e; simp at e); have v0 := hbv.cell 0; have v1 := hbv.cell 1; have v2 := hbv.cell 2; have v3 := hbv.cell 3; have vf := hbv.frozen; have vz := hbv.lt; simp at v0 v1 v2 v3) | skip))
    · rename_i hHX
      have hQ : QMid P ex st X (.pointer (some ⟨_, 0, none⟩)) _ := ⟨_, L, gr, N, wt, gl, cl, gn, cn, rfl, Box.new _ _ _, hrl.below ((Below.refl _ _).alloc (Nat.le_refl _) _) hrl.lt, hrn.below ((Below.refl _ _).alloc (Nat.le_refl _) _) hrn.lt, hgood, hHX.1⟩
      clear hHX hrl hrn hgood hgb
      go_wp2_with fail
      go_meet
      exact hQ
    · rename_i hHX
      have e1 := (hbv.differ hrl.choose_spec.1 (by decide)).symm
      have e2 := (hbv.differ hrn.choose_spec.1 (by decide)).symm
      have hQ : QMid P ex st X (.pointer (some ⟨_, 0, none⟩)) _ := ⟨_, L, gr, N, wt, gl, cl, gn, cn, rfl, box_put4 hbv (.slice (some ⟨gl, 0, none⟩) P.length cl) (.int .i64 gr) (.slice (some ⟨gn, 0, none⟩) 2 cn) (.int .i64 wt), (((hrl.far e1 _).far e1 _).far e1 _).far e1 _, (((hrn.far e2 _).far e2 _).far e2 _).far e2 _, hgood, hHX.1⟩
      clear hHX v0 v1 v2 v3 vf vz hbv hrl hrn hgood hgb
      go_wp2_with fail
      go_meet
      exact hQ
    · rename_i hHX
      have e1 := (hbv.differ hrl.choose_spec.1 (by decide)).symm
      have e2 := (hbv.differ hrn.choose_spec.1 (by decide)).symm
      have hQ : QMid P ex st X (.pointer (some ⟨_, 0, none⟩)) _ := ⟨_, L, gr, N, wt, gl, cl, gn, cn, rfl, box_put4 hbv (.slice (some ⟨gl, 0, none⟩) P.length cl) (.int .i64 gr) (.slice (some ⟨gn, 0, none⟩) 2 cn) (.int .i64 wt), (((hrl.far e1 _).far e1 _).far e1 _).far e1 _, (((hrn.far e2 _).far e2 _).far e2 _).far e2 _, hgood, hHX.1⟩
      clear hHX v0 v1 v2 v3 vf vz hbv hrl hrn hgood hgb
      go_wp2_with fail
      go_meet
      exact hQ
  case rest =>
    obtain ⟨gv, L, gr, N, wt, gl, cl, gn, cn, rfl, hbv, hrl, hrn, hgood, hbc⟩ := hcut
    obtain ⟨V, rfl⟩ : ∃ x, x = wc := ⟨wc, rfl⟩
    have hbvH := Lib.hid hbv
    have hrlH := Lib.hid hrl
    have hrnH := Lib.hid hrn
    have hgoodH := Lib.hid hgood
    have hbcH := Lib.hid hbc
    have hvz := hbv.lt
    have hglz := hrl.lt
    have hzV := hbc.size
    have hLl := Lib.hid hgood.inv.len
    have hGV : Hid (GoodV P ex st L gr N wt) := ⟨hgood.inv, hgood.w0, hgood.w1, hgood.red⟩
    have v0 := hbv.cell 0
    have v1 := hbv.cell 1
    have v2 := hbv.cell 2
    have v3 := hbv.cell 3
    simp at v0 v1 v2 v3
    clear hbv hrl hrn hgood hbc j0 j1 j2 HI HI2 hYX hdH hb1H
    have hbJ := hJ.out.below hbcH.out jz
    have j0 := hbJ.cell 0
    have j1 := hbJ.cell 1
    have j2 := hbJ.cell 2
    have jzz := hbJ.lt
    simp at j0 j1 j2
    clear hbJ
    go_wp2_with fail
    refine (mod_any _ _ _ (by omega) (by omega)).mono ?_; rintro e w' ⟨rfl, rfl⟩
    obtain ⟨sn, hsn⟩ : ∃ k : Nat, stuck % (P.length : Int) = (k : Int) := ⟨(stuck % (P.length : Int)).toNat, (Int.toNat_of_nonneg (Int.emod_nonneg _ (by omega))).symm⟩
    have hsl : sn < P.length := by
      have := Int.emod_lt_of_pos stuck (b := (P.length : Int)) (by omega)
      omega
    rw [hsn]
    clear hsn
    go_wp2_with fail
    go_loopw [10, 28] (fun v10 v28 wx => ∃ k : Nat, k ≤ P.length ∧ v28 = .int .i64 k ∧ v10 = .bool (wantTo P ex L sn k) ∧ Below V.heap.size V wx) (fun _ v28 _ => P.length - (intOf v28).toNat)
    case atStart => exact ⟨0, by omega, rfl, rfl, Below.refl _ _⟩
    case round =>
      obtain ⟨k, hk, rfl, rfl, hb⟩ := hrel
      have hbH := Lib.hid hb
      have hz := hb.size
      clear hb v0 v1 v2 v3 j0 j1 j2 jzz
      have hXw : Hid (Below X.heap.size X wr) := hbcH.out.trans (hbH.out.mono (by omega))
      have hbJ := hJ.out.below hXw.out jz
      have j0 := hbJ.cell 0
      have j1 := hbJ.cell 1
      have j2 := hbJ.cell 2
      have jzz := hbJ.lt
      simp at j0 j1 j2
      clear hbJ
      have hbV := hbvH.out.below hbH.out hvz
      have v0 := hbV.cell 0
      have v1 := hbV.cell 1
      have v2 := hbV.cell 2
      have v3 := hbV.cell 3
      have vzz := hbV.lt
      simp at v0 v1 v2 v3
      clear hbV
      by_cases hlt : k < P.length
      · have hkl : (k : Int) < (P.length : Int) := by omega
        have hLr := hrlH.out.below hbH.out hglz
        have l0 := hLr.cell0 (i := k) (by rw [hLl.out]; exact hlt)
        have l1 := hLr.cell1 (i := k) (by rw [hLl.out]; exact hlt)
        have hglr := hLr.lt
        obtain ⟨b', off', e', hgcl, hcp⟩ := (hCX.out.below (hXw.out.mono (by omega))) sn (by rw [hCl.out]; exact hsl)
        injection e' with e'
        injection e' with e2 e3
        subst e2 e3
        rw [Nat.zero_add] at hcp
        have hws := Lib.hid (wantTo_succ P ex L sn k)
        rw [ints_getD] at hcp
        have hwe : tb ((ints (tableOf P ex)).getD sn 0) k = tb (((tableOf P ex).getD sn 0 : Nat) : Int) k := by rw [ints_getD]
        have hws2 := hws.out
        rw [hwe] at hws2
        have hwsH := Lib.hid hws2
        clear hws hws2 hwe hLr
        have hT0 : (0 : Int) ≤ (((tableOf P ex).getD sn 0 : Nat) : Int) := by omega
        have hT1 : (((tableOf P ex).getD sn 0 : Nat) : Int) < 4611686018427387904 := by have := table_bd P ex sn hP8; omega
        generalize (((tableOf P ex).getD sn 0 : Nat) : Int) = Tn at hcp hwsH hT0 hT1
        generalize (L.getD k lz).m = lm at l0 hwsH
        generalize (L.getD k lz).t = lt at l1
        obtain ⟨hp0, hp1⟩ := pow_le_256 k (by omega)
        have hgcr : gc < wr.heap.size := by omega
        have hslI : (sn : Int) < (P.length : Int) := by omega
        generalize hwn : wantTo P ex L sn (k + 1) = wn at hwsH
        have hwnH := Lib.hid hwn
        clear hwn
        generalize hwk : wantTo P ex L sn k = wk at hwsH ⊢
        have hbA : Hid (∀ o, Below V.heap.size V (wr.alloc o)) := Lib.hid fun o => hbH.out.alloc (by omega) _
        clear hwk
        unfold tb at hwsH
        have ha := and_one
        cases wk
        · by_cases hks : k = sn
          · have hb1 : ((k : Int) != (sn : Int)) = false := by simp [hks]
            have hw' := hwsH.out
            rw [show (k == sn) = true by simp [hks]] at hw'
            have hwf : wn = false := by rw [hw']; rfl
            subst hwf
            clear hks hw'
            go_wp2_with fail
            go_roundw
            case rel => exact ⟨k + 1, by omega, by go_num, by rw [hwnH.out], hbA.out _⟩
            case measure => simp [intOf]; omega
          · have hb1 : ((k : Int) != (sn : Int)) = true := by simp; omega
            have hw' := hwsH.out
            rw [show (k == sn) = false by simp [hks]] at hw'
            clear hks
            cases hb2 : (Tn / 2 ^ k % 2 == 1)
            · rw [hb2] at hw'
              have hwf : wn = false := by rw [hw']; rfl
              subst hwf
              clear hw'
              go_wp2_with fail
              go_roundw
              case rel => exact ⟨k + 1, by omega, by go_num, by rw [hwnH.out], hbA.out _⟩
              case measure => simp [intOf]; omega
            · rw [hb2] at hw'
              unfold nr at hw'
              cases hm1 : (lm == 1)
              · rw [hm1] at hw'
                cases hm2 : (lm == 2)
                · rw [hm2] at hw'
                  have hwf : wn = false := by rw [hw']; rfl
                  subst hwf
                  clear hw'
                  go_wp2_with fail
                  go_roundw
                  case rel => exact ⟨k + 1, by omega, by go_num, by rw [hwnH.out], hbA.out _⟩
                  case measure => simp [intOf]; omega
                · rw [hm2] at hw'
                  have hwf : wn = true := by rw [hw']; rfl
                  subst hwf
                  clear hw'
                  go_wp2_with fail
                  go_roundw
                  case rel => exact ⟨k + 1, by omega, by go_num, by rw [hwnH.out], hbA.out _⟩
                  case measure => simp [intOf]; omega
              · rw [hm1] at hw'
                have hwf : wn = true := by rw [hw']; rfl
                subst hwf
                clear hw'
                go_wp2_with fail
                go_roundw
                case rel => exact ⟨k + 1, by omega, by go_num, by rw [hwnH.out], hbA.out _⟩
                case measure => simp [intOf]; omega
        · have hwf : wn = true := by rw [hwsH.out]; rfl
          subst hwf
          go_wp2_with fail
          go_roundw
          case rel => exact ⟨k + 1, by omega, by go_num, by rw [hwnH.out], hbA.out _⟩
          case measure => simp [intOf]; omega
      · have hkl : ¬ (k : Int) < (P.length : Int) := by omega
        obtain rfl : k = P.length := by omega
        have hLr : Hid (RowL wr gl L) := hrlH.out.below hbH.out hglz
        have hNr : Hid (RowI wr gn N) := hrnH.out.below hbH.out hrnH.out.lt
        have hwant : Hid (forb (ints (tableOf P ex)) (seen L (sn : Int) L.length) = wantTo P ex L sn P.length) := forb_stuck hgoodH.out.inv hsl
        have hout : Hid (forb (ints (tableOf P ex)) (seen L (-1) L.length) = false) := forb_out hgoodH.out.inv
        have hPr : Hid (Phs wr wr.heap.size (some ⟨gp, 0, none⟩) P) := (hPX.out.below (hXw.out.mono (by omega))).more (by omega)
        have hCr : Hid (Ints wr wr.heap.size (some ⟨gc, 0, none⟩) (ints (tableOf P ex))) := (hCX.out.below (hXw.out.mono (by omega))).more (by omega)
        have hgr : Hid (∀ i, i < P.length → -1 ≤ (P.getD i pz).g ∧ (P.getD i pz).g ≤ 1000000) := Lib.hid fun i hi => by have := hph.out i hi; omega
        generalize wantTo P ex L sn P.length = wv at hwant ⊢
        have hww : (wv == wv) = true := by cases wv <;> rfl
        have hwr := hXw.out.size
        have hall : Hid (Below w.heap.size w wr) := hbX.out.trans (hXw.out.mono (by omega))
        have hwz := hall.out.size
        go_wp2_with fail
        go_region_held3 (fun w' => Below wr.heap.size wr w' ∧ ∀ b o, b < wr.heap.size → w'.cell? ⟨b, o, none⟩ = wr.cell? ⟨b, o, none⟩) (first | exact held_start _ | assumption | exact held_step (by assumption) (by assumption))
          (first
            | (go_at_call 19; refine (valid9_any (some ⟨gp, 0, none⟩) (some ⟨gc, 0, none⟩) capp capc P ex st (some ⟨gl, 0, none⟩) cl L gr (some ⟨gn, 0, none⟩) cn N wt _ ((hPr.out.below (And.left (show Below wr.heap.size wr _ ∧ _ by with_reducible assumption))).more (And.left (show Below wr.heap.size wr _ ∧ _ by with_reducible assumption)).size) hP1 hP8 ((hCr.out.below (And.left (show Below wr.heap.size wr _ ∧ _ by with_reducible assumption))).more (And.left (show Below wr.heap.size wr _ ∧ _ by with_reducible assumption)).size) hgr.out (((hLr.out.lts hLr.out.lt).below (And.left (show Below wr.heap.size wr _ ∧ _ by with_reducible assumption))).more (And.left (show Below wr.heap.size wr _ ∧ _ by with_reducible assumption)).size) (((hNr.out.ints hNr.out.lt).below (And.left (show Below wr.heap.size wr _ ∧ _ by with_reducible assumption))).more (And.left (show Below wr.heap.size wr _ ∧ _ by with_reducible assumption)).size) hGV.out).mono ?_; rintro e w' ⟨rfl, hb⟩)
            | (go_at_call 20; refine (seen_at (some ⟨gl, 0, none⟩) cl P.length L _ _ hLl.out (((hLr.out.lts hLr.out.lt).below (And.left (show Below wr.heap.size wr _ ∧ _ by with_reducible assumption))).more (And.left (show Below wr.heap.size wr _ ∧ _ by with_reducible assumption)).size) hP8).mono ?_; rintro e w' ⟨gs, rfl, hI, hb⟩)
            | (go_at_call 17; refine (forb_at _ _ _ _ _ _ _ _ _ _ _ hCl.out ((seen_length _ _ _).trans hLl.out) (hCr.out.below (And.left (show Below wr.heap.size wr _ ∧ _ by with_reducible assumption))) (by omega) hI (by omega)).mono ?_; rintro e w' ⟨rfl, rfl⟩; first | rw [hout.out] | rw [hwant.out])
            | (go_at_call 13; refine (awake10_any _).mono ?_; rintro e w' ⟨rfl, hb⟩))
        rename_i hHX
        have hend : Hid (Below w.heap.size w w') := hall.out.trans (hHX.1.mono hwz)
        clear hHX
        go_wp2_with fail
        go_ret
        exact ⟨rfl, hend.out⟩

end Go.Proofs.Ytepodpdcillkmaa
