/- begin of the reference's layer 9 keeps the invariant. -/
import Derived.Test.YtepodpdcillkmaaCtlC
import Derived.StillTailTactics
namespace Go.Proofs.Ytepodpdcillkmaa
open Go.RowKit
set_option linter.unusedVariables false
set_option linter.unusedSimpArgs false

/-- What every control of a made junction keeps. -/
structure Inv (P : List Ph) (ex : Bool) (L : List Lt) (gr : Int) (N : List Int) : Prop where
  len : L.length = P.length
  lt : ∀ i, i < P.length → LtOk (P.getD i pz) (L.getD i lz)
  g0 : 0 ≤ gr
  g1 : gr < groupsTo P P.length
  nx : NextOk P gr N
  cl : ∀ i k, i < P.length → k < P.length → onL L i = true → onL L k = true → conf P ex i k = false
theorem groupsTo_gt (P : List Ph) (i k : Nat) (h : i < k) : (P.getD i pz).g < groupsTo P k := by
  induction k with
  | zero => omega
  | succ k ih =>
    unfold groupsTo
    by_cases hi : i = k
    · subst hi; omega
    · have := ih (by omega)
      omega
theorem onL_set {L : List Lt} {k i : Nat} {x : Lt} (h : i ≠ k) : onL (L.set k x) i = onL L i := by
  unfold onL
  rw [List.getD, List.getElem?_set_ne (by omega)]; rfl
theorem getD_set_ne {L : List Lt} {k i : Nat} {x : Lt} (h : i ≠ k) : (L.set k x).getD i lz = L.getD i lz := by
  rw [List.getD, List.getElem?_set_ne (by omega)]; rfl
theorem getD_set_eq {L : List Lt} {k : Nat} {x : Lt} (h : k < L.length) : (L.set k x).getD k lz = x := by
  simp [List.getD, h]
theorem Inv.start {P : List Ph} {ex : Bool} {L : List Lt} {gr : Int} {N N' : List Int} (h : Inv P ex L gr N) {k : Nat} (hk : k < P.length) (hg : ∀ i, i < P.length → 0 ≤ (P.getD i pz).g)
    (hc : ∀ i, i < P.length → onL L i = true → conf P ex i k = false) (hN : NextOk P (P.getD k pz).g N') : Inv P ex (L.set k ⟨1, 0⟩) (P.getD k pz).g N' := by
  refine ⟨by rw [List.length_set]; exact h.len, fun i hi => ?_, hg k hk, groupsTo_gt P k _ hk, hN, fun i j hi hj h1 h2 => ?_⟩
  · by_cases hik : i = k
    · subst hik
      rw [getD_set_eq (by rw [h.len]; exact hk)]
      exact .inr (.inl ⟨rfl, by decide, by decide⟩)
    · rw [getD_set_ne hik]; exact h.lt i hi
  · by_cases hik : i = k
    · by_cases hjk : j = k
      · subst hik hjk; exact conf_self P ex _
      · subst hik
        rw [onL_set hjk] at h2
        rw [conf_symm]; exact hc j hj h2
    · rw [onL_set hik] at h1
      by_cases hjk : j = k
      · subst hjk; exact hc i hi h1
      · rw [onL_set hjk] at h2
        exact h.cl i j hi hj h1 h2

/-- A control in memory that keeps the invariant. -/
def CtlOk (P : List Ph) (ex : Bool) (B gc : Nat) (wt : Int) (w : World) : Prop := ∃ L gr N, CtlAt w B gc P.length L gr N wt ∧ Inv P ex L gr N
theorem CtlAt.below {w w' : World} {B gc n : Nat} {L : List Lt} {gr : Int} {N : List Int} {wt : Int} (h : CtlAt w B gc n L gr N wt) (hb : Below w.heap.size w w') : CtlAt w' B gc n L gr N wt := by
  obtain ⟨gl, cl, gn, cn, h1, h2, h3, h4, h5, h6, h7, h8⟩ := h
  exact ⟨gl, cl, gn, cn, h1.below hb h1.lt, h2.below hb h2.lt, h3.below hb h3.lt, h4, h5, h6, h7, h8⟩
theorem CtlOk.below {P : List Ph} {ex : Bool} {w w' : World} {B gc : Nat} {wt : Int} (h : CtlOk P ex B gc wt w) (hb : Below w.heap.size w w') : CtlOk P ex B gc wt w' := by
  obtain ⟨L, gr, N, h1, h2⟩ := h
  exact ⟨L, gr, N, h1.below hb, h2⟩
theorem after_at (A A2 : Option Addr) (cap n2 cap2 : Nat) (P : List Ph) (s r g p : Int) (B : Nat) (w : World) (hA : Phs w B A P) (hB : B ≤ w.heap.size) (hm : P.length ≤ 1000) :
    Calls Try.prog 68 #[.agg #[.slice A P.length cap, .slice A2 n2 cap2, .int .i64 s], .int .i64 r, .int .i64 g, .int .i64 p] w fun e w' => ∃ v, e = .returned (.int .i64 v) ∧ AfterOk P r g v ∧ Below w.heap.size w w' :=
  after_any A A2 cap n2 cap2 P s r g p w (hA.more hB) hm

/-- The condition for the region that stores the next phase of a ring: all but block gn stands, which holds next phases. -/
structure KS (P : List Ph) (g : Int) (gn B : Nat) (W w : World) : Prop where
  blk : ∀ b, b < W.heap.size → b ≠ gn → w.heap[b]? = W.heap[b]?
  siz : W.heap.size ≤ w.heap.size
  row : ∃ N, RowI w gn N ∧ NextOk P g N
  bel : Below B W w
theorem cell_blk {W w : World} {b : Nat} (h : w.heap[b]? = W.heap[b]?) (o : Nat) : w.cell? ⟨b, o, none⟩ = W.cell? ⟨b, o, none⟩ := by
  simp [World.cell?, h]
theorem KS.cells {P : List Ph} {g : Int} {gn B : Nat} {W w : World} (h : KS P g gn B W w) : KS P g gn B W w ∧ ∀ b o, b < W.heap.size → b ≠ gn → w.cell? ⟨b, o, none⟩ = W.cell? ⟨b, o, none⟩ :=
  ⟨h, fun b o h1 h2 => cell_blk (h.blk b h1 h2) o⟩
theorem ks_start {P : List Ph} {g : Int} {gn B : Nat} {W : World} {N : List Int} (h : RowI W gn N) (hN : NextOk P g N) : KS P g gn B W W.drew ∧ ∀ b o, b < W.heap.size → b ≠ gn → W.drew.cell? ⟨b, o, none⟩ = W.cell? ⟨b, o, none⟩ :=
  KS.cells ⟨fun _ _ _ => rfl, Nat.le_refl _, ⟨N, h, hN⟩, (Below.refl _ _).drew⟩
theorem ks_call {P : List Ph} {g : Int} {gn B : Nat} {W w w' : World} (h : KS P g gn B W w ∧ ∀ b o, b < W.heap.size → b ≠ gn → w.cell? ⟨b, o, none⟩ = W.cell? ⟨b, o, none⟩) (hb : Below w.heap.size w w') (hB : B ≤ W.heap.size) : KS P g gn B W w' ∧ ∀ b o, b < W.heap.size → b ≠ gn → w'.cell? ⟨b, o, none⟩ = W.cell? ⟨b, o, none⟩ := by
  obtain ⟨⟨h1, h2, ⟨N, h3, h4⟩, h5⟩, _⟩ := h
  exact KS.cells ⟨fun b hb1 hb2 => (hb.block b (by omega)).trans (h1 b hb1 hb2), by have := hb.size; omega, ⟨N, h3.below hb h3.lt, h4⟩, h5.trans (hb.mono (by omega))⟩
theorem nextOk_set {P : List Ph} {g v : Int} {N : List Int} {r : Nat} (h : NextOk P g N) (hr : r < 2) (hv : AfterOk P r g v) : NextOk P g (N.set r v) := by
  obtain ⟨h1, h2, h3⟩ := h
  match N, h1 with
  | [a, b], _ =>
    match r, hr with
    | 0, _ => exact ⟨rfl, hv, h3⟩
    | 1, _ => exact ⟨rfl, h2, hv⟩
theorem ks_store {P : List Ph} {g v : Int} {gn B r : Nat} {W w : World} (h : KS P g gn B W w ∧ ∀ b o, b < W.heap.size → b ≠ gn → w.cell? ⟨b, o, none⟩ = W.cell? ⟨b, o, none⟩) (hv : AfterOk P r g v) (hr : r < 2) (hB : B ≤ gn) : KS P g gn B W (w.setCell ⟨gn, r, none⟩ (.int .i64 v)) ∧ ∀ b o, b < W.heap.size → b ≠ gn → (w.setCell ⟨gn, r, none⟩ (.int .i64 v)).cell? ⟨b, o, none⟩ = W.cell? ⟨b, o, none⟩ := by
  obtain ⟨⟨h1, h2, ⟨N, h3, h4⟩, h5⟩, _⟩ := h
  exact KS.cells ⟨fun b hb1 hb2 => (Below.heap_setCell w _ _ b hb2).trans (h1 b hb1 hb2), by simpa using h2, ⟨_, h3.put r v, nextOk_set h4 hr hv⟩, h5.setCell hB _⟩
theorem ks_cell {P : List Ph} {g : Int} {gn B r : Nat} {W w : World} (h : KS P g gn B W w ∧ ∀ b o, b < W.heap.size → b ≠ gn → w.cell? ⟨b, o, none⟩ = W.cell? ⟨b, o, none⟩) (hr : r < 2) : ∃ x, w.cell? ⟨gn, r, none⟩ = some (.int .i64 x) ∧ w.frozen? ⟨gn, r, none⟩ = false := by
  obtain ⟨⟨h1, h2, ⟨N, h3, h4⟩, h5⟩, _⟩ := h
  exact ⟨_, h3.cell (by rw [h4.1]; exact hr), h3.frozen r⟩

/-- Between the group and the next phase of the ring. -/
def BegMid (P : List Ph) (g : Int) (gl cl gc : Nat) (L : List Lt) (B : Nat) (wt : Int) (w wx : World) : Prop :=
  ∃ gn cn N, Box wx gc 35 #[.slice (some ⟨gl, 0, none⟩) P.length cl, .int .i64 g, .slice (some ⟨gn, 0, none⟩) 2 cn, .int .i64 wt] ∧ RowI wx gn N ∧ NextOk P g N ∧ B ≤ gn ∧ 2 ≤ cn ∧ RowL wx gl L ∧ Below B w wx
def BeginPost (P : List Ph) (ex : Bool) (B gc : Nat) (wt : Int) (w : World) (e : Ending) (w' : World) : Prop := e = .returned (.tuple #[]) ∧ CtlOk P ex B gc wt w' ∧ Below B w w'

set_option maxRecDepth 100000 in
set_option maxHeartbeats 4000000 in
theorem begin_any (A A2 : Option Addr) (cap cap2 : Nat) (P : List Ph) (ex : Bool) (s : Int) (B gc : Nat) (wt : Int) (q : Nat) (w : World)
    (hA : Phs w B A P) (hm : P.length ≤ 8) (hA2 : Ints w B A2 (ints (tableOf P ex))) (hq : q < P.length) (hr : ∀ i, i < P.length → 0 ≤ (P.getD i pz).r ∧ (P.getD i pz).r < 2) (hg : ∀ i, i < P.length → 0 ≤ (P.getD i pz).g)
    (hc : CtlOk P ex B gc wt w) :
    Calls Try.prog 67 #[.agg #[.slice A P.length cap, .slice A2 P.length cap2, .int .i64 s], .pointer (some ⟨gc, 0, none⟩), .int .i64 q] w
      fun e w' => BeginPost P ex B gc wt w e w' := by
  obtain ⟨L, gr, N, ⟨gl, cl, gn, cn, hc1, hc2, hc3, hB1, hB2, hB3, hle1, hle2⟩, hinv⟩ := hc
  have HA := Lib.hid hA
  have HA2 := Lib.hid hA2
  have HC := Lib.hid hc1
  have HL := Lib.hid hc2
  have HN := Lib.hid hc3
  have hI := Lib.hid hinv
  have hrH := Lib.hid hr
  have hgH := Lib.hid hg
  have hCl : Hid ((ints (tableOf P ex)).length = P.length) := Lib.hid (by rw [ints_length, tableOf_length])
  have hne1 : Hid (gc ≠ gl) := hc1.differ hc2.choose_spec.1 (by decide)
  have hne2 : Hid (gc ≠ gn) := hc1.differ hc3.choose_spec.1 (by decide)
  have hne3 : Hid (gl ≠ gn) := hc2.choose_spec.1.differ hc3.choose_spec.1 (by decide)
  have hgcz := hc1.lt
  have hBz : B ≤ w.heap.size := by omega
  have hglz := hc2.lt
  have hgnz := hc3.lt
  have g0 := hc1.cell 0
  have g1 := hc1.cell 1
  have g2 := hc1.cell 2
  have g3 := hc1.cell 3
  simp at g0 g1 g2 g3
  have hql : (q : Int) < (P.length : Int) := by omega
  have hLl := Lib.hid hinv.len
  clear hA hA2 hc1 hc2 hc3 hinv hr hg
  go_enter Try.func67, Try.ntmps67
  go_wp2_with fail
  have hW : Below w.heap.size w (w.alloc (.cells #[.slice A P.length cap, .slice A2 P.length cap2, .int .i64 s] 26)) := (Below.refl _ _).alloc (Nat.le_refl _) _
  have hBJ : Hid (Box (w.alloc (.cells #[.slice A P.length cap, .slice A2 P.length cap2, .int .i64 s] 26)) w.heap.size 26 #[.slice A P.length cap, .slice A2 P.length cap2, .int .i64 s]) := Box.new _ _ _
  have hWz : (w.alloc (.cells #[.slice A P.length cap, .slice A2 P.length cap2, .int .i64 s] 26)).heap.size = w.heap.size + 1 := World.size_alloc _ _
  generalize (w.alloc (.cells #[.slice A P.length cap, .slice A2 P.length cap2, .int .i64 s] 26)) = W at hW hBJ hWz ⊢
  have hWH := Lib.hid hW
  have hWz1 : w.heap.size + 1 ≤ W.heap.size := by omega
  clear hW hWz g0 g1 g2 g3
  go_loopw [14] (fun v14 wr => ∃ k : Nat, k ≤ P.length ∧ v14 = .int .i64 k ∧ (∀ i, i < k → onL L i = true → conf P ex i q = false) ∧ Below W.heap.size W wr) (fun v14 _ => P.length - (intOf v14).toNat)
  case atStart => exact ⟨0, by omega, rfl, fun i hi => by omega, Below.refl _ _⟩
  case round =>
    obtain ⟨k, hk, rfl, hno, hb⟩ := hrel
    have hbH := Lib.hid hb
    have hzs := hb.size
    have hnoH := Lib.hid hno
    clear hb hno
    have hbw : Hid (Below w.heap.size w wr) := hWH.out.trans (hbH.out.mono (by omega))
    by_cases hlt : k < P.length
    · have hkl : (k : Int) < (P.length : Int) := by omega
      have hLr := HL.out.below hbw.out hglz
      have l0 := hLr.cell0 (i := k) (by rw [hLl.out]; exact hlt)
      have l1 := hLr.cell1 (i := k) (by rw [hLl.out]; exact hlt)
      clear hLr
      have hon : Hid (onL L k = ((L.getD k lz).m != 0)) := rfl
      generalize (L.getD k lz).m = lm at l0 hon
      generalize (L.getD k lz).t = lt at l1
      have hbx := hBJ.out.below hbH.out (by omega)
      have j1 := hbx.cell 1
      have jz := hbx.lt
      simp at j1
      clear hbx
      have hglr : gl < wr.heap.size := by omega
      by_cases h0 : lm = 0
      · have hb0 : (lm != 0) = false := by simp [h0]
        clear h0
        go_wp2_with fail
        go_roundw
        case rel => exact ⟨k + 1, by omega, by go_num, fun i hi ho => by
          by_cases hik : i = k
          · subst hik; rw [hon.out] at ho; rw [hb0] at ho; cases ho
          · exact hnoH.out i (by omega) ho, hbH.out.alloc (by omega) _⟩
        case measure => simp [intOf]; omega
      · have hb0 : (lm != 0) = true := by simp [h0]
        clear h0
        have hC2 : Hid (∀ o, Ints (wr.alloc o) w.heap.size A2 (ints (tableOf P ex))) := Lib.hid fun o => ((HA2.out.more hBz).below hbw.out).below ((Below.refl _ _).alloc (by omega) _)
        have hbA : Hid (∀ o, Below W.heap.size W (wr.alloc o)) := Lib.hid fun o => hbH.out.alloc (by omega) _
        go_wp2_with fail
        refine (rconf_at _ _ _ _ (ints (tableOf P ex)) k q _ hCl.out (hC2.out _) (by omega)).mono ?_; rintro e w' ⟨rfl, rfl⟩
        rw [cf_table P ex k q hlt hq]
        cases hcf : conf P ex k q
        · have hcfH := Lib.hid hcf
          clear hcf
          go_wp2_with fail
          go_roundw
          case rel => exact ⟨k + 1, by omega, by go_num, fun i hi ho => by
            by_cases hik : i = k
            · subst hik; exact hcfH.out
            · exact hnoH.out i (by omega) ho, hbA.out _⟩
          case measure => simp [intOf]; omega
        · go_wp2_with fail
          refine bodyPost_ret (results_none rfl _ _ _) rfl ?_
          have hall := hWH.out.trans ((hbA.out (.cells #[.int .i64 lm, .int .i64 lt] 38)).mono (by omega))
          exact ⟨rfl, ⟨L, gr, N, (show CtlAt w B gc P.length L gr N wt from ⟨gl, cl, gn, cn, HC.out, HL.out, HN.out, hB1, hB2, hB3, hle1, hle2⟩).below hall, hI.out⟩, hall.mono (by omega)⟩
    · have hkl : ¬ (k : Int) < (P.length : Int) := by omega
      obtain rfl : k = P.length := by omega
      obtain ⟨b, off, rfl, hbl, hat⟩ := (HA.out.below (hbw.out.mono hBz)) q hq
      have c0 := hat.c0
      have c1 := hat.c1
      have c2 := hat.c2
      have c3 := hat.c3
      have c4 := hat.c4
      have c5 := hat.c5
      have c6 := hat.c6
      have c7 := hat.c7
      clear hat
      have hph : Hid (∃ ph, ph = P.getD q pz) := ⟨_, rfl⟩
      obtain ⟨ph, hphe⟩ := hph.out
      have hpe := Lib.hid hphe
      rw [← hphe] at c0 c1 c2 c3 c4 c5 c6 c7
      have hrq := hrH.out q hq
      rw [← hphe] at hrq
      obtain ⟨hrq0, hrq1⟩ := hrq
      clear hphe hph
      have hbx := hBJ.out.below hbH.out (by omega)
      have j0 := hbx.cell 0
      have j1 := hbx.cell 1
      have j2 := hbx.cell 2
      have jz := hbx.lt
      simp at j0 j1 j2
      have hCr := HC.out.below hbw.out hgcz
      have d0 := hCr.cell 0
      have d1 := hCr.cell 1
      have d2 := hCr.cell 2
      have d3 := hCr.cell 3
      simp at d0 d1 d2 d3
      have hLr := HL.out.below hbw.out hglz
      have f0 := hLr.frozen (q * 2)
      have f1 := hLr.frozen (q * 2 + 1)
      have l0 := hLr.cell0 (i := q) (by rw [hLl.out]; exact hq)
      have l1 := hLr.cell1 (i := q) (by rw [hLl.out]; exact hq)
      have hgcr := hCr.lt
      have hglr := hLr.lt
      have hbz : b < wr.heap.size := by omega
      generalize (L.getD q lz).m = lm at l0
      generalize (L.getD q lz).t = lt at l1
      clear hbx hCr hLr
      go_upto_region 8 with fail
      have hwX : Hid (Below B w (((wr.setCell ⟨gl, q * 2, none⟩ (.int .i64 1)).setCell ⟨gl, q * 2 + 1, none⟩ (.int .i64 0)).alloc (.cells #[.int .i64 ph.r, .int .i64 ph.g, .int .i64 ph.mn, .int .i64 ph.mx, .int .i64 ph.ye, .int .i64 ph.re, .int .i64 ph.wa, .int .i64 ph.cl] 55))) := Lib.hid ((((hbw.out.mono hBz).setCell hB2 _).setCell hB2 _).alloc (by simp; omega) _)
      have hXx : Hid (Box (((wr.setCell ⟨gl, q * 2, none⟩ (.int .i64 1)).setCell ⟨gl, q * 2 + 1, none⟩ (.int .i64 0)).alloc (.cells #[.int .i64 ph.r, .int .i64 ph.g, .int .i64 ph.mn, .int .i64 ph.mx, .int .i64 ph.ye, .int .i64 ph.re, .int .i64 ph.wa, .int .i64 ph.cl] 55)) wr.heap.size 55 #[.int .i64 ph.r, .int .i64 ph.g, .int .i64 ph.mn, .int .i64 ph.mx, .int .i64 ph.ye, .int .i64 ph.re, .int .i64 ph.wa, .int .i64 ph.cl]) := by
        have h := Box.new ((wr.setCell ⟨gl, q * 2, none⟩ (.int .i64 1)).setCell ⟨gl, q * 2 + 1, none⟩ (.int .i64 0)) 55 #[.int .i64 ph.r, .int .i64 ph.g, .int .i64 ph.mn, .int .i64 ph.mx, .int .i64 ph.ye, .int .i64 ph.re, .int .i64 ph.wa, .int .i64 ph.cl]
        simp only [World.size_setCell] at h
        exact h
      have hXC : Hid (Box (((wr.setCell ⟨gl, q * 2, none⟩ (.int .i64 1)).setCell ⟨gl, q * 2 + 1, none⟩ (.int .i64 0)).alloc (.cells #[.int .i64 ph.r, .int .i64 ph.g, .int .i64 ph.mn, .int .i64 ph.mx, .int .i64 ph.ye, .int .i64 ph.re, .int .i64 ph.wa, .int .i64 ph.cl] 55)) gc 35 #[.slice (some ⟨gl, 0, none⟩) P.length cl, .int .i64 gr, .slice (some ⟨gn, 0, none⟩) 2 cn, .int .i64 wt]) := (((HC.out.below hbw.out hgcz).far hne1.out _).far hne1.out _).alloc _
      have hXL : Hid (RowL (((wr.setCell ⟨gl, q * 2, none⟩ (.int .i64 1)).setCell ⟨gl, q * 2 + 1, none⟩ (.int .i64 0)).alloc (.cells #[.int .i64 ph.r, .int .i64 ph.g, .int .i64 ph.mn, .int .i64 ph.mx, .int .i64 ph.ye, .int .i64 ph.re, .int .i64 ph.wa, .int .i64 ph.cl] 55)) gl (L.set q ⟨1, 0⟩)) := ((HL.out.below hbw.out hglz).put q (by rw [hLl.out]; exact hq) 1 0).below ((Below.refl _ _).alloc (Nat.le_refl _) _) (by simp; omega)
      have hXN : Hid (RowI (((wr.setCell ⟨gl, q * 2, none⟩ (.int .i64 1)).setCell ⟨gl, q * 2 + 1, none⟩ (.int .i64 0)).alloc (.cells #[.int .i64 ph.r, .int .i64 ph.g, .int .i64 ph.mn, .int .i64 ph.mx, .int .i64 ph.ye, .int .i64 ph.re, .int .i64 ph.wa, .int .i64 ph.cl] 55)) gn N) := (((HN.out.below hbw.out hgnz).far hne3.out.symm _).far hne3.out.symm _).below ((Below.refl _ _).alloc (Nat.le_refl _) _) (by simp; omega)
      have hXJ : Hid (Box (((wr.setCell ⟨gl, q * 2, none⟩ (.int .i64 1)).setCell ⟨gl, q * 2 + 1, none⟩ (.int .i64 0)).alloc (.cells #[.int .i64 ph.r, .int .i64 ph.g, .int .i64 ph.mn, .int .i64 ph.mx, .int .i64 ph.ye, .int .i64 ph.re, .int .i64 ph.wa, .int .i64 ph.cl] 55)) w.heap.size 26 #[.slice (some ⟨b, off, none⟩) P.length cap, .slice A2 P.length cap2, .int .i64 s]) := (((hBJ.out.below hbH.out (by omega)).far (by dsimp only; omega) _).far (by dsimp only; omega) _).alloc _
      have hzX : (((wr.setCell ⟨gl, q * 2, none⟩ (.int .i64 1)).setCell ⟨gl, q * 2 + 1, none⟩ (.int .i64 0)).alloc (.cells #[.int .i64 ph.r, .int .i64 ph.g, .int .i64 ph.mn, .int .i64 ph.mx, .int .i64 ph.ye, .int .i64 ph.re, .int .i64 ph.wa, .int .i64 ph.cl] 55)).heap.size = wr.heap.size + 1 := by simp
      clear f0 f1 l0 l1 c0 c1 c2 c3 c4 c5 c6 c7 j0 j1 j2 d0 d1 d2 d3
      generalize (((wr.setCell ⟨gl, q * 2, none⟩ (.int .i64 1)).setCell ⟨gl, q * 2 + 1, none⟩ (.int .i64 0)).alloc (.cells #[.int .i64 ph.r, .int .i64 ph.g, .int .i64 ph.mn, .int .i64 ph.mx, .int .i64 ph.ye, .int .i64 ph.re, .int .i64 ph.wa, .int .i64 ph.cl] 55)) = X at hwX hXx hXC hXL hXN hXJ hzX ⊢
      have hzX1 : wr.heap.size < X.heap.size := by omega
      clear hzX
      obtain ⟨xb, hxb⟩ : ∃ x, x = wr.heap.size := ⟨_, rfl⟩
      rw [← hxb] at hXx hzX1 ⊢
      have hxw : w.heap.size < xb := by omega
      clear hxb
      have d1 := hXC.out.cell 1
      have x1 := hXx.out.cell 1
      have dz := hXC.out.lt
      simp at d1 x1
      go_quiet (fail)
      have hwY : Hid (Below B w (X.drewN nq)) := below_drewN hwX.out nq
      have hYx : Hid (Box (X.drewN nq) xb 55 #[.int .i64 ph.r, .int .i64 ph.g, .int .i64 ph.mn, .int .i64 ph.mx, .int .i64 ph.ye, .int .i64 ph.re, .int .i64 ph.wa, .int .i64 ph.cl]) := hXx.out
      have hYC : Hid (Box (X.drewN nq) gc 35 #[.slice (some ⟨gl, 0, none⟩) P.length cl, .int .i64 gr, .slice (some ⟨gn, 0, none⟩) 2 cn, .int .i64 wt]) := hXC.out
      have hYL : Hid (RowL (X.drewN nq) gl (L.set q ⟨1, 0⟩)) := hXL.out
      have hYN : Hid (RowI (X.drewN nq) gn N) := hXN.out
      have hYJ : Hid (Box (X.drewN nq) w.heap.size 26 #[.slice (some ⟨b, off, none⟩) P.length cap, .slice A2 P.length cap2, .int .i64 s]) := hXJ.out
      have hzY : xb < (X.drewN nq).heap.size := hzX1
      clear hwX hXx hXC hXL hXN hXJ hzX1 d1 x1 dz
      generalize X.drewN nq = Y at hwY hYx hYC hYL hYN hYJ hzY ⊢
      go_upto_if 48 with fail
      have hBY : B ≤ Y.heap.size := by have := hwY.out.size; omega
      have hPY : Hid (Phs Y Y.heap.size (some ⟨b, off, none⟩) P) := (HA.out.below hwY.out).more hBY
      have hgd : Hid (∀ N', NextOk P ph.g N' → Inv P ex (L.set q ⟨1, 0⟩) ph.g N') := Lib.hid fun N' h => by
        rw [hpe.out] at h ⊢
        exact hI.out.start hq hgH.out hnoH.out h
      go_cut [] (fun wx => BegMid P ph.g gl cl gc (L.set q ⟨1, 0⟩) B wt w wx ∧ Box wx xb 55 #[.int .i64 ph.r, .int .i64 ph.g, .int .i64 ph.mn, .int .i64 ph.mx, .int .i64 ph.ye, .int .i64 ph.re, .int .i64 ph.wa, .int .i64 ph.cl] ∧ Box wx w.heap.size 26 #[.slice (some ⟨b, off, none⟩) P.length cap, .slice A2 P.length cap2, .int .i64 s])
      case first =>
        have y0 := hYx.out.cell 0
        have y1 := hYx.out.cell 1
        have j0 := hYJ.out.cell 0
        have j1 := hYJ.out.cell 1
        have j2 := hYJ.out.cell 2
        have jz := hYJ.out.lt
        simp at y0 y1 j0 j1 j2
        by_cases hgg : gr = ph.g
        · have hgb : (gr != ph.g) = false := by simp [hgg]
          have hgH := Lib.hid hgg
          clear hgg
          go_wp2_with fail
          go_meet
          refine ⟨⟨gn, cn, N, ?_, hYN.out, by rw [← hgH.out]; exact hI.out.nx, hB3, hle2, hYL.out, hwY.out⟩, hYx.out, hYJ.out⟩
          rw [← hgH.out]; exact hYC.out
        · have hgb : (gr != ph.g) = true := by simp [hgg]
          clear hgg
          go_wp2_with fail
          refine (enter_any _ _ _ _ _ P s ph.g gc P.length gl cl cn _ 2 gr wt Y hPY.out (by omega) hYC.out).mono ?_; rintro e w5 ⟨rfl, gn2, cn2, N2, h1, h2, h3, h4, h5, h6⟩
          have h1H := Lib.hid h1
          have h2H := Lib.hid h2
          have h3H := Lib.hid h3
          have h6H := Lib.hid h6
          clear h1 h2 h3 h6
          go_wp2_with fail
          go_meet
          have hgg' : ∀ x, x ≠ gc → some x ≠ some gc := fun x hx e => hx (by injection e)
          exact ⟨⟨gn2, cn2, N2, h1H.out, h2H.out, h3H.out, by omega, h5, hYL.out.grown h6H.out (hgg' _ hne1.out.symm), hwY.out.grown h6H.out hBY (fun q hq => by injection hq with hq; omega)⟩, hYx.out.grown h6H.out (hgg' _ (by omega)), hYJ.out.grown h6H.out (hgg' _ (by omega))⟩
      case rest =>
        obtain ⟨⟨gn', cn', N', h1, h2, h3, h4, h5, h6, h7⟩, hx, hJ⟩ := hcut
        have h1H := Lib.hid h1
        have h2H := Lib.hid h2
        have h3H := Lib.hid h3
        have h6H := Lib.hid h6
        have h7H := Lib.hid h7
        have y0 := hx.cell 0
        have y1 := hx.cell 1
        have yz := hx.lt
        have j0 := hJ.cell 0
        have j1 := hJ.cell 1
        have j2 := hJ.cell 2
        have jz' := hJ.lt
        have d2 := h1.cell 2
        have dz := h1.lt
        have nz := h2.lt
        simp at y0 y1 j0 j1 j2 d2
        obtain ⟨rn, hrn⟩ : ∃ rn : Nat, ph.r = (rn : Int) := ⟨ph.r.toNat, by omega⟩
        rw [hrn] at y0 hrq1
        have hrnH := Lib.hid hrn
        have hrn2 : rn < 2 := by omega
        have hPB : Hid (Phs wc B (some ⟨b, off, none⟩) P) := HA.out.below h7
        have hBc : B ≤ wc.heap.size := by have := h7.size; omega
        have hgnx : xb ≠ gn' := fun e => (hx.differ h2.choose_spec.1 (by decide)) e
        have hgnj : w.heap.size ≠ gn' := fun e => (hJ.differ h2.choose_spec.1 (by decide)) e
        have hgnc : gc ≠ gn' := fun e => (h1.differ h2.choose_spec.1 (by decide)) e
        have hgnl : Hid (gl ≠ gn') := Lib.hid fun e => (h6.choose_spec.1.differ h2.choose_spec.1 (by decide)) e
        clear hx hJ h1 h2 h3 h6 h7 hrn hrq0
        go_upto_region 10 with fail
        go_region_held3 (fun w' => KS P ph.g gn' B wc w' ∧ ∀ b o, b < wc.heap.size → b ≠ gn' → w'.cell? ⟨b, o, none⟩ = wc.cell? ⟨b, o, none⟩) (first | exact ks_start h2H.out h3H.out | exact ks_call (by assumption) (by assumption) hBc | exact ks_store (by assumption) (by assumption) hrn2 h4)
          (first
            | (go_at_call 68; refine (after_at _ _ _ _ _ P s rn ph.g q B _ (hPB.out.below (KS.bel (And.left (show KS P ph.g gn' B wc _ ∧ _ by with_reducible assumption)))) (Nat.le_trans hBc (KS.siz (And.left (show KS P ph.g gn' B wc _ ∧ _ by with_reducible assumption)))) (by omega)).mono ?_; rintro e w' ⟨v, rfl, hv, hb⟩; obtain ⟨nv, hnc, hnf⟩ := ks_cell (ks_call (show KS P ph.g gn' B wc _ ∧ _ by with_reducible assumption) hb hBc) hrn2))
        have hS : KS P ph.g gn' B wc (w'.setCell ⟨gn', rn, none⟩ (.int .i64 v)) := And.left (by with_reducible assumption)
        obtain ⟨k1, k2, ⟨NF, k3, k4⟩, k5⟩ := hS
        have k1H := Lib.hid k1
        have k3H := Lib.hid k3
        have k4H := Lib.hid k4
        have k5H := Lib.hid k5
        clear k1 k3 k4 k5
        have hRL : Hid (RowL (w'.setCell ⟨gn', rn, none⟩ (.int .i64 v)) gl (L.set q ⟨1, 0⟩)) := by
          obtain ⟨cur, hb1, hb2⟩ := h6H.out
          exact ⟨cur, (k1H.out gl hb1.lt hgnl.out).trans hb1, hb2⟩
        have hend : Hid (BeginPost P ex B gc wt w (.returned (.tuple #[])) (w'.setCell ⟨gn', rn, none⟩ (.int .i64 v))) :=
          ⟨rfl, ⟨_, _, NF, ⟨gl, cl, gn', cn', (k1H.out gc dz hgnc).trans h1H.out, hRL.out, k3H.out, hB1, hB2, h4, hle1, h5⟩, hgd.out NF k4H.out⟩, h7H.out.trans k5H.out⟩
        go_wp2_with fail
        refine bodyPost_end (results_none rfl _ _ _) rfl hend.out

end Go.Proofs.Ytepodpdcillkmaa
