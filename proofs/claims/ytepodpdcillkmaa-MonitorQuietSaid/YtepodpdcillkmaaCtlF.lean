/- Step of the reference's layer 9 keeps the invariant. -/
import Derived.Test.YtepodpdcillkmaaCtlE
import Derived.Deep.RegionWith
namespace Go.Proofs.Ytepodpdcillkmaa
open Go.RowKit
set_option linter.unusedVariables false
set_option linter.unusedSimpArgs false

/-- A control that a step may start from. -/
structure Good (P : List Ph) (ex : Bool) (st : Int) (L : List Lt) (gr : Int) (N : List Int) (wt : Int) : Prop where
  inv : Inv P ex L gr N
  w0 : 0 ≤ wt
  w1 : wt ≤ st
  red : wt = 0 ∨ ∀ i, onL L i = false
def StepPost (P : List Ph) (ex : Bool) (st : Int) (w : World) (e : Ending) (w' : World) : Prop := ∃ L gr N wt, CopyPost P.length L gr N wt w e w' ∧ Good P ex st L gr N wt

/-- The lights on the way: each fits its phase, and none is on that was red. -/
structure Part (P : List Ph) (L L' : List Lt) : Prop where
  len : L'.length = P.length
  lt : ∀ i, i < P.length → LtOk (P.getD i pz) (L'.getD i lz)
  on : ∀ i, onL L' i = true → onL L i = true
theorem Part.inv {P : List Ph} {ex : Bool} {L L' : List Lt} {gr : Int} {N : List Int} (h : Part P L L') (k : Inv P ex L gr N) : Inv P ex L' gr N :=
  ⟨h.len, h.lt, k.g0, k.g1, k.nx, fun i j hi hj h1 h2 => k.cl i j hi hj (h.on i h1) (h.on j h2)⟩
theorem Part.set {P : List Ph} {L L' : List Lt} (h : Part P L L') {k : Nat} (hk : k < P.length) {m t : Int} (ho : LtOk (P.getD k pz) ⟨m, t⟩) (hn : m ≠ 0 → (L.getD k lz).m ≠ 0) : Part P L (L'.set k ⟨m, t⟩) := by
  refine ⟨by rw [List.length_set]; exact h.len, fun i hi => ?_, fun i hi => ?_⟩
  · by_cases hik : i = k
    · subst hik; rw [getD_set_eq (by rw [h.len]; exact hk)]; exact ho
    · rw [getD_set_ne hik]; exact h.lt i hi
  · by_cases hik : i = k
    · subst hik
      unfold onL at hi ⊢
      rw [getD_set_eq (by rw [h.len]; exact hk)] at hi
      have : m ≠ 0 := by simpa using hi
      simpa using hn this
    · rw [onL_set hik] at hi; exact h.on i hi

/-- The condition for the region that stores a light. -/
structure LS (P : List Ph) (L : List Lt) (gl B : Nat) (W w : World) : Prop where
  blk : ∀ b, b < W.heap.size → b ≠ gl → w.heap[b]? = W.heap[b]?
  siz : W.heap.size ≤ w.heap.size
  row : ∃ L', RowL w gl L' ∧ Part P L L'
  bel : Below B W w
section
variable {P : List Ph} {L : List Lt} {gl B : Nat} {W w w' : World}
theorem LS.cells (h : LS P L gl B W w) : LS P L gl B W w ∧ ∀ b o, b < W.heap.size → b ≠ gl → w.cell? ⟨b, o, none⟩ = W.cell? ⟨b, o, none⟩ :=
  ⟨h, fun b o h1 h2 => cell_blk (h.blk b h1 h2) o⟩
theorem ls_start {L' : List Lt} (h : RowL W gl L') (hN : Part P L L') : LS P L gl B W W.drew ∧ ∀ b o, b < W.heap.size → b ≠ gl → W.drew.cell? ⟨b, o, none⟩ = W.cell? ⟨b, o, none⟩ :=
  LS.cells ⟨fun _ _ _ => rfl, Nat.le_refl _, ⟨L', h, hN⟩, (Below.refl _ _).drew⟩
theorem ls_call (h : LS P L gl B W w ∧ ∀ b o, b < W.heap.size → b ≠ gl → w.cell? ⟨b, o, none⟩ = W.cell? ⟨b, o, none⟩) (hb : Below w.heap.size w w') (hB : B ≤ W.heap.size) : LS P L gl B W w' ∧ ∀ b o, b < W.heap.size → b ≠ gl → w'.cell? ⟨b, o, none⟩ = W.cell? ⟨b, o, none⟩ := by
  obtain ⟨⟨h1, h2, ⟨N, h3, h4⟩, h5⟩, _⟩ := h
  exact LS.cells ⟨fun b hb1 hb2 => (hb.block b (by omega)).trans (h1 b hb1 hb2), by have := hb.size; omega, ⟨N, h3.below hb h3.lt, h4⟩, h5.trans (hb.mono (by omega))⟩
theorem ls_store {k : Nat} {m t : Int} (h : LS P L gl B W w ∧ ∀ b o, b < W.heap.size → b ≠ gl → w.cell? ⟨b, o, none⟩ = W.cell? ⟨b, o, none⟩) (hk : k < P.length) (ho : LtOk (P.getD k pz) ⟨m, t⟩) (hn : m ≠ 0 → (L.getD k lz).m ≠ 0) (hB : B ≤ gl) :
    LS P L gl B W ((w.setCell ⟨gl, k * 2, none⟩ (.int .i64 m)).setCell ⟨gl, k * 2 + 1, none⟩ (.int .i64 t)) ∧ ∀ b o, b < W.heap.size → b ≠ gl → ((w.setCell ⟨gl, k * 2, none⟩ (.int .i64 m)).setCell ⟨gl, k * 2 + 1, none⟩ (.int .i64 t)).cell? ⟨b, o, none⟩ = W.cell? ⟨b, o, none⟩ := by
  obtain ⟨⟨h1, h2, ⟨N, h3, h4⟩, h5⟩, _⟩ := h
  exact LS.cells ⟨fun b hb1 hb2 => ((Below.heap_setCell _ _ _ b hb2).trans (Below.heap_setCell w _ _ b hb2)).trans (h1 b hb1 hb2), by simpa using h2, ⟨_, h3.put k (by rw [h4.len]; exact hk) m t, h4.set hk ho hn⟩, (h5.setCell hB _).setCell hB _⟩
theorem ls_cell {k : Nat} (h : LS P L gl B W w ∧ ∀ b o, b < W.heap.size → b ≠ gl → w.cell? ⟨b, o, none⟩ = W.cell? ⟨b, o, none⟩) (hk : k < P.length) : ∃ x y, w.cell? ⟨gl, k * 2, none⟩ = some (.int .i64 x) ∧ w.cell? ⟨gl, k * 2 + 1, none⟩ = some (.int .i64 y) ∧ w.frozen? ⟨gl, k * 2, none⟩ = false ∧ w.frozen? ⟨gl, k * 2 + 1, none⟩ = false ∧ gl < w.heap.size := by
  obtain ⟨⟨h1, h2, ⟨N, h3, h4⟩, h5⟩, _⟩ := h
  exact ⟨_, _, h3.cell0 (by rw [h4.len]; exact hk), h3.cell1 (by rw [h4.len]; exact hk), h3.frozen _, h3.frozen _, h3.lt⟩
end

/-- The control's variable is handed back through the result's. -/
theorem step_fin {w wr : World} {P : List Ph} {ex : Bool} {st : Int} {B gc gx : Nat} {L : List Lt} {gr : Int} {N : List Int} {wt : Int} {x0 x1 x2 x3 : Value} {gl cl gn cn : Nat} (hC : Box wr gc 35 #[.slice (some ⟨gl, 0, none⟩) P.length cl, .int .i64 gr, .slice (some ⟨gn, 0, none⟩) 2 cn, .int .i64 wt])
    (hL : RowL wr gl L) (hN : RowI wr gn N) (h1 : B ≤ gl) (h2 : B ≤ gn) (h3 : P.length ≤ cl) (h4 : 2 ≤ cn) (hX : Box wr gx 35 #[x0, x1, x2, x3]) (hgx : gx < B) (hwx : w.heap.size ≤ gx) (hb : Below w.heap.size w wr) (hG : Good P ex st L gr N wt) :
    Box ((((wr.setCell ⟨gx, 0, none⟩ (.slice (some ⟨gl, 0, none⟩) P.length cl)).setCell ⟨gx, 1, none⟩ (.int .i64 gr)).setCell ⟨gx, 2, none⟩ (.slice (some ⟨gn, 0, none⟩) 2 cn)).setCell ⟨gx, 3, none⟩ (.int .i64 wt)) gx 35 #[.slice (some ⟨gl, 0, none⟩) P.length cl, .int .i64 gr, .slice (some ⟨gn, 0, none⟩) 2 cn, .int .i64 wt] ∧
    StepPost P ex st w (.returned (.agg #[.slice (some ⟨gl, 0, none⟩) P.length cl, .int .i64 gr, .slice (some ⟨gn, 0, none⟩) 2 cn, .int .i64 wt])) ((((wr.setCell ⟨gx, 0, none⟩ (.slice (some ⟨gl, 0, none⟩) P.length cl)).setCell ⟨gx, 1, none⟩ (.int .i64 gr)).setCell ⟨gx, 2, none⟩ (.slice (some ⟨gn, 0, none⟩) 2 cn)).setCell ⟨gx, 3, none⟩ (.int .i64 wt)) := by
  have e1 : gl ≠ gx := by omega
  have e2 : gn ≠ gx := by omega
  exact ⟨box_put4 hX _ _ _ _, L, gr, N, wt, ⟨gl, cl, gn, cn, rfl, (((hL.far e1 _).far e1 _).far e1 _).far e1 _, (((hN.far e2 _).far e2 _).far e2 _).far e2 _, by omega, by omega, h3, h4, (((hb.setCell hwx _).setCell hwx _).setCell hwx _).setCell hwx _⟩, hG⟩

set_option maxRecDepth 100000 in
set_option maxHeartbeats 8000000 in
theorem step_any (A A2 : Option Addr) (cap cap2 : Nat) (P : List Ph) (ex : Bool) (s st : Int) (A3 : Option Addr) (cap3 : Nat) (L : List Lt) (gr : Int) (A4 : Option Addr) (cap4 : Nat) (N : List Int) (wt t : Int) (w : World)
    (hA : Phs w w.heap.size A P) (h1 : 1 ≤ P.length) (hm : P.length ≤ 8) (hA2 : Ints w w.heap.size A2 (ints (tableOf P ex))) (hr : ∀ i, i < P.length → 0 ≤ (P.getD i pz).r ∧ (P.getD i pz).r < 2) (hg : ∀ i, i < P.length → 0 ≤ (P.getD i pz).g ∧ (P.getD i pz).g ≤ 1000000)
    (hye : ∀ i, i < P.length → 1 ≤ (P.getD i pz).ye ∧ (P.getD i pz).ye ≤ 1000000 ∧ (P.getD i pz).re ≤ 1000000)
    (hL : Lts w w.heap.size A3 L) (hN : Ints w w.heap.size A4 N) (hG : Good P ex st L gr N wt) (hst : st ≤ 1000000) :
    Calls Try.prog 51 #[.agg #[.slice A P.length cap, .slice A2 P.length cap2, .int .i64 s], .agg #[.slice A3 P.length cap3, .int .i64 gr, .slice A4 2 cap4, .int .i64 wt], .int .i64 t] w
      fun e w' => StepPost P ex st w e w' := by
  have HA := Lib.hid hA
  have HA2 := Lib.hid hA2
  have HL := Lib.hid hL
  have HN := Lib.hid hN
  have HG := Lib.hid hG
  have hrH := Lib.hid hr
  have hgH := Lib.hid hg
  have hyeH := Lib.hid hye
  have hLl := Lib.hid hG.inv.len
  have hNl := Lib.hid hG.inv.nx.1
  have hwt0 := hG.w0
  have hwt1 := hG.w1
  clear hA hA2 hL hN hG hr hg hye
  go_enter Try.func51, Try.ntmps51
  go_wp2_with fail
  have hBJ : Hid (Box (((w.alloc (.cells #[.slice A P.length cap, .slice A2 P.length cap2, .int .i64 s] 26)).alloc (.cells #[.slice A3 P.length cap3, .int .i64 gr, .slice A4 2 cap4, .int .i64 wt] 35)).alloc (.cells #[.slice none 0 0, .int .i64 0, .slice none 0 0, .int .i64 0] 35)) w.heap.size 26 #[.slice A P.length cap, .slice A2 P.length cap2, .int .i64 s]) := ((Box.new _ _ _).alloc _).alloc _
  have hBC : Hid (Box (((w.alloc (.cells #[.slice A P.length cap, .slice A2 P.length cap2, .int .i64 s] 26)).alloc (.cells #[.slice A3 P.length cap3, .int .i64 gr, .slice A4 2 cap4, .int .i64 wt] 35)).alloc (.cells #[.slice none 0 0, .int .i64 0, .slice none 0 0, .int .i64 0] 35)) (w.heap.size + 1) 35 #[.slice A3 P.length cap3, .int .i64 gr, .slice A4 2 cap4, .int .i64 wt]) := (boxNew2 _ _ _ _).alloc _
  have hBX : Hid (Box (((w.alloc (.cells #[.slice A P.length cap, .slice A2 P.length cap2, .int .i64 s] 26)).alloc (.cells #[.slice A3 P.length cap3, .int .i64 gr, .slice A4 2 cap4, .int .i64 wt] 35)).alloc (.cells #[.slice none 0 0, .int .i64 0, .slice none 0 0, .int .i64 0] 35)) (w.heap.size + 2) 35 #[.slice none 0 0, .int .i64 0, .slice none 0 0, .int .i64 0]) := Lib.hid (by
    have h := Box.new ((w.alloc (.cells #[.slice A P.length cap, .slice A2 P.length cap2, .int .i64 s] 26)).alloc (.cells #[.slice A3 P.length cap3, .int .i64 gr, .slice A4 2 cap4, .int .i64 wt] 35)) 35 #[.slice none 0 0, .int .i64 0, .slice none 0 0, .int .i64 0]
    rw [World.size_alloc, World.size_alloc] at h
    exact h)
  have hW : Hid (Below w.heap.size w (((w.alloc (.cells #[.slice A P.length cap, .slice A2 P.length cap2, .int .i64 s] 26)).alloc (.cells #[.slice A3 P.length cap3, .int .i64 gr, .slice A4 2 cap4, .int .i64 wt] 35)).alloc (.cells #[.slice none 0 0, .int .i64 0, .slice none 0 0, .int .i64 0] 35))) := (((Below.refl _ _).alloc (Nat.le_refl _) _).alloc (by simp) _).alloc (by simp; omega) _
  have hWz : (((w.alloc (.cells #[.slice A P.length cap, .slice A2 P.length cap2, .int .i64 s] 26)).alloc (.cells #[.slice A3 P.length cap3, .int .i64 gr, .slice A4 2 cap4, .int .i64 wt] 35)).alloc (.cells #[.slice none 0 0, .int .i64 0, .slice none 0 0, .int .i64 0] 35)).heap.size = w.heap.size + 3 := by simp
  generalize (((w.alloc (.cells #[.slice A P.length cap, .slice A2 P.length cap2, .int .i64 s] 26)).alloc (.cells #[.slice A3 P.length cap3, .int .i64 gr, .slice A4 2 cap4, .int .i64 wt] 35)).alloc (.cells #[.slice none 0 0, .int .i64 0, .slice none 0 0, .int .i64 0] 35)) = W at hBJ hBC hBX hW hWz ⊢
  obtain ⟨gx, hgx⟩ : ∃ x, x = w.heap.size + 2 := ⟨_, rfl⟩
  have e12 : w.heap.size + 1 + 1 = w.heap.size + 2 := rfl
  rw [e12, ← hgx]
  rw [← hgx] at hBX
  obtain ⟨gk, hgk⟩ : ∃ x, x = w.heap.size + 1 := ⟨_, rfl⟩
  rw [← hgk]
  rw [← hgk] at hBC
  have hk1 : w.heap.size < gk := by omega
  have hk2 : gk < gx := by omega
  have hk3 : gx < W.heap.size := by omega
  have hW3 : W.heap.size ≤ w.heap.size + 3 := by omega
  clear e12 hgx hgk hWz
  refine (copy_any A3 P.length cap3 L gr A4 cap4 N wt W ((HL.out.below hW.out).more (by omega)) hLl.out h1 hm ((HN.out.below hW.out).more (by omega)) hNl.out).mono ?_; rintro e w1 ⟨gl, cl, gn, cn, rfl, hrl, hrn, hgl, hgn, hcl, hcn, hb1⟩
  have hrlH := Lib.hid hrl
  have hrnH := Lib.hid hrn
  have hb1H := Lib.hid hb1
  have hz1 := hb1.size
  clear hrl hrn hb1
  go_upto_region 2 with fail
  have hOC : Hid (Box (w1.alloc (.cells #[.slice (some ⟨gl, 0, none⟩) P.length cl, .int .i64 gr, .slice (some ⟨gn, 0, none⟩) 2 cn, .int .i64 wt] 35)) w1.heap.size 35 #[.slice (some ⟨gl, 0, none⟩) P.length cl, .int .i64 gr, .slice (some ⟨gn, 0, none⟩) 2 cn, .int .i64 wt]) := Box.new _ _ _
  have hb11 : Below w1.heap.size w1 (w1.alloc (.cells #[.slice (some ⟨gl, 0, none⟩) P.length cl, .int .i64 gr, .slice (some ⟨gn, 0, none⟩) 2 cn, .int .i64 wt] 35)) := (Below.refl _ _).alloc (Nat.le_refl _) _
  have hW1 : Hid (Below W.heap.size W (w1.alloc (.cells #[.slice (some ⟨gl, 0, none⟩) P.length cl, .int .i64 gr, .slice (some ⟨gn, 0, none⟩) 2 cn, .int .i64 wt] 35))) := hb1H.out.trans (hb11.mono hz1)
  have hOL : Hid (RowL (w1.alloc (.cells #[.slice (some ⟨gl, 0, none⟩) P.length cl, .int .i64 gr, .slice (some ⟨gn, 0, none⟩) 2 cn, .int .i64 wt] 35)) gl L) := hrlH.out.below hb11 hrlH.out.lt
  have hON : Hid (RowI (w1.alloc (.cells #[.slice (some ⟨gl, 0, none⟩) P.length cl, .int .i64 gr, .slice (some ⟨gn, 0, none⟩) 2 cn, .int .i64 wt] 35)) gn N) := hrnH.out.below hb11 hrnH.out.lt
  have hzc : w1.heap.size < (w1.alloc (.cells #[.slice (some ⟨gl, 0, none⟩) P.length cl, .int .i64 gr, .slice (some ⟨gn, 0, none⟩) 2 cn, .int .i64 wt] 35)).heap.size := by simp
  generalize (w1.alloc (.cells #[.slice (some ⟨gl, 0, none⟩) P.length cl, .int .i64 gr, .slice (some ⟨gn, 0, none⟩) 2 cn, .int .i64 wt] 35)) = W1 at hOC hW1 hOL hON hzc hb11 ⊢
  clear hb11 hrlH hrnH hb1H
  obtain ⟨gc, hgc⟩ : ∃ x, x = w1.heap.size := ⟨_, rfl⟩
  rw [← hgc] at hOC hzc hz1 ⊢
  clear hgc
  have hb1J := (hBJ.out.below hW1.out (by omega))
  have hb1C := (hBC.out.below hW1.out (by omega))
  have hb1X := (hBX.out.below hW1.out hk3)
  have hz1' := hW1.out.size
  by_cases hw0 : 0 < wt
  · have c3 := hb1C.cell 3
    have cz := hb1C.lt
    have o0 := hOC.out.cell 0
    have o1 := hOC.out.cell 1
    have o2 := hOC.out.cell 2
    have o3 := hOC.out.cell 3
    have of3 := hOC.out.frozen 3
    have x0 := hb1X.cell 0
    have x1 := hb1X.cell 1
    have x2 := hb1X.cell 2
    have x3 := hb1X.cell 3
    have xf := hb1X.frozen
    have xz := hb1X.lt
    simp at c3 o0 o1 o2 o3 x0 x1 x2 x3
    have hgcx : gc ≠ gx := by omega
    have hb1XH := Lib.hid hb1X
    clear hb1J hb1C hb1X
    have hG2 : Hid (Good P ex st L gr N (wt - 1)) := ⟨HG.out.inv, by omega, by omega, .inr (HG.out.red.resolve_left (by omega))⟩
    have hC2 : Hid (Box (W1.setCell ⟨gc, 3, none⟩ (.int .i64 (wt - 1))) gc 35 #[.slice (some ⟨gl, 0, none⟩) P.length cl, .int .i64 gr, .slice (some ⟨gn, 0, none⟩) 2 cn, .int .i64 (wt - 1)]) := hOC.out.put_eq (by simp)
    have hL2 : Hid (RowL (W1.setCell ⟨gc, 3, none⟩ (.int .i64 (wt - 1))) gl L) := hOL.out.far (hOC.out.differ hOL.out.choose_spec.1 (by decide)).symm _
    have hN2 : Hid (RowI (W1.setCell ⟨gc, 3, none⟩ (.int .i64 (wt - 1))) gn N) := hON.out.far (hOC.out.differ hON.out.choose_spec.1 (by decide)).symm _
    have hX2 : Hid (Box (W1.setCell ⟨gc, 3, none⟩ (.int .i64 (wt - 1))) gx 35 #[.slice none 0 0, .int .i64 0, .slice none 0 0, .int .i64 0]) := hb1XH.out.far (by dsimp only; omega) _
    have hfin : Hid _ := Lib.hid (step_fin hC2.out hL2.out hN2.out hgl hgn hcl hcn hX2.out hk3 (by omega) ((hW.out.trans (hW1.out.mono (by omega))).setCell (p := ⟨gc, 3, none⟩) (by dsimp only; omega) _) hG2.out)
    clear hC2 hL2 hN2 hX2 hb1XH
    go_wp2_with fail
    generalize (((((W1.setCell ⟨gc, 3, none⟩ (.int .i64 (wt - 1))).setCell ⟨gx, 0, none⟩ (.slice (some ⟨gl, 0, none⟩) P.length cl)).setCell ⟨gx, 1, none⟩ (.int .i64 gr)).setCell ⟨gx, 2, none⟩ (.slice (some ⟨gn, 0, none⟩) 2 cn)).setCell ⟨gx, 3, none⟩ (.int .i64 (wt - 1))) = WF at hfin ⊢
    obtain ⟨hRF, hend⟩ := hfin.out
    have hendH := Lib.hid hend
    have z0 := hRF.cell 0
    have z1 := hRF.cell 1
    have z2 := hRF.cell 2
    have z3 := hRF.cell 3
    have zz := hRF.lt
    clear hRF hend
    simp at z0 z1 z2 z3
    refine bodyPost_ret (v := .agg #[.slice (some ⟨gl, 0, none⟩) P.length cl, .int .i64 gr, .slice (some ⟨gn, 0, none⟩) 2 cn, .int .i64 (wt - 1)]) (by simp [results, Try.results51, go_sem, z0, z1, z2, z3, zz]) rfl hendH.out
  obtain rfl : wt = 0 := by omega
  clear hw0
  have c3 := hb1C.cell 3
  have cz := hb1C.lt
  have j0 := hb1J.cell 0
  have jz := hb1J.lt
  simp at c3 j0
  clear hb1J hb1C hb1X
  go_upto_region 5 with fail
  go_cut [8] (fun s8 wx => ∃ b : Bool, s8 = .bool b ∧ (b = true → 0 ≤ t ∧ t < (P.length : Int)) ∧ wx = W1)
  case first =>
    by_cases ht0 : 0 ≤ t
    · by_cases ht1 : t < (P.length : Int)
      · go_wp2_with fail
        go_meet
        exact ⟨true, rfl, fun _ => ⟨ht0, ht1⟩, rfl⟩
      · have ht1' : (P.length : Int) ≤ t := by omega
        go_wp2_with fail
        go_meet
        exact ⟨false, rfl, (fun h => by cases h), rfl⟩
    · have ht0' : t < 0 := by omega
      go_wp2_with fail
      go_meet
      exact ⟨false, rfl, (fun h => by cases h), rfl⟩
  case rest =>
    obtain ⟨on, rfl, hon, hwc⟩ := hcut
    subst hwc
    obtain ⟨V0, rfl⟩ : ∃ x, x = wc := ⟨wc, rfl⟩
    have honH := Lib.hid hon
    clear hon
    have hPB : Hid (Phs V0 W.heap.size A P) := ((HA.out.below hW.out).more (by omega)).below hW1.out
    have hCB : Hid (Ints V0 W.heap.size A2 (ints (tableOf P ex))) := ((HA2.out.below hW.out).more (by omega)).below hW1.out
    have hLB : Hid (Lts V0 W.heap.size A3 L) := ((HL.out.below hW.out).more (by omega)).below hW1.out
    have hJc : Hid (Box V0 w.heap.size 26 #[.slice A P.length cap, .slice A2 P.length cap2, .int .i64 s]) := hBJ.out.below hW1.out (by omega)
    have hCc : Hid (Box V0 gk 35 #[.slice A3 P.length cap3, .int .i64 gr, .slice A4 2 cap4, .int .i64 0]) := hBC.out.below hW1.out (by omega)
    have hXc : Hid (Box V0 gx 35 _) := hBX.out.below hW1.out hk3
    have hwall : Hid (Below w.heap.size w V0) := hW.out.trans (hW1.out.mono (by omega))
    have hCl : Hid ((ints (tableOf P ex)).length = P.length) := Lib.hid (by rw [ints_length, tableOf_length])
    obtain ⟨B, hB⟩ : ∃ x, x = W.heap.size := ⟨_, rfl⟩
    rw [← hB] at hPB hCB hLB hgl hgn hz1 hk3
    have hBc : B ≤ V0.heap.size := by omega
    have hwB : w.heap.size < B := by omega
    have hP0 : Hid (Part P L L) := ⟨hLl.out, HG.out.inv.lt, fun _ h => h⟩
    have hcw : Hid (CtlAt V0 B gc P.length L gr N 0) := ⟨gl, cl, gn, cn, hOC.out, hOL.out, hON.out, hz1, hgl, hgn, hcl, hcn⟩
    have c0 := hCc.out.cell 0
    simp at c0
    clear hB hBJ hBC hBX hW1 hW hW3 HA HA2 HL HN hz1' c3 j0
    go_wp2_with fail
    have hne1 : Hid (gc ≠ gl) := Lib.hid (hOC.out.differ hOL.out.choose_spec.1 (by decide))
    have hne2 : Hid (gc ≠ gn) := Lib.hid (hOC.out.differ hON.out.choose_spec.1 (by decide))
    have hne3 : Hid (gl ≠ gn) := Lib.hid (hOL.out.choose_spec.1.differ hON.out.choose_spec.1 (by decide))
    go_loopw [40] (fun v40 wr => ∃ (k : Nat) (L' : List Lt), k ≤ P.length ∧ v40 = .int .i64 k ∧ Box wr gc 35 #[.slice (some ⟨gl, 0, none⟩) P.length cl, .int .i64 gr, .slice (some ⟨gn, 0, none⟩) 2 cn, .int .i64 0] ∧ RowL wr gl L' ∧ RowI wr gn N ∧ Part P L L' ∧ Below B V0 wr) (fun v40 _ => P.length - (intOf v40).toNat)
    case atStart => exact ⟨0, L, by omega, rfl, hOC.out, hOL.out, hON.out, hP0.out, Below.refl _ _⟩
    case round =>
      obtain ⟨k, L', hk, rfl, hoc, hol, hon', hpt, hb⟩ := hrel
      have hocH := Lib.hid hoc
      have holH := Lib.hid hol
      have honrH := Lib.hid hon'
      have hptH := Lib.hid hpt
      have hbH := Lib.hid hb
      have hz := hb.size
      clear hoc hol hon' hpt hb
      by_cases hlt : k < P.length
      · have hkl : (k : Int) < (P.length : Int) := by omega
        obtain ⟨b, off, hAe, hbl, hat⟩ := (hPB.out.below hbH.out) k hlt
        obtain ⟨b3, off3, hA3e, hbl3, l0, l1⟩ := (hLB.out.below hbH.out) k (by rw [hLl.out]; exact hlt)
        subst hAe hA3e
        have p0 := hat.c0
        have p1 := hat.c1
        have p2 := hat.c2
        have p3 := hat.c3
        have p4 := hat.c4
        have p5 := hat.c5
        have p6 := hat.c6
        have p7 := hat.c7
        have hbx := hJc.out.below hbH.out (by omega)
        have j0 := hbx.cell 0
        have j1 := hbx.cell 1
        have jz' := hbx.lt
        simp at j0 j1
        clear hat hbx
        obtain ⟨ph, hph⟩ : ∃ ph, ph = P.getD k pz := ⟨_, rfl⟩
        obtain ⟨lt, hlt'⟩ : ∃ lt, lt = L.getD k lz := ⟨_, rfl⟩
        rw [← hph] at p0 p1 p2 p3 p4 p5 p6 p7
        rw [← hlt'] at l0 l1
        have hphH := Lib.hid hph
        have hltH := Lib.hid hlt'
        have hbz : b < wr.heap.size := by omega
        have hbz3 : b3 < wr.heap.size := by omega
        clear hph hlt'
        go_upto_region 9 with fail
        have hb1 : Below wr.heap.size wr (wr.alloc (.cells #[.int .i64 lt.m, .int .i64 lt.t] 38)) := (Below.refl _ _).alloc (Nat.le_refl _) _
        have hLx : Hid (Box (wr.alloc (.cells #[.int .i64 lt.m, .int .i64 lt.t] 38)) wr.heap.size 38 #[.int .i64 lt.m, .int .i64 lt.t]) := Box.new _ _ _
        have hzX : wr.heap.size < (wr.alloc (.cells #[.int .i64 lt.m, .int .i64 lt.t] 38)).heap.size := by simp
        generalize (wr.alloc (.cells #[.int .i64 lt.m, .int .i64 lt.t] 38)) = WX at hb1 hLx hzX ⊢
        have hbX : Hid (Below B V0 WX) := hbH.out.trans (hb1.mono (by omega))
        have hoX := hocH.out.below hb1 hocH.out.lt
        have hoXH := Lib.hid hoX
        have holX : Hid (RowL WX gl L') := holH.out.below hb1 holH.out.lt
        have honX : Hid (RowI WX gn N) := honrH.out.below hb1 honrH.out.lt
        have hJX : Hid (Box WX w.heap.size 26 #[.slice (some ⟨b, off, none⟩) P.length cap, .slice A2 P.length cap2, .int .i64 s]) := hJc.out.below hbX.out hwB
        obtain ⟨lb, hlb⟩ : ∃ x, x = wr.heap.size := ⟨_, rfl⟩
        rw [← hlb] at hLx hzX hbz hbz3 jz' ⊢
        have hwlb : V0.heap.size ≤ lb := by omega
        have hp3X := (hb1.cell (p := ⟨b, off + k * 8 + 3, none⟩) (by dsimp only; omega)).trans p3
        have hpX : Hid (PhAt WX b (off + k * 8) ph) := ⟨(hb1.cell (p := ⟨b, off + k * 8, none⟩) (by dsimp only; omega)).trans p0, (hb1.cell (p := ⟨b, off + k * 8 + 1, none⟩) (by dsimp only; omega)).trans p1, (hb1.cell (p := ⟨b, off + k * 8 + 2, none⟩) (by dsimp only; omega)).trans p2, (hb1.cell (p := ⟨b, off + k * 8 + 3, none⟩) (by dsimp only; omega)).trans p3, (hb1.cell (p := ⟨b, off + k * 8 + 4, none⟩) (by dsimp only; omega)).trans p4, (hb1.cell (p := ⟨b, off + k * 8 + 5, none⟩) (by dsimp only; omega)).trans p5, (hb1.cell (p := ⟨b, off + k * 8 + 6, none⟩) (by dsimp only; omega)).trans p6, (hb1.cell (p := ⟨b, off + k * 8 + 7, none⟩) (by dsimp only; omega)).trans p7⟩
        clear hlb hb1 p0 p1 p2 p3 p4 p5 p6 p7 l0 l1 j0 j1 jz' hoX hocH holH honrH hbH
        have j0 := hJX.out.cell 0
        have jz2 := hJX.out.lt
        have l1 := hLx.out.cell 1
        simp at j0 l1
        have hbX2 : b < WX.heap.size := by omega
        go_cut [11] (fun s11 wx => ∃ (lv : Bool) (n : Nat), s11 = .bool lv ∧ wx = WX.drewN n)
        case first =>
          go_quiet (fail)
          go_wp2_with fail
          go_meet
          exact ⟨_, _, rfl, rfl⟩
        case rest =>
          obtain ⟨lv, nd, rfl, hwd⟩ := hcut
          subst hwd
          have hbY : Hid (Below B V0 (WX.drewN nd)) := below_drewN hbX.out nd
          have hoY : Hid (Box (WX.drewN nd) gc 35 #[.slice (some ⟨gl, 0, none⟩) P.length cl, .int .i64 gr, .slice (some ⟨gn, 0, none⟩) 2 cn, .int .i64 0]) := hoXH.out
          have holY : Hid (RowL (WX.drewN nd) gl L') := holX.out
          have honY : Hid (RowI (WX.drewN nd) gn N) := honX.out
          have hJY : Hid (Box (WX.drewN nd) w.heap.size 26 #[.slice (some ⟨b, off, none⟩) P.length cap, .slice A2 P.length cap2, .int .i64 s]) := hJX.out
          have hLY : Hid (Box (WX.drewN nd) lb 38 #[.int .i64 lt.m, .int .i64 lt.t]) := hLx.out
          have hpY : Hid (PhAt (WX.drewN nd) b (off + k * 8) ph) := Lib.hid ⟨hpX.out.c0, hpX.out.c1, hpX.out.c2, hpX.out.c3, hpX.out.c4, hpX.out.c5, hpX.out.c6, hpX.out.c7⟩
          have hzY : lb < (WX.drewN nd).heap.size := hzX
          clear hbX hoXH holX honX hJX hLx hpX hzX hp3X j0 jz2 l1 hbX2
          generalize WX.drewN nd = Y at hbY hoY holY honY hJY hLY hpY hzY ⊢
          go_upto_if 55 with fail
          go_cut [11] (fun s11 wx => (∃ lv : Bool, s11 = .bool lv) ∧ wx = Y)
          case first =>
            have j0 := hJY.out.cell 0
            have j1 := hJY.out.cell 1
            have jz2 := hJY.out.lt
            simp at j0 j1
            cases on
            · go_wp2_with fail
              go_meet
              exact ⟨⟨_, rfl⟩, rfl⟩
            · obtain ⟨ht0, ht1⟩ := honH.out rfl
              obtain ⟨tn, rfl⟩ : ∃ tn : Nat, t = (tn : Int) := ⟨t.toNat, by omega⟩
              by_cases hkt : k = tn
              · have hkt' : ((k : Int) != (tn : Int)) = false := by simp [hkt]
                clear hkt
                go_wp2_with fail
                go_meet
                exact ⟨⟨_, rfl⟩, rfl⟩
              · have hkt' : ((k : Int) != (tn : Int)) = true := by simp; omega
                clear hkt
                cases lv
                · go_wp2_with fail
                  refine (rconf_at _ _ _ _ (ints (tableOf P ex)) k tn _ hCl.out (hCB.out.below hbY.out) (by omega)).mono ?_; rintro e w' ⟨rfl, rfl⟩
                  go_wp2_with fail
                  go_meet
                  exact ⟨⟨_, rfl⟩, rfl⟩
                · go_wp2_with fail
                  go_meet
                  exact ⟨⟨_, rfl⟩, rfl⟩
          case rest =>
            obtain ⟨⟨lv, rfl⟩, hwy⟩ := hcut
            subst hwy
            have j0 := hJY.out.cell 0
            have jz2 := hJY.out.lt
            have o0 := hoY.out.cell 0
            have oz := hoY.out.lt
            have l0 := hLY.out.cell 0
            have l1 := hLY.out.cell 1
            simp at j0 o0 l0 l1
            obtain ⟨p0, p1, p2, p3, p4, p5, p6, p7⟩ := hpY.out
            have hbz' : b < wc.heap.size := by omega
            have hglz := holY.out.lt
            have n1 : w.heap.size ≠ gl := by omega
            have n2 : gc ≠ gl := hne1.out
            have n3 : lb ≠ gl := by have := hOL.out.lt; omega
            have n4 : b ≠ gl := by omega
            have hBwc : B ≤ wc.heap.size := by omega
            have hok : LtOk ph lt := by rw [hphH.out, hltH.out]; exact HG.out.inv.lt k hlt
            have hokH := Lib.hid hok
            have hyH := Lib.hid (hyeH.out k hlt)
            clear hok
            go_upto_region 12 with fail
            go_region_held3 (fun w' => LS P L gl B wc w' ∧ ∀ b o, b < wc.heap.size → b ≠ gl → w'.cell? ⟨b, o, none⟩ = wc.cell? ⟨b, o, none⟩) (first | exact ls_start holY.out hptH.out | exact ls_call (by assumption) (by assumption) hBwc | exact ls_store (by assumption) hlt (by rw [← hphH.out]; assumption) (by rw [← hltH.out]; assumption) hgl)
              (first
                | (go_at_call 64; refine (step8_any ph lt lv _ hokH.out (by rw [hphH.out]; exact (hyeH.out k hlt).1) (by rw [hphH.out]; exact (hyeH.out k hlt).2.1) (by rw [hphH.out]; exact (hyeH.out k hlt).2.2)).mono ?_; rintro e w' ⟨mm, tt, rfl, hok2, hnn2, hb⟩; obtain ⟨v0, v1, hnc0, hnc1, hnf0, hnf1, hglz2⟩ := ls_cell (ls_call (show LS P L gl B wc _ ∧ _ by with_reducible assumption) hb hBwc) hlt))
            have hS : LS P L gl B wc ((w'.setCell ⟨gl, k * 2, none⟩ (.int .i64 mm)).setCell ⟨gl, k * 2 + 1, none⟩ (.int .i64 tt)) := And.left (by with_reducible assumption)
            obtain ⟨k1, k2, ⟨LF, k3, k4⟩, k5⟩ := hS
            have k1H := Lib.hid k1
            have k3H := Lib.hid k3
            have k4H := Lib.hid k4
            have k5H := Lib.hid k5
            have hnz := honY.out.lt
            have hFc : Hid (Box ((w'.setCell ⟨gl, k * 2, none⟩ (.int .i64 mm)).setCell ⟨gl, k * 2 + 1, none⟩ (.int .i64 tt)) gc 35 _) := (k1 gc oz hne1.out).trans hoY.out
            have hFn : Hid (RowI ((w'.setCell ⟨gl, k * 2, none⟩ (.int .i64 mm)).setCell ⟨gl, k * 2 + 1, none⟩ (.int .i64 tt)) gn N) := by
              obtain ⟨cur, hb1, hb2⟩ := honY.out
              exact ⟨cur, (k1 gn hnz hne3.out.symm).trans hb1, hb2⟩
            have hFb : Hid (Below B V0 ((w'.setCell ⟨gl, k * 2, none⟩ (.int .i64 mm)).setCell ⟨gl, k * 2 + 1, none⟩ (.int .i64 tt))) := hbY.out.trans k5
            clear k1 k2 k3 k4 k5
            go_wp2_with fail
            go_roundw
            case rel => exact ⟨k + 1, LF, by omega, by go_num, hFc.out, k3H.out, hFn.out, k4H.out, hFb.out⟩
            case measure => simp [intOf]; omega
      · have hkl : ¬ (k : Int) < (P.length : Int) := by omega
        have hok : Hid (CtlOk P ex B gc 0 wr) := ⟨L', gr, N, ⟨gl, cl, gn, cn, hocH.out, holH.out, honrH.out, hz1, hgl, hgn, hcl, hcn⟩, hptH.out.inv HG.out.inv⟩
        clear hocH holH honrH hptH hOC hOL hON hcw hP0 hne1 hne2 hne3 hLB
        obtain ⟨V1, rfl⟩ : ∃ x, x = wr := ⟨wr, rfl⟩
        have hwt1' := hwt1
        have hGst : Hid (0 ≤ st) := Lib.hid (by omega)
        cases on
        · skip
          obtain ⟨L2, gr2, N2, ⟨gl2, cl2, gn2, cn2, q1, q2, q3, q4, q5, q6, q7, q8⟩, hinv⟩ := hok.out
          have q1H := Lib.hid q1
          have q2H := Lib.hid q2
          have q3H := Lib.hid q3
          have hinvH := Lib.hid hinv
          have o0 := q1.cell 0
          have o1 := q1.cell 1
          have o2 := q1.cell 2
          have o3 := q1.cell 3
          have oz := q1.lt
          have hl2 := Lib.hid hinv.len
          have hn2 := Lib.hid hinv.nx.1
          simp at o0 o1 o2 o3
          clear q1 q2 q3 hinv
          go_wp2_with fail
          refine (set_any (some ⟨gl2, 0, none⟩) cl2 P.length L2 gr2 (some ⟨gn2, 0, none⟩) 2 cn2 0 V1 (q2H.out.lts q2H.out.lt) hl2.out hm).mono ?_; rintro e w5 ⟨rfl, hb5⟩
          have hV5 : Hid (Below B V0 w5) := hbH.out.trans (hb5.mono (by omega))
          have hck5 : Hid (CtlOk P ex B gc 0 w5) := hok.out.below hb5
          have hz5 := hb5.size
          have q1w : Hid (Box w5 gc 35 _) := q1H.out.below hb5 oz
          have q3w : Hid (RowI w5 gn2 N2) := q3H.out.below hb5 q3H.out.lt
          have hq2w : Hid (RowL w5 gl2 L2) := q2H.out.below hb5 q2H.out.lt
          clear hb5 o0 o1 o2 o3
          have o2 := q1w.out.cell 2
          have oz5 := q1w.out.lt
          simp at o2
          generalize (((bitsTo (onL L2) P.length : Nat) : Int) == 0) = dn
          go_upto_region 24 with fail
          obtain ⟨dn, hdn⟩ : ∃ b : Bool, b = (((bitsTo (onL L2) P.length : Nat) : Int) == 0) := ⟨_, rfl⟩
          try rw [← hdn]
          clear hdn
          go_wp2_with fail
          go_loopw [14, 110] (fun v14 v110 wx => ∃ (k : Nat) (d : Bool), k ≤ 2 ∧ v110 = .int .i64 k ∧ v14 = .bool d ∧ w5 = wx) (fun _ v110 _ => 2 - (intOf v110).toNat)
          case atStart => exact ⟨0, _, by omega, rfl, rfl, by first | rfl | trivial⟩
          case round =>
            obtain ⟨k, d, hk2, rfl, rfl, rfl⟩ := hrel
            by_cases hlt : k < 2
            · have hki : (k : Int) < 2 := by omega
              have n0 := q3w.out.cell (j := k) (by rw [hn2.out]; exact hlt)
              have nz := q3w.out.lt
              generalize N2.getD k 0 = nv at n0
              cases d
              · go_wp2_with fail
                go_roundw
                case rel => exact ⟨k + 1, false, by omega, by go_num, rfl, by first | rfl | trivial⟩
                case measure => simp [intOf]; omega
              · go_wp2_with fail
                go_roundw
                case rel => exact ⟨k + 1, _, by omega, by go_num, rfl, by first | rfl | trivial⟩
                case measure => simp [intOf]; omega
            · have hki : ¬ (k : Int) < 2 := by omega
              go_upto_if 120 with fail
              go_cut [] (fun wx => CtlOk P ex B gc 0 wx ∧ Below B V0 wx)
              case first =>
                cases d
                · go_wp2_with fail
                  go_meet
                  exact ⟨hck5.out, hV5.out⟩
                · have o0 := q1w.out.cell 0
                  have o1 := q1w.out.cell 1
                  have q2w : Hid (RowL w5 gl2 L2) := hq2w
                  simp at o0 o1
                  have hbx := hJc.out.below hV5.out hwB
                  have j0 := hbx.cell 0
                  have j1 := hbx.cell 1
                  have j2 := hbx.cell 2
                  have jz3 := hbx.lt
                  simp at j0 j1 j2
                  clear hbx
                  have hPd : Hid (Phs w5.drew w5.drew.heap.size A P) := ((hPB.out.below hV5.out).more (Nat.le_trans hBc hV5.out.size)).below (Below.refl _ _).drew
                  have hgg : Hid (∀ i, i < P.length → -1 ≤ (P.getD i pz).g ∧ (P.getD i pz).g ≤ 1000000) := Lib.hid fun i hi => by have := hgH.out i hi; omega
                  have hG0 := hinvH.out.g0
                  have hG1 := hinvH.out.g1
                  have hGb := (groupsTo_bd P hgg.out P.length (Nat.le_refl _)).2
                  have hJd : Hid (Box w5.drew w.heap.size 26 #[.slice A P.length cap, .slice A2 P.length cap2, .int .i64 s]) := (hJc.out.below hV5.out hwB).drew
                  generalize hGe : groupsTo P P.length = G at hG1 hGb
                  have hGeH := Lib.hid hGe
                  clear hGe
                  have hgrp := fun W (h : Phs W W.heap.size A P) => rgroups_any A A2 cap P.length cap2 P s W h (by omega) hgg.out
                  rw [hGeH.out] at hgrp
                  have hgrpH := Lib.hid hgrp
                  clear hgrp
                  -- P P.length = G at hG1 hGb
                  obtain ⟨g', htm, hg0, hg1⟩ : ∃ g', (gr2 + 1).tmod G = g' ∧ 0 ≤ g' ∧ g' < G := ⟨_, rfl, by rw [Int.tmod_eq_emod_of_nonneg (by omega)]; exact Int.emod_nonneg _ (by omega), Int.tmod_lt_of_pos _ (by omega)⟩
                  have hwr : IntKind.i64.wrap (gr2 + 1) = gr2 + 1 := by rw [IntKind.wrap_i64]; omega
                  have hGp : 0 < G := by omega
                  have hB5 : B ≤ w5.heap.size := Nat.le_trans hBc hV5.out.size
                  have hgeR : Hid (∀ w6 w7 : World, Below w5.drew.heap.size w5.drew w6 → w6.grownBy w7 (some gc) → ∀ gn3 cn3 N3, Box w7 gc 35 #[.slice (some ⟨gl2, 0, none⟩) P.length cl2, .int .i64 g', .slice (some ⟨gn3, 0, none⟩) 2 cn3, .int .i64 0] → RowI w7 gn3 N3 → NextOk P g' N3 → w6.heap.size ≤ gn3 → 2 ≤ cn3 → CtlOk P ex B gc 0 w7 ∧ Below B V0 w7) := Lib.hid fun w6 w7 hb hg gn3 cn3 N3 e1 e2 e3 e4 e5 => by
                    have hz : w5.heap.size ≤ w6.heap.size := hb.size
                    have hne : gl2 ≠ gc := (hq2w.out.choose_spec.1.differ q1w.out (by decide))
                    have hgl2 : gl2 < w5.heap.size := hq2w.out.lt
                    refine ⟨⟨L2, g', N3, ⟨gl2, cl2, gn3, cn3, e1, (RowL.below (w := w5.drew) hq2w.out hb hgl2).grown hg (fun e => hne (by injection e)), e2, q4, q5, by omega, q7, e5⟩, ⟨hinvH.out.len, hinvH.out.lt, hg0, by rw [hGeH.out]; exact hg1, e3, hinvH.out.cl⟩⟩, ?_⟩
                    exact (hV5.out.drew.trans (hb.mono hB5)).grown hg (by omega) (fun q hq => by injection hq with hq; omega)
                  clear hck5 hok hbH hwall hXc hCB HG hrH hgH hyeH hLl hNl hgg q3w q3H q2H hl2 hn2 hGst hwt1' hwt1 hwt0 honH hCl hst hki hlt hk2 hk1 hJc hPB hk3 hz1 hgl hgn hinvH q1H hq2w hV5 q4 q5 q6 q7 q8
                  go_wp2_with fail
                  go_region_with (first
                    | (go_at_call 38; refine (hgrpH.out _ hPd.out).mono ?_; rintro e w6 ⟨rfl, hb6⟩; have hb6H := Lib.hid hb6; have hz6 := hb6.size; have q1x := q1w.out.drew.below hb6 oz5; have o1x := q1x.cell 1; have hbxx := hJd.out.below hb6 hJd.out.lt; have j0x := hbxx.cell 0; have j1x := hbxx.cell 1; have j2x := hbxx.cell 2; have jzx := hbxx.lt; simp at o1x j0x j1x j2x; have q1xH := Lib.hid q1x; have hPx : Hid (Phs w6 w6.heap.size A P) := (hPd.out.below hb6).more hb6.size; clear hb6 q1x hbxx)
                    | (go_at_call 62; refine (enter_any A A2 cap P.length cap2 P s _ gc P.length gl2 cl2 cn2 _ 2 gr2 0 _ hPx.out (by omega) q1xH.out).mono ?_; rintro e w7 ⟨rfl, gn3, cn3, N3, e1, e2, e3, e4, e5, e6⟩; have e1H := Lib.hid e1; have e2H := Lib.hid e2; have e3H := Lib.hid e3; have e6H := Lib.hid e6; clear e1 e2 e3 e6))
                  all_goals
                    go_wp2_with fail
                    go_meet
                    exact hgeR.out _ _ hb6H.out e6H.out gn3 cn3 N3 e1H.out e2H.out e3H.out e4 e5
              case rest =>
                obtain ⟨hck, hVc⟩ := hcut
                have hckH := Lib.hid hck
                have hVcH := Lib.hid hVc
                clear hck hVc q1w q3w q1H q2H q3H hinvH hl2 hn2 o2 oz5 hck5 hV5 q4 q5 q6 q7 q8 oz
                go_wp2_with fail
                go_loopw [129] (fun v129 wx => ∃ r : Nat, r ≤ 2 ∧ v129 = .int .i64 r ∧ CtlOk P ex B gc 0 wx ∧ Below B V0 wx) (fun v129 _ => 2 - (intOf v129).toNat)
                case atStart => exact ⟨0, by omega, rfl, hckH.out, hVcH.out⟩
                case round =>
                  obtain ⟨r, hr2, rfl, hck, hVb⟩ := hrel
                  have hckW := Lib.hid hck
                  have hVw := Lib.hid hVb
                  have hVz := hVb.size
                  clear hck hVb
                  obtain ⟨L2, gr2, N2, ⟨gl2, cl2, gn2, cn2, q1, q2, q3, q4, q5, q6, q7, q8⟩, hinv⟩ := hckW.out
                  have q1H := Lib.hid q1
                  have q2H := Lib.hid q2
                  have q3H := Lib.hid q3
                  have hinvH := Lib.hid hinv
                  have o0 := q1.cell 0
                  have o1 := q1.cell 1
                  have o2 := q1.cell 2
                  have o3 := q1.cell 3
                  have oz := q1.lt
                  have hl2 := Lib.hid hinv.len
                  have hn2 := Lib.hid hinv.nx.1
                  simp at o0 o1 o2 o3
                  clear q1 q2 q3 hinv
                  by_cases hr : r < 2
                  · have hri : (r : Int) < 2 := by omega
                    have hbx := hJc.out.below hVw.out hwB
                    have j0 := hbx.cell 0
                    have j1 := hbx.cell 1
                    have j2 := hbx.cell 2
                    have jz3 := hbx.lt
                    simp at j0 j1 j2
                    clear hbx
                    have hPw : Hid (Phs wr wr.heap.size A P) := (hPB.out.below hVw.out).more (by omega)
                    go_wp2_with fail
                    refine (idle_any A A2 cap P.length cap2 P s (some ⟨gl2, 0, none⟩) cl2 L2 gr2 (some ⟨gn2, 0, none⟩) 2 cn2 0 r wr hPw.out (by omega) (q2H.out.lts q2H.out.lt) hl2.out).mono ?_; rintro e w6 ⟨bb, rfl, hb6⟩
                    have hV6 : Hid (Below B V0 w6) := hVw.out.trans (hb6.mono (by omega))
                    have hck6 : Hid (CtlOk P ex B gc 0 w6) := hckW.out.below hb6
                    have hz6 := hb6.size
                    have q1w : Hid (Box w6 gc 35 _) := q1H.out.below hb6 oz
                    have q3w : Hid (RowI w6 gn2 N2) := q3H.out.below hb6 q3H.out.lt
                    clear hb6 j0 j1 j2 jz3 o0 o1 o2 o3 hPw
                    cases bb
                    · go_wp2_with fail
                      go_roundw
                      case rel => exact ⟨r + 1, by omega, by go_num, hck6.out, hV6.out⟩
                      case measure => simp [intOf]; omega
                    · have o2 := q1w.out.cell 2
                      have oz6 := q1w.out.lt
                      simp at o2
                      have n0 := q3w.out.cell (j := r) (by rw [hn2.out]; exact hr)
                      have nz := q3w.out.lt
                      have haf : Hid (AfterOk P r gr2 (N2.getD r 0)) := Lib.hid (by
                        have h := hinvH.out.nx
                        match r, hr with
                        | 0, _ => exact h.2.1
                        | 1, _ => exact h.2.2)
                      generalize N2.getD r 0 = nv at n0 haf
                      by_cases hn0 : 0 ≤ nv
                      · obtain ⟨q, hq⟩ : ∃ q : Nat, q < P.length ∧ nv = (q : Int) := by
                          rcases haf.out with h | ⟨i, h1, h2, _⟩
                          · omega
                          · exact ⟨i, h1, h2⟩
                        obtain ⟨hq, rfl⟩ := hq
                        have hbx := hJc.out.below hV6.out hwB
                        have j0 := hbx.cell 0
                        have j1 := hbx.cell 1
                        have j2 := hbx.cell 2
                        have jz3 := hbx.lt
                        simp at j0 j1 j2
                        clear hbx
                        go_upto_region 35 with fail
                        refine wp_region_still_tail 6 (by kernel_rfl) (by kernel_rfl) ?_
                        simp only [List.take_succ_cons, List.take_zero, List.drop_succ_cons, List.drop_zero]
                        repeat still_step
                        refine wpStill_nil ?_
                        change wpList _ _ _ _ _ w6.drew
                        go_wp2_with fail
                        have hV6d : Below B V0 w6.drew := hV6.out.drew
                        refine (begin_any A A2 cap cap2 P ex s B gc 0 q w6.drew (hPB.out.below hV6d) hm (hCB.out.below hV6d) hq hrH.out (fun i hi => (hgH.out i hi).1) (hck6.out.below (Below.refl _ _).drew)).mono ?_; rintro e w7 ⟨rfl, hck7, hb7⟩
                        have hck7H := Lib.hid hck7
                        have hV7 : Hid (Below B V0 w7) := hV6d.trans hb7
                        clear hck7 hb7 j0 j1 j2 jz3
                        go_wp2_with fail
                        go_roundw
                        case rel => exact ⟨r + 1, by omega, by go_num, hck7H.out, hV7.out⟩
                        case measure => simp [intOf]; omega
                      · have hn0' : nv < 0 := by omega
                        go_wp2_with fail
                        go_roundw
                        case rel => exact ⟨r + 1, by omega, by go_num, hck6.out, hV6.out⟩
                        case measure => simp [intOf]; omega
                  · have hri : ¬ (r : Int) < 2 := by omega
                    have hXw := hXc.out.below hVw.out hk3
                    have x0 := hXw.cell 0
                    have x1 := hXw.cell 1
                    have x2 := hXw.cell 2
                    have x3 := hXw.cell 3
                    have xf := hXw.frozen
                    have xz := hXw.lt
                    simp at x0 x1 x2 x3
                    have hXwH := Lib.hid hXw
                    clear hXw
                    have hfin : Hid _ := Lib.hid (step_fin (st := st) q1H.out q2H.out q3H.out q5 q6 q7 q8 hXwH.out hk3 (by omega) (hwall.out.trans (hVw.out.mono (by omega))) ⟨hinvH.out, Int.le_refl 0, hwt1, .inl rfl⟩)
                    go_wp2_with fail
                    generalize ((((wr.setCell ⟨gx, 0, none⟩ (.slice (some ⟨gl2, 0, none⟩) P.length cl2)).setCell ⟨gx, 1, none⟩ (.int .i64 gr2)).setCell ⟨gx, 2, none⟩ (.slice (some ⟨gn2, 0, none⟩) 2 cn2)).setCell ⟨gx, 3, none⟩ (.int .i64 0)) = WF at hfin ⊢
                    obtain ⟨hRF, hend⟩ := hfin.out
                    have hendH := Lib.hid hend
                    have z0 := hRF.cell 0
                    have z1 := hRF.cell 1
                    have z2 := hRF.cell 2
                    have z3 := hRF.cell 3
                    have zz := hRF.lt
                    clear hRF hend
                    simp at z0 z1 z2 z3
                    refine bodyPost_ret (v := .agg #[.slice (some ⟨gl2, 0, none⟩) P.length cl2, .int .i64 gr2, .slice (some ⟨gn2, 0, none⟩) 2 cn2, .int .i64 0]) (by simp [results, Try.results51, go_sem, z0, z1, z2, z3, zz]) rfl hendH.out
        · obtain ⟨ht0, ht1⟩ := honH.out rfl
          obtain ⟨tn, rfl⟩ : ∃ tn : Nat, t = (tn : Int) := ⟨t.toNat, by omega⟩
          have htn : tn < P.length := by omega
          go_wp2_with fail
          go_loopw [83] (fun v83 wx => ∃ r : Nat, r ≤ 2 ∧ v83 = .int .i64 r ∧ CtlOk P ex B gc 0 wx ∧ Below B V0 wx) (fun v83 _ => 2 - (intOf v83).toNat)
          case atStart => exact ⟨0, by omega, rfl, hok.out, hbH.out⟩
          case round =>
            obtain ⟨r, hr2, rfl, hck, hVb⟩ := hrel
            have hckH := Lib.hid hck
            have hVw := Lib.hid hVb
            have hVz := hVb.size
            clear hck hVb
            obtain ⟨L2, gr2, N2, ⟨gl2, cl2, gn2, cn2, q1, q2, q3, q4, q5, q6, q7, q8⟩, hinv⟩ := hckH.out
            have q1H := Lib.hid q1
            have q2H := Lib.hid q2
            have q3H := Lib.hid q3
            have hinvH := Lib.hid hinv
            have o0 := q1.cell 0
            have o1 := q1.cell 1
            have o2 := q1.cell 2
            have o3 := q1.cell 3
            have oz := q1.lt
            have hl2 := Lib.hid hinv.len
            have hn2 := Lib.hid hinv.nx.1
            simp at o0 o1 o2 o3
            clear q1 q2 q3 hinv
            by_cases hr : r < 2
            · have hri : (r : Int) < 2 := by omega
              have hbx := hJc.out.below hVw.out hwB
              have j0 := hbx.cell 0
              have j1 := hbx.cell 1
              have j2 := hbx.cell 2
              have jz3 := hbx.lt
              simp at j0 j1 j2
              clear hbx
              have hPw : Hid (Phs wr wr.heap.size A P) := (hPB.out.below hVw.out).more (by omega)
              have hCw : Hid (Ints wr wr.heap.size A2 (ints (tableOf P ex))) := (hCB.out.below hVw.out).more (by omega)
              go_wp2_with fail
              refine (cand_any A A2 cap P.length cap2 P (ints (tableOf P ex)) s (some ⟨gl2, 0, none⟩) P.length cl2 gr2 (some ⟨gn2, 0, none⟩) cn2 N2 0 r tn wr hPw.out hm hCl.out (by omega) hCw.out hn2.out (q3H.out.ints q3H.out.lt) hr htn).mono ?_; rintro e w5 ⟨z, rfl, hzq, hb5⟩
              have hV5 : Hid (Below B V0 w5) := hVw.out.trans (hb5.mono (by omega))
              have hck5 : Hid (CtlOk P ex B gc 0 w5) := hckH.out.below hb5
              have hz5 := hb5.size
              have q1w : Hid (Box w5 gc 35 _) := q1H.out.below hb5 oz
              have q2w : Hid (RowL w5 gl2 L2) := q2H.out.below hb5 q2H.out.lt
              clear hb5 j0 j1 j2 jz3 o0 o1 o2 o3 hPw hCw
              by_cases hz0 : z < 0
              · go_wp2_with fail
                go_roundw
                case rel => exact ⟨r + 1, by omega, by go_num, hck5.out, hV5.out⟩
                case measure => simp [intOf]; omega
              · have hz1' : 0 ≤ z := by omega
                obtain ⟨q, rfl⟩ : ∃ q : Nat, z = (q : Int) := ⟨z.toNat, by omega⟩
                have hq : q < P.length := by
                  rcases hzq with h | h <;> omega
                have o0 := q1w.out.cell 0
                have o1 := q1w.out.cell 1
                have o2 := q1w.out.cell 2
                have o3 := q1w.out.cell 3
                simp at o0 o1 o2 o3
                have oz5 := q1w.out.lt
                have hbx := hJc.out.below hV5.out hwB
                have j0 := hbx.cell 0
                have j1 := hbx.cell 1
                have j2 := hbx.cell 2
                have jz3 := hbx.lt
                simp at j0 j1 j2
                clear hbx
                have hPw : Hid (Phs w5 w5.heap.size A P) := (hPB.out.below hV5.out).more (by omega)
                clear hzq
                go_wp2_with fail
                refine (idle_any A A2 cap P.length cap2 P s (some ⟨gl2, 0, none⟩) cl2 L2 gr2 (some ⟨gn2, 0, none⟩) 2 cn2 0 r w5 hPw.out (by omega) (q2w.out.lts q2w.out.lt) hl2.out).mono ?_; rintro e w6 ⟨bb, rfl, hb6⟩
                have hV6 : Hid (Below B V0 w6) := hV5.out.trans (hb6.mono (by omega))
                have hck6 : Hid (CtlOk P ex B gc 0 w6) := hck5.out.below hb6
                have hz6 := hb6.size
                clear hb6 j0 j1 j2 jz3 o0 o1 o2 o3 oz5 hPw q1w q2w hV5 hck5
                cases bb
                · go_wp2_with fail
                  go_roundw
                  case rel => exact ⟨r + 1, by omega, by go_num, hck6.out, hV6.out⟩
                  case measure => simp [intOf]; omega
                · skip
                  have hbx := hJc.out.below hV6.out hwB
                  have j0 := hbx.cell 0
                  have j1 := hbx.cell 1
                  have j2 := hbx.cell 2
                  have jz3 := hbx.lt
                  simp at j0 j1 j2
                  clear hbx
                  go_wp2_with fail
                  refine (begin_any A A2 cap cap2 P ex s B gc 0 q w6 (hPB.out.below hV6.out) hm (hCB.out.below hV6.out) hq hrH.out (fun i hi => (hgH.out i hi).1) hck6.out).mono ?_; rintro e w7 ⟨rfl, hck7, hb7⟩
                  have hck7H := Lib.hid hck7
                  have hV7 : Hid (Below B V0 w7) := hV6.out.trans hb7
                  clear hck7 hb7 j0 j1 j2 jz3
                  go_wp2_with fail
                  go_roundw
                  case rel => exact ⟨r + 1, by omega, by go_num, hck7H.out, hV7.out⟩
                  case measure => simp [intOf]; omega
            · have hri : ¬ (r : Int) < 2 := by omega
              have hXw := hXc.out.below hVw.out hk3
              have x0 := hXw.cell 0
              have x1 := hXw.cell 1
              have x2 := hXw.cell 2
              have x3 := hXw.cell 3
              have xf := hXw.frozen
              have xz := hXw.lt
              simp at x0 x1 x2 x3
              have hXwH := Lib.hid hXw
              clear hXw
              have hfin : Hid _ := Lib.hid (step_fin (st := st) q1H.out q2H.out q3H.out q5 q6 q7 q8 hXwH.out hk3 (by omega) (hwall.out.trans (hVw.out.mono (by omega))) ⟨hinvH.out, Int.le_refl 0, hwt1, .inl rfl⟩)
              go_wp2_with fail
              generalize ((((wr.setCell ⟨gx, 0, none⟩ (.slice (some ⟨gl2, 0, none⟩) P.length cl2)).setCell ⟨gx, 1, none⟩ (.int .i64 gr2)).setCell ⟨gx, 2, none⟩ (.slice (some ⟨gn2, 0, none⟩) 2 cn2)).setCell ⟨gx, 3, none⟩ (.int .i64 0)) = WF at hfin ⊢
              obtain ⟨hRF, hend⟩ := hfin.out
              have hendH := Lib.hid hend
              have z0 := hRF.cell 0
              have z1 := hRF.cell 1
              have z2 := hRF.cell 2
              have z3 := hRF.cell 3
              have zz := hRF.lt
              clear hRF hend
              simp at z0 z1 z2 z3
              refine bodyPost_ret (v := .agg #[.slice (some ⟨gl2, 0, none⟩) P.length cl2, .int .i64 gr2, .slice (some ⟨gn2, 0, none⟩) 2 cn2, .int .i64 0]) (by simp [results, Try.results51, go_sem, z0, z1, z2, z3, zz]) rfl hendH.out

end Go.Proofs.Ytepodpdcillkmaa
