/- (*Deck).Agency; what deck-made rows keep (printed by tools/genCfgF.py). -/
import Derived.Test.YtepodpdcillkmaaCfgE
namespace Go.Proofs.Ytepodpdcillkmaa
open Go.RowKit
set_option linter.unusedVariables false
set_option linter.unusedSimpArgs false

theorem blk_cell {W w : World} {b : Nat} (h : w.heap[b]? = W.heap[b]?) (o : Nat) : w.cell? ⟨b, o, none⟩ = W.cell? ⟨b, o, none⟩ := by
  simp [World.cell?, h]
/-- The block's first cell is an int. -/
def IntBlk (w : World) (b : Nat) : Prop := ∃ z, w.cell? ⟨b, 0, none⟩ = some (.int .i64 z)
theorem IntBlk.lt {w : World} {b : Nat} (h : IntBlk w b) : b < w.heap.size := by
  obtain ⟨z, h⟩ := h
  exact World.block_lt_of_cell? w _ h
theorem Box.noInt {w : World} {g : Nat} {t : TypeId} {cs : Array Value} (h : Box w g t cs) (h0 : ∀ z, cs[0]? ≠ some (.int .i64 z)) : ¬ IntBlk w g := by
  rintro ⟨z, hz⟩
  rw [h.cell 0] at hz
  exact h0 z hz
/-- Blocks of ints stand. -/
structure Keep (w w' : World) : Prop where
  siz : w.heap.size ≤ w'.heap.size
  blk : ∀ b, IntBlk w b → w'.heap[b]? = w.heap[b]?
theorem Keep.int {w w' : World} (h : Keep w w') {b : Nat} (hb : IntBlk w b) : IntBlk w' b := by
  obtain ⟨z, hz⟩ := hb
  exact ⟨z, (blk_cell (h.blk b ⟨z, hz⟩) 0).trans hz⟩
theorem Keep.trans {a b c : World} (h : Keep a b) (k : Keep b c) : Keep a c := ⟨Nat.le_trans h.siz k.siz, fun x hx => (k.blk x (h.int hx)).trans (h.blk x hx)⟩
theorem keep_below {w w' : World} (h : Below w.heap.size w w') : Keep w w' := ⟨h.size, fun b hb => h.block b hb.lt⟩
theorem keep_only {w w' : World} {g : Nat} (h : w.grownBy w' (some g)) (hg : ¬ IntBlk w g) : Keep w w' := ⟨h.size, fun b hb => h.block b hb.lt (fun e => by injection e with e; subst e; exact hg hb)⟩
theorem keep_none {w w' : World} (h : w.grownBy w' none) : Keep w w' := ⟨h.size, fun b hb => h.block b hb.lt (by simp)⟩
theorem keep_put {w : World} {g : Nat} (hg : ¬ IntBlk w g) (i : Nat) (u : Value) : Keep w (w.setCell ⟨g, i, none⟩ u) := ⟨by simp, fun b hb => Below.heap_setCell w _ u b (fun e => by subst e; exact hg hb)⟩
theorem deck_noInt {w : World} {g : Nat} (h : HasDeck w g) : ¬ IntBlk w g := by
  obtain ⟨l, A, cap, k, zs, hb, _⟩ := h
  exact hb.noInt (fun z e => by simp at e)

def AElem0 (w : World) (c : List Value) (d : Ad) : Prop := ∃ As sc gl lc, c = [.slice As d.sl sc, .int .i64 d.ri, .int .i64 d.cls, .slice (some ⟨gl, 0, none⟩) d.lims.length lc, .int .i64 d.rq, .int .i64 d.se, .int .i64 d.ra, .int .i64 d.bu] ∧ Ints w w.heap.size (some ⟨gl, 0, none⟩) d.lims ∧ 1 ≤ d.lims.length ∧ d.lims.length ≤ 60 ∧ d.sl ≤ 60
theorem ints_int {w : World} {B gl : Nat} {xs : List Int} (h : Ints w B (some ⟨gl, 0, none⟩) xs) (h1 : 1 ≤ xs.length) : IntBlk w gl := by
  obtain ⟨b, off, e, _, hc⟩ := h 0 (by omega)
  injection e with e
  injection e with e1 e2
  subst e1 e2
  exact ⟨_, hc⟩
theorem phs_int {w : World} {B gl : Nat} {xs : List Ph} (h : Phs w B (some ⟨gl, 0, none⟩) xs) (h1 : 1 ≤ xs.length) : IntBlk w gl := by
  obtain ⟨b, off, e, _, hc⟩ := h 0 (by omega)
  injection e with e
  injection e with e1 e2
  subst e1 e2
  exact ⟨_, hc.c0⟩
theorem ints_keep {w w' : World} {gl : Nat} {xs : List Int} (h : Ints w w.heap.size (some ⟨gl, 0, none⟩) xs) (h1 : 1 ≤ xs.length) (k : Keep w w') : Ints w' w'.heap.size (some ⟨gl, 0, none⟩) xs := fun i hi => by
  have hb := k.blk gl (ints_int h h1)
  obtain ⟨b, off, e, hlt, hc⟩ := h i hi
  injection e with e
  injection e with e1 e2
  subst e1 e2
  exact ⟨gl, 0, rfl, Nat.lt_of_lt_of_le hlt k.siz, (blk_cell hb _).trans hc⟩
theorem phs_keep {w w' : World} {gl : Nat} {xs : List Ph} (h : Phs w w.heap.size (some ⟨gl, 0, none⟩) xs) (h1 : 1 ≤ xs.length) (k : Keep w w') : Phs w' w'.heap.size (some ⟨gl, 0, none⟩) xs := fun i hi => by
  have hb := k.blk gl (phs_int h h1)
  obtain ⟨b, off, e, hlt, hc⟩ := h i hi
  injection e with e
  injection e with e1 e2
  subst e1 e2
  exact ⟨gl, 0, rfl, Nat.lt_of_lt_of_le hlt k.siz, ⟨(blk_cell hb _).trans hc.c0, (blk_cell hb _).trans hc.c1, (blk_cell hb _).trans hc.c2, (blk_cell hb _).trans hc.c3, (blk_cell hb _).trans hc.c4, (blk_cell hb _).trans hc.c5, (blk_cell hb _).trans hc.c6, (blk_cell hb _).trans hc.c7⟩⟩
def JElem0 (w : World) (c : List Value) (d : Jd) : Prop := ∃ gp cap gc cap2, c = [.slice (some ⟨gp, 0, none⟩) d.P.length cap, .slice (some ⟨gc, 0, none⟩) d.C.length cap2, .int .i64 d.s] ∧ Phs w w.heap.size (some ⟨gp, 0, none⟩) d.P ∧ Ints w w.heap.size (some ⟨gc, 0, none⟩) d.C ∧ 1 ≤ d.P.length ∧ 1 ≤ d.C.length ∧ d.P.length ≤ 15 ∧ d.C.length ≤ 15
theorem JElem0.keep {w w' : World} {c : List Value} {d : Jd} (h : JElem0 w c d) (k : Keep w w') : JElem0 w' c d := by
  obtain ⟨gp, cap, gc, cap2, e, h1, h2, h3, h4, h5⟩ := h
  exact ⟨gp, cap, gc, cap2, e, phs_keep h1 h3 k, ints_keep h2 h4 k, h3, h4, h5⟩
theorem AElem0.keep {w w' : World} {c : List Value} {d : Ad} (h : AElem0 w c d) (k : Keep w w') : AElem0 w' c d := by
  obtain ⟨As, sc, gl, lc, e, h1, h2, h3⟩ := h
  exact ⟨As, sc, gl, lc, e, ints_keep h1 h2 k, h2, h3⟩
theorem JElem0.elem {w : World} {c : List Value} {d : Jd} (h : JElem0 w c d) : JElem 60 w w.heap.size c d := by
  obtain ⟨gp, cap, gc, cap2, e, h1, h2, h3, h4, h5, h6⟩ := h
  exact ⟨_, _, _, _, e, h1, h2, by omega, by omega⟩
theorem AElem0.elem {w : World} {c : List Value} {d : Ad} (h : AElem0 w c d) : AElem 60 w w.heap.size c d := by
  obtain ⟨As, sc, gl, lc, e, h1, h2, h3, h4⟩ := h
  exact ⟨_, _, _, _, e, h1, h3, h4⟩

/-- What Agency leaves. -/
def DAPost (g : Nat) (w : World) (e : Ending) (w' : World) : Prop :=
  ∃ c d, e = .returned (.agg (List.toArray c)) ∧ AElem0 w' c d ∧ agOk d = true ∧ HasDeck w' g ∧ w.grownBy w' (some g)
/-- Within the last region: the deck, the agency's variable with any burst, its limits. -/
structure AgS (w0 : World) (g ga gl : Nat) (vs : Value) (ri : Int) (lims : List Int) (rq se ra : Int) (w : World) : Prop where
  deck : HasDeck w g
  only : w0.grownBy w (some g)
  box : ∃ bu, Box w ga 66 #[vs, .int .i64 ri, .int .i64 3, .slice (some ⟨gl, 0, none⟩) 4 4, .int .i64 rq, .int .i64 se, .int .i64 ra, .int .i64 bu]
  row : Box w gl 3 (icells lims)

section
variable {w0 W w w' : World} {g ga gl : Nat} {vs : Value} {ri : Int} {lims : List Int} {rq se ra : Int}
theorem ags_start (h : AgS w0 g ga gl vs ri lims rq se ra W) (hc : W.cell? ⟨ga, 6, none⟩ = some (.int .i64 ra)) : AgS w0 g ga gl vs ri lims rq se ra W.drew ∧ W.drew.cell? ⟨ga, 6, none⟩ = some (.int .i64 ra) :=
  ⟨⟨h.deck.drew, only_drew h.only, h.box, h.row⟩, hc⟩
theorem ags_cell6 (h : AgS w0 g ga gl vs ri lims rq se ra w) : w.cell? ⟨ga, 6, none⟩ = some (.int .i64 ra) := by
  obtain ⟨bu, hb⟩ := h.box
  rw [hb.cell 6]; rfl
theorem ags_call (h : AgS w0 g ga gl vs ri lims rq se ra w ∧ w.cell? ⟨ga, 6, none⟩ = some (.int .i64 ra)) (hd : Drawn w g w') (h1 : ga ≠ g) (h2 : gl ≠ g) : AgS w0 g ga gl vs ri lims rq se ra w' ∧ w'.cell? ⟨ga, 6, none⟩ = some (.int .i64 ra) := by
  obtain ⟨bu, hb⟩ := h.1.box
  have k : AgS w0 g ga gl vs ri lims rq se ra w' := ⟨hd.deck, only_trans h.1.only hd.only, ⟨bu, hb.grown hd.only (fun e => h1 (by injection e))⟩, h.1.row.grown hd.only (fun e => h2 (by injection e))⟩
  exact ⟨k, ags_cell6 k⟩
theorem ags_put (h : AgS w0 g ga gl vs ri lims rq se ra w ∧ w.cell? ⟨ga, 6, none⟩ = some (.int .i64 ra)) (h1 : gl ≠ ga) (h2 : w0.heap.size ≤ ga) (h3 : g < ga) (bu : Int) : AgS w0 g ga gl vs ri lims rq se ra (w.setCell ⟨ga, 7, none⟩ (.int .i64 bu)) ∧ (w.setCell ⟨ga, 7, none⟩ (.int .i64 bu)).cell? ⟨ga, 6, none⟩ = some (.int .i64 ra) := by
  obtain ⟨bu', hb⟩ := h.1.box
  have k : AgS w0 g ga gl vs ri lims rq se ra (w.setCell ⟨ga, 7, none⟩ (.int .i64 bu)) := ⟨h.1.deck.far h3 _, only_far h.1.only h2 _, ⟨bu, hb.put_eq (by simp)⟩, h.1.row.far h1 _⟩
  exact ⟨k, ags_cell6 k⟩
end

set_option maxRecDepth 100000 in
set_option maxHeartbeats 8000000 in
theorem dagency_any (g : Nat) (num ri : Int) (w : World) (hd : HasDeck w g) (hr0 : 0 ≤ ri) (hr1 : ri ≤ 63) :
    Calls Try.prog 61 #[.pointer (some ⟨g, 0, none⟩), .int .i64 num, .int .i64 ri] w fun e w' => DAPost g w e w' := by
  have hgw := hd.lt
  have hdH := Lib.hid hd
  clear hd
  go_enter Try.func61, Try.ntmps61
  go_wp2_with fail
  have hW : Below w.heap.size w (w.alloc (.cells #[.slice none 0 0, .int .i64 0, .int .i64 0, .slice none 0 0, .int .i64 0, .int .i64 0, .int .i64 0, .int .i64 0] 66)) := (Below.refl _ _).alloc (Nat.le_refl _) _
  have hX : Hid (Box (w.alloc (.cells #[.slice none 0 0, .int .i64 0, .int .i64 0, .slice none 0 0, .int .i64 0, .int .i64 0, .int .i64 0, .int .i64 0] 66)) w.heap.size 66 #[.slice none 0 0, .int .i64 0, .int .i64 0, .slice none 0 0, .int .i64 0, .int .i64 0, .int .i64 0, .int .i64 0]) := Box.new _ _ _
  have hd0 : Hid (HasDeck (w.alloc (.cells #[.slice none 0 0, .int .i64 0, .int .i64 0, .slice none 0 0, .int .i64 0, .int .i64 0, .int .i64 0, .int .i64 0] 66)) g) := hdH.out.alloc _
  have hz0 : w.heap.size < (w.alloc (.cells #[.slice none 0 0, .int .i64 0, .int .i64 0, .slice none 0 0, .int .i64 0, .int .i64 0, .int .i64 0, .int .i64 0] 66)).heap.size := by simp
  have ho0 : Hid (w.grownBy (w.alloc (.cells #[.slice none 0 0, .int .i64 0, .int .i64 0, .slice none 0 0, .int .i64 0, .int .i64 0, .int .i64 0, .int .i64 0] 66)) (some g)) := only_below hW _
  generalize (w.alloc (.cells #[.slice none 0 0, .int .i64 0, .int .i64 0, .slice none 0 0, .int .i64 0, .int .i64 0, .int .i64 0, .int .i64 0] 66)) = W at hW hX hd0 hz0 ho0 ⊢
  refine (secret_any _ W).mono ?_; rintro e w1 ⟨gs, cs, rfl, hcs, hb1⟩
  have hX1 : Hid (Box w1 w.heap.size 66 #[.slice none 0 0, .int .i64 0, .int .i64 0, .slice none 0 0, .int .i64 0, .int .i64 0, .int .i64 0, .int .i64 0]) := hX.out.below hb1 hz0
  have hd1 : Hid (HasDeck w1 g) := hd0.out.below hb1
  have ho1 : Hid (w.grownBy w1 (some g)) := only_trans ho0.out (only_below hb1 _)
  have hz1 := ho1.out.size
  clear hW hX hd0 ho0 hb1 hz0
  have hneg : w.heap.size ≠ g := by omega
  go_wp2_with fail
  refine (range_has g 1 3 w1 hd1.out (by omega) (by omega) (by omega)).mono ?_; rintro e w2 ⟨v1, rfl, v1l, v1u, hdr⟩
  have hX2 : Hid (Box w2 w.heap.size 66 #[.slice none 0 0, .int .i64 0, .int .i64 0, .slice none 0 0, .int .i64 0, .int .i64 0, .int .i64 0, .int .i64 0]) := hX1.out.grown hdr.only (fun e => hneg (by injection e))
  have hd2 := Lib.hid hdr.deck
  have ho2 : Hid (w.grownBy w2 (some g)) := only_trans ho1.out hdr.only
  clear hdr hX1 hd1 ho1
  go_wp2_with fail
  refine (range_has g 1 3 w2 hd2.out (by omega) (by omega) (by omega)).mono ?_; rintro e w3 ⟨v2, rfl, v2l, v2u, hdr⟩
  have hX3 : Hid (Box w3 w.heap.size 66 #[.slice none 0 0, .int .i64 0, .int .i64 0, .slice none 0 0, .int .i64 0, .int .i64 0, .int .i64 0, .int .i64 0]) := hX2.out.grown hdr.only (fun e => hneg (by injection e))
  have hd3 := Lib.hid hdr.deck
  have ho3 : Hid (w.grownBy w3 (some g)) := only_trans ho2.out hdr.only
  clear hdr hX2 hd2 ho2
  go_wp2_with fail
  refine (next_has g 3 w3 hd3.out (by omega) (by omega)).mono ?_; rintro e w4 ⟨v3, rfl, v3l, v3u, hdr⟩
  have hX4 : Hid (Box w4 w.heap.size 66 #[.slice none 0 0, .int .i64 0, .int .i64 0, .slice none 0 0, .int .i64 0, .int .i64 0, .int .i64 0, .int .i64 0]) := hX3.out.grown hdr.only (fun e => hneg (by injection e))
  have hd4 := Lib.hid hdr.deck
  have ho4 : Hid (w.grownBy w4 (some g)) := only_trans ho3.out hdr.only
  clear hdr hX3 hd3 ho3
  go_wp2_with fail
  refine (next_has g 3 w4 hd4.out (by omega) (by omega)).mono ?_; rintro e w5 ⟨v4, rfl, v4l, v4u, hdr⟩
  have hX5 : Hid (Box w5 w.heap.size 66 #[.slice none 0 0, .int .i64 0, .int .i64 0, .slice none 0 0, .int .i64 0, .int .i64 0, .int .i64 0, .int .i64 0]) := hX4.out.grown hdr.only (fun e => hneg (by injection e))
  have hd5 := Lib.hid hdr.deck
  have ho5 : Hid (w.grownBy w5 (some g)) := only_trans ho4.out hdr.only
  clear hdr hX4 hd4 ho4
  go_wp2_with fail
  have hb6 : Below w5.heap.size w5 (w5.alloc (.cells #[.int .i64 v1, .int .i64 v2, .int .i64 v3, .int .i64 v4] 3)) := (Below.refl _ _).alloc (Nat.le_refl _) _
  have hR6 : Hid (Box (w5.alloc (.cells #[.int .i64 v1, .int .i64 v2, .int .i64 v3, .int .i64 v4] 3)) w5.heap.size 3 (icells [v1, v2, v3, v4])) := Box.new _ _ _
  have hX6 : Hid (Box (w5.alloc (.cells #[.int .i64 v1, .int .i64 v2, .int .i64 v3, .int .i64 v4] 3)) w.heap.size 66 #[.slice none 0 0, .int .i64 0, .int .i64 0, .slice none 0 0, .int .i64 0, .int .i64 0, .int .i64 0, .int .i64 0]) := hX5.out.alloc _
  have hd6 : Hid (HasDeck (w5.alloc (.cells #[.int .i64 v1, .int .i64 v2, .int .i64 v3, .int .i64 v4] 3)) g) := hd5.out.alloc _
  have ho6 : Hid (w.grownBy (w5.alloc (.cells #[.int .i64 v1, .int .i64 v2, .int .i64 v3, .int .i64 v4] 3)) (some g)) := only_alloc ho5.out _
  have hz5 := ho5.out.size
  have hxz5 := hX5.out.lt
  have hgl : w.heap.size < w5.heap.size := hxz5
  generalize (w5.alloc (.cells #[.int .i64 v1, .int .i64 v2, .int .i64 v3, .int .i64 v4] 3)) = w6 at hb6 hR6 hX6 hd6 ho6 ⊢
  obtain ⟨gl, hgle⟩ : ∃ x, x = w5.heap.size := ⟨_, rfl⟩
  rw [← hgle] at hR6 hgl ⊢
  have hnel : gl ≠ g := by omega
  clear hgle hb6 hX5 hd5 ho5 hz5 hxz5
  refine (range_has g 1 3 w6 hd6.out (by omega) (by omega) (by omega)).mono ?_; rintro e w7 ⟨rq, rfl, rql, rqu, hdr⟩
  have hX7 : Hid (Box w7 w.heap.size 66 #[.slice none 0 0, .int .i64 0, .int .i64 0, .slice none 0 0, .int .i64 0, .int .i64 0, .int .i64 0, .int .i64 0]) := hX6.out.grown hdr.only (fun e => hneg (by injection e))
  have hR7 : Hid (Box w7 gl 3 (icells [v1, v2, v3, v4])) := hR6.out.grown hdr.only (fun e => hnel (by injection e))
  have hd7 := Lib.hid hdr.deck
  have ho7 : Hid (w.grownBy w7 (some g)) := only_trans ho6.out hdr.only
  clear hdr hX6 hd6 ho6 hR6
  go_wp2_with fail
  refine (range_has g 1 2 w7 hd7.out (by omega) (by omega) (by omega)).mono ?_; rintro e w8 ⟨se, rfl, sel, seu, hdr⟩
  have hX8 : Hid (Box w8 w.heap.size 66 #[.slice none 0 0, .int .i64 0, .int .i64 0, .slice none 0 0, .int .i64 0, .int .i64 0, .int .i64 0, .int .i64 0]) := hX7.out.grown hdr.only (fun e => hneg (by injection e))
  have hR8 : Hid (Box w8 gl 3 (icells [v1, v2, v3, v4])) := hR7.out.grown hdr.only (fun e => hnel (by injection e))
  have hd8 := Lib.hid hdr.deck
  have ho8 : Hid (w.grownBy w8 (some g)) := only_trans ho7.out hdr.only
  clear hdr hX7 hd7 ho7 hR7
  go_wp2_with fail
  refine (range_has g 1 3 w8 hd8.out (by omega) (by omega) (by omega)).mono ?_; rintro e w9 ⟨ra, rfl, ral, rau, hdr⟩
  have hX9 : Hid (Box w9 w.heap.size 66 #[.slice none 0 0, .int .i64 0, .int .i64 0, .slice none 0 0, .int .i64 0, .int .i64 0, .int .i64 0, .int .i64 0]) := hX8.out.grown hdr.only (fun e => hneg (by injection e))
  have hR9 : Hid (Box w9 gl 3 (icells [v1, v2, v3, v4])) := hR8.out.grown hdr.only (fun e => hnel (by injection e))
  have hd9 := Lib.hid hdr.deck
  have ho9 : Hid (w.grownBy w9 (some g)) := only_trans ho8.out hdr.only
  clear hdr hX8 hd8 ho8 hR8
  go_upto_region 2 with fail
  have hY : Hid (Box (w9.alloc (.cells #[.slice (some ⟨gs, 0, none⟩) 8 cs, .int .i64 ri, .int .i64 3, .slice (some ⟨gl, 0, none⟩) 4 4, .int .i64 rq, .int .i64 se, .int .i64 ra, .int .i64 0] 66)) w9.heap.size 66 #[.slice (some ⟨gs, 0, none⟩) 8 cs, .int .i64 ri, .int .i64 3, .slice (some ⟨gl, 0, none⟩) 4 4, .int .i64 rq, .int .i64 se, .int .i64 ra, .int .i64 0]) := Box.new _ _ _
  have hX : Hid (Box (w9.alloc (.cells #[.slice (some ⟨gs, 0, none⟩) 8 cs, .int .i64 ri, .int .i64 3, .slice (some ⟨gl, 0, none⟩) 4 4, .int .i64 rq, .int .i64 se, .int .i64 ra, .int .i64 0] 66)) w.heap.size 66 #[.slice none 0 0, .int .i64 0, .int .i64 0, .slice none 0 0, .int .i64 0, .int .i64 0, .int .i64 0, .int .i64 0]) := hX9.out.alloc _
  have hR : Hid (Box (w9.alloc (.cells #[.slice (some ⟨gs, 0, none⟩) 8 cs, .int .i64 ri, .int .i64 3, .slice (some ⟨gl, 0, none⟩) 4 4, .int .i64 rq, .int .i64 se, .int .i64 ra, .int .i64 0] 66)) gl 3 (icells [v1, v2, v3, v4])) := hR9.out.alloc _
  have hd : Hid (HasDeck (w9.alloc (.cells #[.slice (some ⟨gs, 0, none⟩) 8 cs, .int .i64 ri, .int .i64 3, .slice (some ⟨gl, 0, none⟩) 4 4, .int .i64 rq, .int .i64 se, .int .i64 ra, .int .i64 0] 66)) g) := hd9.out.alloc _
  have ho : Hid (w.grownBy (w9.alloc (.cells #[.slice (some ⟨gs, 0, none⟩) 8 cs, .int .i64 ri, .int .i64 3, .slice (some ⟨gl, 0, none⟩) 4 4, .int .i64 rq, .int .i64 se, .int .i64 ra, .int .i64 0] 66)) (some g)) := only_alloc ho9.out _
  have hga := ho9.out.size
  have hxz := hX9.out.lt
  have hrz := hR9.out.lt
  generalize (w9.alloc (.cells #[.slice (some ⟨gs, 0, none⟩) 8 cs, .int .i64 ri, .int .i64 3, .slice (some ⟨gl, 0, none⟩) 4 4, .int .i64 rq, .int .i64 se, .int .i64 ra, .int .i64 0] 66)) = Y at hY hX hR hd ho ⊢
  obtain ⟨ga, hgae⟩ : ∃ x, x = w9.heap.size := ⟨_, rfl⟩
  rw [← hgae] at hY hga hxz hrz ⊢
  clear hgae hX9 hR9 hd9 ho9
  have hnga : ga ≠ g := by omega
  have hngl : gl ≠ ga := by omega
  have hS0 : Hid (AgS w g ga gl (.slice (some ⟨gs, 0, none⟩) 8 cs) ri [v1, v2, v3, v4] rq se ra Y) := ⟨hd.out, ho.out, ⟨0, hY.out⟩, hR.out⟩
  have y6 := hY.out.cell 6
  have yz := hY.out.lt
  simp at y6
  have hXY : Hid (∀ W', Y.grownBy W' (some g) → Box W' w.heap.size 66 #[.slice none 0 0, .int .i64 0, .int .i64 0, .slice none 0 0, .int .i64 0, .int .i64 0, .int .i64 0, .int .i64 0]) := Lib.hid fun W' h => hX.out.grown h (fun e => hneg (by injection e))
  clear hd ho hY hR hX
  go_region_held3 (fun w' => AgS w g ga gl (.slice (some ⟨gs, 0, none⟩) 8 cs) ri [v1, v2, v3, v4] rq se ra w' ∧ w'.cell? ⟨ga, 6, none⟩ = some (.int .i64 ra))
    (first | exact ags_start hS0.out y6 | exact ags_call (by assumption) (by assumption) hnga hnel | exact ags_put (by assumption) hngl (by omega) (by omega) _)
    (first
      | (go_at_call 47; refine (next_has g 5 _ (AgS.deck (And.left (show AgS w g ga gl (.slice (some ⟨gs, 0, none⟩) 8 cs) ri [v1, v2, v3, v4] rq se ra _ ∧ _ by with_reducible assumption))) (by omega) (by omega)).mono ?_; rintro e w' ⟨bv, rfl, bv0, bv1, hdr⟩; obtain ⟨bu0, hbx⟩ := AgS.box (And.left (ags_call (show AgS w g ga gl (.slice (some ⟨gs, 0, none⟩) 8 cs) ri [v1, v2, v3, v4] rq se ra _ ∧ _ by with_reducible assumption) hdr hnga hnel)); have b7 := hbx.cell 7; have bf := hbx.frozen; have bz := hbx.lt; simp at b7))
  rename_i hHX
  have hwr : IntKind.i64.wrap (ra + bv) = ra + bv := by rw [IntKind.wrap_i64]; omega
  rw [hwr] at hHX ⊢
  obtain ⟨bu, hbu⟩ : ∃ x, x = ra + bv := ⟨_, rfl⟩
  rw [← hbu] at hHX ⊢
  have hbu0 : ra ≤ bu := by omega
  have hbu1 : bu ≤ 7 := by omega
  have hBZ : Hid (Box (w'.setCell ⟨ga, 7, none⟩ (.int .i64 bu)) ga 66 #[.slice (some ⟨gs, 0, none⟩) 8 cs, .int .i64 ri, .int .i64 3, .slice (some ⟨gl, 0, none⟩) 4 4, .int .i64 rq, .int .i64 se, .int .i64 ra, .int .i64 bu]) := hbx.put_eq (by simp)
  have hXZ : Hid (Box (w'.setCell ⟨ga, 7, none⟩ (.int .i64 bu)) w.heap.size 66 #[.slice none 0 0, .int .i64 0, .int .i64 0, .slice none 0 0, .int .i64 0, .int .i64 0, .int .i64 0, .int .i64 0]) := (hXY.out _ (only_of_drew hdr.only)).far (by dsimp only; omega) _
  have hRZ : Hid (Box (w'.setCell ⟨ga, 7, none⟩ (.int .i64 bu)) gl 3 (icells [v1, v2, v3, v4])) := hHX.1.row
  have hdZ : Hid (HasDeck (w'.setCell ⟨ga, 7, none⟩ (.int .i64 bu)) g) := hHX.1.deck
  have hoZ : Hid (w.grownBy (w'.setCell ⟨ga, 7, none⟩ (.int .i64 bu)) (some g)) := hHX.1.only
  clear hHX hwr hbu hbx bf bz b7 hdr hXY hS0 y6 yz
  generalize (w'.setCell ⟨ga, 7, none⟩ (.int .i64 bu)) = Z at hBZ hXZ hRZ hdZ hoZ ⊢
  have hglx : gl ≠ w.heap.size := by omega
  have hRF : Hid (Box ((((((((Z.setCell ⟨w.heap.size, 0, none⟩ (.slice (some ⟨gs, 0, none⟩) 8 cs)).setCell ⟨w.heap.size, 1, none⟩ (.int .i64 ri)).setCell ⟨w.heap.size, 2, none⟩ (.int .i64 3)).setCell ⟨w.heap.size, 3, none⟩ (.slice (some ⟨gl, 0, none⟩) 4 4)).setCell ⟨w.heap.size, 4, none⟩ (.int .i64 rq)).setCell ⟨w.heap.size, 5, none⟩ (.int .i64 se)).setCell ⟨w.heap.size, 6, none⟩ (.int .i64 ra)).setCell ⟨w.heap.size, 7, none⟩ (.int .i64 bu)) w.heap.size 66 #[.slice (some ⟨gs, 0, none⟩) 8 cs, .int .i64 ri, .int .i64 3, .slice (some ⟨gl, 0, none⟩) 4 4, .int .i64 rq, .int .i64 se, .int .i64 ra, .int .i64 bu]) := (((((((hXZ.out.put 0 _).put 1 _).put 2 _).put 3 _).put 4 _).put 5 _).put 6 _).put_eq (i := 7) (by simp)
  have hrow : Hid (Box ((((((((Z.setCell ⟨w.heap.size, 0, none⟩ (.slice (some ⟨gs, 0, none⟩) 8 cs)).setCell ⟨w.heap.size, 1, none⟩ (.int .i64 ri)).setCell ⟨w.heap.size, 2, none⟩ (.int .i64 3)).setCell ⟨w.heap.size, 3, none⟩ (.slice (some ⟨gl, 0, none⟩) 4 4)).setCell ⟨w.heap.size, 4, none⟩ (.int .i64 rq)).setCell ⟨w.heap.size, 5, none⟩ (.int .i64 se)).setCell ⟨w.heap.size, 6, none⟩ (.int .i64 ra)).setCell ⟨w.heap.size, 7, none⟩ (.int .i64 bu)) gl 3 (icells [v1, v2, v3, v4])) := ((((((((hRZ.out.far hglx _).far hglx _).far hglx _).far hglx _).far hglx _).far hglx _).far hglx _).far hglx _)
  have hend : Hid (DAPost g w (.returned (.agg (List.toArray [.slice (some ⟨gs, 0, none⟩) 8 cs, .int .i64 ri, .int .i64 3, .slice (some ⟨gl, 0, none⟩) 4 4, .int .i64 rq, .int .i64 se, .int .i64 ra, .int .i64 bu]))) ((((((((Z.setCell ⟨w.heap.size, 0, none⟩ (.slice (some ⟨gs, 0, none⟩) 8 cs)).setCell ⟨w.heap.size, 1, none⟩ (.int .i64 ri)).setCell ⟨w.heap.size, 2, none⟩ (.int .i64 3)).setCell ⟨w.heap.size, 3, none⟩ (.slice (some ⟨gl, 0, none⟩) 4 4)).setCell ⟨w.heap.size, 4, none⟩ (.int .i64 rq)).setCell ⟨w.heap.size, 5, none⟩ (.int .i64 se)).setCell ⟨w.heap.size, 6, none⟩ (.int .i64 ra)).setCell ⟨w.heap.size, 7, none⟩ (.int .i64 bu))) :=
    ⟨[.slice (some ⟨gs, 0, none⟩) 8 cs, .int .i64 ri, .int .i64 3, .slice (some ⟨gl, 0, none⟩) 4 4, .int .i64 rq, .int .i64 se, .int .i64 ra, .int .i64 bu], ⟨8, ri, 3, [v1, v2, v3, v4], rq, se, ra, bu⟩, rfl, ⟨_, _, gl, 4, rfl, hrow.out.iints hrow.out.lt, by simp, by simp, by simp⟩, by simp [agOk, wi]; omega, (HasDeck.far (HasDeck.far (HasDeck.far (HasDeck.far (HasDeck.far (HasDeck.far (HasDeck.far (HasDeck.far hdZ.out hgw _) hgw _) hgw _) hgw _) hgw _) hgw _) hgw _) hgw _), (only_far (only_far (only_far (only_far (only_far (only_far (only_far (only_far hoZ.out (Nat.le_refl _) _) (Nat.le_refl _) _) (Nat.le_refl _) _) (Nat.le_refl _) _) (Nat.le_refl _) _) (Nat.le_refl _) _) (Nat.le_refl _) _) (Nat.le_refl _) _)⟩
  have x0 := hXZ.out.cell 0
  have x1 := hXZ.out.cell 1
  have x2 := hXZ.out.cell 2
  have x3 := hXZ.out.cell 3
  have x4 := hXZ.out.cell 4
  have x5 := hXZ.out.cell 5
  have x6 := hXZ.out.cell 6
  have x7 := hXZ.out.cell 7
  have xf := hXZ.out.frozen
  have xz := hXZ.out.lt
  have y0 := hBZ.out.cell 0
  have y1 := hBZ.out.cell 1
  have y2 := hBZ.out.cell 2
  have y3 := hBZ.out.cell 3
  have y4 := hBZ.out.cell 4
  have y5 := hBZ.out.cell 5
  have y6 := hBZ.out.cell 6
  have y7 := hBZ.out.cell 7
  have yz := hBZ.out.lt
  simp at x0 x1 x2 x3 x4 x5 x6 x7 y0 y1 y2 y3 y4 y5 y6 y7
  clear hrow hXZ hRZ hdZ hoZ hBZ
  go_wp2_with fail
  clear x0 x1 x2 x3 x4 x5 x6 x7 y0 y1 y2 y3 y4 y5 y6 y7 xf xz yz
  generalize ((((((((Z.setCell ⟨w.heap.size, 0, none⟩ (.slice (some ⟨gs, 0, none⟩) 8 cs)).setCell ⟨w.heap.size, 1, none⟩ (.int .i64 ri)).setCell ⟨w.heap.size, 2, none⟩ (.int .i64 3)).setCell ⟨w.heap.size, 3, none⟩ (.slice (some ⟨gl, 0, none⟩) 4 4)).setCell ⟨w.heap.size, 4, none⟩ (.int .i64 rq)).setCell ⟨w.heap.size, 5, none⟩ (.int .i64 se)).setCell ⟨w.heap.size, 6, none⟩ (.int .i64 ra)).setCell ⟨w.heap.size, 7, none⟩ (.int .i64 bu)) = WF at hRF hend ⊢
  have z0 := hRF.out.cell 0
  have z1 := hRF.out.cell 1
  have z2 := hRF.out.cell 2
  have z3 := hRF.out.cell 3
  have z4 := hRF.out.cell 4
  have z5 := hRF.out.cell 5
  have z6 := hRF.out.cell 6
  have z7 := hRF.out.cell 7
  have zz := hRF.out.lt
  simp at z0 z1 z2 z3 z4 z5 z6 z7
  refine bodyPost_ret (v := .agg #[.slice (some ⟨gs, 0, none⟩) 8 cs, .int .i64 ri, .int .i64 3, .slice (some ⟨gl, 0, none⟩) 4 4, .int .i64 rq, .int .i64 se, .int .i64 ra, .int .i64 bu]) (by simp [results, Try.results61, go_sem, z0, z1, z2, z3, z4, z5, z6, z7, zz]) rfl hend.out

end Go.Proofs.Ytepodpdcillkmaa
