/- The contract of signalbrokermake's (*Deck).Junction: a made junction. -/
import Derived.Test.YtepodpdcillkmaaPhase
import Derived.Deep.LoopGhost
import Derived.Deep.DeepCutAuto
import Derived.Deep.AppendLies
import Derived.Lib.SmallJoins
namespace Go.Proofs.Ytepodpdcillkmaa
open Go.RowKit
set_option linter.unusedVariables false
set_option linter.unusedSimpArgs false

theorem phase_info : (Try.prog.info? 55).map (fun i => (i.zero, i.size, i.bytes)) = some (some (pz.val), 8, 64) := by kernel_rfl

abbrev nilS : Value := .slice none 0 0
/-- The relation of the loop over the shape. -/
def JRel (w : World) (g gj gs n : Nat) (st : Int) (i : Nat) (wr : World) : Prop :=
  ∃ (P : List Ph) (vP : Value), P.length = i ∧ P.map (fun p => (p.r, p.g)) = (shapeOf n).take i ∧ (∀ p ∈ P, PhOk p) ∧
    Box wr gj 26 #[vP, nilS, .int .i64 st] ∧ wr.ownsRow (gj + 1) 55 8 vP i (P.flatMap Ph.cells) ∧ Box wr gs 45 (shapeCells (shapeOf n)) ∧
    Box wr w.heap.size 26 #[nilS, nilS, .int .i64 0] ∧ HasDeck wr g ∧ w.grownBy wr (some g)

/-- What region 6 leaves. -/
def C6 (W : World) (g N : Nat) (sr sg : Int) (v : Value) (wx : World) : Prop :=
  ∃ mn ye re : Int, v = .pointer (some ⟨N, 0, none⟩) ∧
    Box wx N 55 #[.int .i64 sr, .int .i64 sg, .int .i64 mn, .int .i64 0, .int .i64 ye, .int .i64 re, .int .i64 0, .int .i64 0] ∧ HasDeck wx g ∧ W.grownBy wx (some g) ∧
    1 ≤ mn ∧ mn ≤ 3 ∧ 1 ≤ ye ∧ ye ≤ 2 ∧ 0 ≤ re ∧ re ≤ 2
theorem Box.drawn {w w' : World} {b g : Nat} {t : TypeId} {cs : Array Value} (h : Box w b t cs) (hd : Drawn w g w') (hne : b ≠ g) : Box w' b t cs := (only_blocks hd.only hd.size b hne).trans h
theorem boxAt {w : World} {N : Nat} (h : w.heap.size = N) (t : TypeId) (cs : Array Value) : Box (w.alloc (.cells cs t)) N t cs := h ▸ Box.new w t cs
theorem only_of_drew {a b : World} {r : Option Nat} (h : a.drew.grownBy b r) : a.grownBy b r := ⟨h.os, h.tape, h.output, h.size, h.block⟩
theorem only_of_alloc_drew {a b : World} {r : Option Nat} {o : Obj} (h : (a.alloc o).drew.grownBy b r) : a.grownBy b r := only_trans (only_alloc (only_refl a r) o) (only_of_drew h)
theorem boxDrew {w : World} {N : Nat} {t : TypeId} {cs : Array Value} (h : w.heap.size = N) : Box (w.alloc (.cells cs t)).drew N t cs := boxAt h t cs
theorem c6_new {W w' : World} {g N : Nat} {sr sg mn ye re : Int} (hz : w'.heap.size = N) (hd : HasDeck w' g) (ho : W.grownBy w' (some g)) (m0 : 1 ≤ mn) (m1 : mn ≤ 3) (y0 : 1 ≤ ye) (y1 : ye ≤ 2) (r0 : 0 ≤ re) (r1 : re ≤ 2) :
    C6 W g N sr sg (.pointer (some ⟨N, 0, none⟩)) (w'.alloc (.cells #[.int .i64 sr, .int .i64 sg, .int .i64 mn, .int .i64 0, .int .i64 ye, .int .i64 re, .int .i64 0, .int .i64 0] 55)) :=
  ⟨mn, ye, re, rfl, boxAt hz _ _, hd.alloc _, only_alloc ho _, m0, m1, y0, y1, r0, r1⟩
theorem c6_put {W w' : World} {g N : Nat} {sr sg mn ye re : Int} (hb : Box w' N 55 #[.int .i64 0, .int .i64 0, .int .i64 0, .int .i64 0, .int .i64 0, .int .i64 0, .int .i64 0, .int .i64 0]) (hN : W.heap.size ≤ N) (hgN : g < N) (hd : HasDeck w' g) (ho : W.grownBy w' (some g)) (m0 : 1 ≤ mn) (m1 : mn ≤ 3) (y0 : 1 ≤ ye) (y1 : ye ≤ 2) (r0 : 0 ≤ re) (r1 : re ≤ 2) :
    C6 W g N sr sg (.pointer (some ⟨N, 0, none⟩)) ((((((((w'.setCell ⟨N, 0, none⟩ (.int .i64 sr)).setCell ⟨N, 1, none⟩ (.int .i64 sg)).setCell ⟨N, 2, none⟩ (.int .i64 mn)).setCell ⟨N, 3, none⟩ (.int .i64 0)).setCell ⟨N, 4, none⟩ (.int .i64 ye)).setCell ⟨N, 5, none⟩ (.int .i64 re)).setCell ⟨N, 6, none⟩ (.int .i64 0)).setCell ⟨N, 7, none⟩ (.int .i64 0)) :=
  ⟨mn, ye, re, rfl, by
     have h := (((((((hb.put 0 (.int .i64 sr)).put 1 (.int .i64 sg)).put 2 (.int .i64 mn)).put 3 (.int .i64 0)).put 4 (.int .i64 ye)).put 5 (.int .i64 re)).put 6 (.int .i64 0)).put 7 (.int .i64 0)
     simpa only [List.setIfInBounds_toArray, List.set_cons_zero, List.set_cons_succ] using h,
   (((((((hd.far (p := ⟨N, 0, none⟩) hgN _).far (p := ⟨N, 1, none⟩) hgN _).far (p := ⟨N, 2, none⟩) hgN _).far (p := ⟨N, 3, none⟩) hgN _).far (p := ⟨N, 4, none⟩) hgN _).far (p := ⟨N, 5, none⟩) hgN _).far (p := ⟨N, 6, none⟩) hgN _).far (p := ⟨N, 7, none⟩) hgN _,
   only_far (p := ⟨N, 7, none⟩) (only_far (p := ⟨N, 6, none⟩) (only_far (p := ⟨N, 5, none⟩) (only_far (p := ⟨N, 4, none⟩) (only_far (p := ⟨N, 3, none⟩) (only_far (p := ⟨N, 2, none⟩) (only_far (p := ⟨N, 1, none⟩) (only_far (p := ⟨N, 0, none⟩) ho hN _) hN _) hN _) hN _) hN _) hN _) hN _) hN _,
   m0, m1, y0, y1, r0, r1⟩
/-- What the test of region 7 leaves. -/
def C7 (W : World) (g N : Nat) (sr sg mn ye re : Int) (wx : World) : Prop :=
  ∃ wa cl : Int, Box wx N 55 #[.int .i64 sr, .int .i64 sg, .int .i64 mn, .int .i64 0, .int .i64 ye, .int .i64 re, .int .i64 wa, .int .i64 cl] ∧ HasDeck wx g ∧ W.grownBy wx (some g) ∧
    ((wa = 0 ∧ cl = 0) ∨ (1 ≤ wa ∧ wa ≤ 2 ∧ 1 ≤ cl ∧ cl ≤ 2))
/-- What region 9 leaves. -/
def C9 (W : World) (g N : Nat) (sr sg mn ye re wa cl : Int) (wx : World) : Prop :=
  ∃ mx : Int, Box wx N 55 #[.int .i64 sr, .int .i64 sg, .int .i64 mn, .int .i64 mx, .int .i64 ye, .int .i64 re, .int .i64 wa, .int .i64 cl] ∧ HasDeck wx g ∧ W.grownBy wx (some g) ∧
    max mn (wa + cl) ≤ mx ∧ mx ≤ max mn (wa + cl) + 3
theorem grown_on {a b c : World} {g : Nat} {row : Option Nat} (h : a.grownBy b (some g)) (k : b.grownBy c row) (hr : ∀ q, row = some q → a.heap.size ≤ q) : a.grownBy c (some g) :=
  ⟨k.os.trans h.os, k.tape.trans h.tape, k.output.trans h.output, Nat.le_trans h.size k.size, fun i hi hn => (k.block i (Nat.lt_of_lt_of_le hi h.size) (fun e => by have := hr i e.symm; omega)).trans (h.block i hi hn)⟩
theorem r_start {w : World} {N g : Nat} {u v x : Value} (h2 : w.cell? ⟨N, 2, none⟩ = some u) (h6 : w.cell? ⟨N, 6, none⟩ = some v) (h7 : w.cell? ⟨N, 7, none⟩ = some x) (hd : Hid (HasDeck w g)) :
    w.drew.cell? ⟨N, 2, none⟩ = some u ∧ w.drew.cell? ⟨N, 6, none⟩ = some v ∧ w.drew.cell? ⟨N, 7, none⟩ = some x ∧ HasDeck w.drew g := ⟨h2, h6, h7, hd.out.drew⟩
theorem r_call {w' w'' : World} {N g : Nat} {u v x : Value} (h : w'.cell? ⟨N, 2, none⟩ = some u ∧ w'.cell? ⟨N, 6, none⟩ = some v ∧ w'.cell? ⟨N, 7, none⟩ = some x ∧ HasDeck w' g) (hd : Drawn w' g w'') (hne : N ≠ g) :
    w''.cell? ⟨N, 2, none⟩ = some u ∧ w''.cell? ⟨N, 6, none⟩ = some v ∧ w''.cell? ⟨N, 7, none⟩ = some x ∧ HasDeck w'' g := ⟨(hd.cell N 2 hne).trans h.1, (hd.cell N 6 hne).trans h.2.1, (hd.cell N 7 hne).trans h.2.2.1, hd.deck⟩
theorem r_put {w' : World} {N g : Nat} {u v x y : Value} (h : w'.cell? ⟨N, 2, none⟩ = some u ∧ w'.cell? ⟨N, 6, none⟩ = some v ∧ w'.cell? ⟨N, 7, none⟩ = some x ∧ HasDeck w' g) (hg : g < N) :
    (w'.setCell ⟨N, 3, none⟩ y).cell? ⟨N, 2, none⟩ = some u ∧ (w'.setCell ⟨N, 3, none⟩ y).cell? ⟨N, 6, none⟩ = some v ∧ (w'.setCell ⟨N, 3, none⟩ y).cell? ⟨N, 7, none⟩ = some x ∧ HasDeck (w'.setCell ⟨N, 3, none⟩ y) g :=
  ⟨(World.cell?_setCell_other _ _ _ _ (by simp)).trans h.1, (World.cell?_setCell_other _ _ _ _ (by simp)).trans h.2.1, (World.cell?_setCell_other _ _ _ _ (by simp)).trans h.2.2.1, h.2.2.2.far hg _⟩
theorem s_call {w' w'' : World} {b g : Nat} {u v : Value} (h : w'.cell? ⟨b, 0, none⟩ = some u ∧ w'.cell? ⟨b, 1, none⟩ = some v ∧ HasDeck w' g) (hd : Drawn w' g w'') (hne : b ≠ g) :
    w''.cell? ⟨b, 0, none⟩ = some u ∧ w''.cell? ⟨b, 1, none⟩ = some v ∧ HasDeck w'' g := ⟨(hd.cell b 0 hne).trans h.1, (hd.cell b 1 hne).trans h.2.1, hd.deck⟩
theorem s_alloc {w' : World} {b g : Nat} {u v : Value} (h : w'.cell? ⟨b, 0, none⟩ = some u ∧ w'.cell? ⟨b, 1, none⟩ = some v ∧ HasDeck w' g) (o : Obj) :
    (w'.alloc o).cell? ⟨b, 0, none⟩ = some u ∧ (w'.alloc o).cell? ⟨b, 1, none⟩ = some v ∧ HasDeck (w'.alloc o) g :=
  ⟨(World.cell?_alloc_lt _ _ _ (World.block_lt_of_cell? _ _ h.1)).trans h.1, (World.cell?_alloc_lt _ _ _ (World.block_lt_of_cell? _ _ h.2.1)).trans h.2.1, h.2.2.alloc _⟩
theorem s_alloc_drew {w' : World} {b g : Nat} {u v : Value} (h : w'.drew.cell? ⟨b, 0, none⟩ = some u ∧ w'.drew.cell? ⟨b, 1, none⟩ = some v ∧ HasDeck w'.drew g) (o : Obj) :
    (w'.alloc o).drew.cell? ⟨b, 0, none⟩ = some u ∧ (w'.alloc o).drew.cell? ⟨b, 1, none⟩ = some v ∧ HasDeck (w'.alloc o).drew g := s_alloc h o
theorem s_far {w' : World} {b g : Nat} {u v x : Value} {p : Addr} (h : w'.cell? ⟨b, 0, none⟩ = some u ∧ w'.cell? ⟨b, 1, none⟩ = some v ∧ HasDeck w' g) (h1 : b < p.block) (h2 : g < p.block) :
    (w'.setCell p x).cell? ⟨b, 0, none⟩ = some u ∧ (w'.setCell p x).cell? ⟨b, 1, none⟩ = some v ∧ HasDeck (w'.setCell p x) g :=
  ⟨(World.cell?_setCell_other _ _ _ _ (by rintro rfl; exact Nat.lt_irrefl _ h1)).trans h.1, (World.cell?_setCell_other _ _ _ _ (by rintro rfl; exact Nat.lt_irrefl _ h1)).trans h.2.1, h.2.2.far h2 _⟩
theorem s_start {w : World} {b g : Nat} {u v : Value} (h0 : w.cell? ⟨b, 0, none⟩ = some u) (h1 : w.cell? ⟨b, 1, none⟩ = some v) (h2 : Hid (HasDeck w g)) : w.drew.cell? ⟨b, 0, none⟩ = some u ∧ w.drew.cell? ⟨b, 1, none⟩ = some v ∧ HasDeck w.drew g := ⟨h0, h1, h2.out.drew⟩
theorem s_realloc {w' : World} {b g : Nat} {u v : Value} {o1 : Obj} (h : (w'.alloc o1).cell? ⟨b, 0, none⟩ = some u ∧ (w'.alloc o1).cell? ⟨b, 1, none⟩ = some v ∧ HasDeck (w'.alloc o1) g) (o2 : Obj) (hb : b < w'.heap.size) (hg : g < w'.heap.size) :
    (w'.alloc o2).cell? ⟨b, 0, none⟩ = some u ∧ (w'.alloc o2).cell? ⟨b, 1, none⟩ = some v ∧ HasDeck (w'.alloc o2) g := by
  have e := fun j => (World.cell?_alloc_lt w' o2 ⟨b, j, none⟩ hb).trans (World.cell?_alloc_lt w' o1 ⟨b, j, none⟩ hb).symm
  exact ⟨(e 0).trans h.1, (e 1).trans h.2.1, h.2.2.other fun k hk => (Below.heap_alloc w' o2 k (by omega)).trans (Below.heap_alloc w' o1 k (by omega)).symm⟩
theorem news_new (w : World) (l : List Value) (t : TypeId) : ∀ j u, l[j]? = some u → (w.alloc (.cells l.toArray t)).cell? ((⟨w.heap.size, 0, none⟩ : Addr).add j) = some u := by
  intro j u h
  rw [Addr.add_lit, Nat.zero_add, (Box.new w t l.toArray).cell j]
  simpa using h
theorem shape_at (l : List (Int × Int)) (i : Nat) (h : i < l.length) : (shapeCells l)[i * 2]? = some (.int .i64 (l.getD i (0, 0)).1) ∧ (shapeCells l)[i * 2 + 1]? = some (.int .i64 (l.getD i (0, 0)).2) := by
  induction l generalizing i with
  | nil => simp at h
  | cons x l ih =>
    cases i with
    | zero => simp [shapeCells]
    | succ i =>
      have h1 : i < l.length := by simpa using h
      have := ih i h1
      simp only [shapeCells, List.getElem?_toArray] at this ⊢
      have e : (i + 1) * 2 = i * 2 + 1 + 1 := by omega
      rw [e]
      simpa [List.flatMap_cons] using this
theorem shape_len (n : Nat) : 1 ≤ (shapeOf n).length ∧ (shapeOf n).length ≤ 8 := by
  unfold shapeOf; split <;> simp

theorem phs_at {w : World} {B gp : Nat} {P : List Ph} (h : Phs w B (some ⟨gp, 0, none⟩) P) {i : Nat} (hi : i < P.length) : PhAt w gp (i * 8) (P.getD i pz) := by
  obtain ⟨b, off, e, hlt, hc⟩ := h i hi
  injection e with e
  injection e with e1 e2
  subst e1 e2
  rw [Nat.zero_add] at hc
  exact hc
theorem PhAt.kept {w w' : World} {b o : Nat} {p : Ph} (h : PhAt w b o p) (hb : w'.heap[b]? = w.heap[b]?) : PhAt w' b o p := by
  have e := fun o => World.cell?_of_block (w := w) (w' := w') (a := ⟨b, o, none⟩) hb
  exact ⟨(e _).trans h.c0, (e _).trans h.c1, (e _).trans h.c2, (e _).trans h.c3, (e _).trans h.c4, (e _).trans h.c5, (e _).trans h.c6, (e _).trans h.c7⟩
theorem bits_add (f : Nat → Bool) (k : Nat) (hk : k ≤ 8) : wrap64 (((bitsTo f k : Nat) : Int) + 2 ^ k) = ((bitsTo f k + 2 ^ k : Nat) : Int) := by
  have h1 := bitsTo_lt f k
  have h2 := pow_le_256 k hk
  have h3 : ((2 ^ k : Nat) : Int) = 2 ^ k := by simp
  simp only [wrap64]
  omega
/-- The relation of the loop over the rows. -/
def TRel (w6 : World) (gj : Nat) (P : List Ph) (gp capp : Nat) (ex : Bool) (st : Int) (i : Nat) (wr : World) : Prop :=
  ∃ vC : Value, Box wr gj 26 #[.slice (some ⟨gp, 0, none⟩) P.length capp, vC, .int .i64 st] ∧
    wr.ownsRow w6.heap.size 3 1 vC i (((tableOf P ex).take i).map fun (x : Nat) => Value.int .i64 (x : Int)) ∧ w6.grownBy wr (some gj)

theorem Phs.other3 {w : World} {B b B' : Nat} {gp : Nat} {P : List Ph} (h : Phs w B (some ⟨gp, 0, none⟩) P) (hne : b ≠ gp) (hB : B ≤ B') (x y z : Value) :
    Phs (((w.setCell ⟨b, 0, none⟩ x).setCell ⟨b, 1, none⟩ y).setCell ⟨b, 2, none⟩ z) B' (some ⟨gp, 0, none⟩) P :=
  (h.more hB).other fun a ha => by
    injection ha with ha; subst ha
    exact (Below.heap_setCell _ _ _ _ (by simpa using fun e => hne e.symm)).trans ((Below.heap_setCell _ _ _ _ (by simpa using fun e => hne e.symm)).trans (Below.heap_setCell _ _ _ _ (by simpa using fun e => hne e.symm)))
theorem ints_put3 {w : World} {B b B' : Nat} {gp : Nat} {l : List Int} (h : Ints w B (some ⟨gp, 0, none⟩) l) (hne : b ≠ gp) (hB : B ≤ B') (x y z : Value) :
    Ints (((w.setCell ⟨b, 0, none⟩ x).setCell ⟨b, 1, none⟩ y).setCell ⟨b, 2, none⟩ z) B' (some ⟨gp, 0, none⟩) l := fun i hi => by
  obtain ⟨q, off, e, hlt, hc⟩ := (h.more hB) i hi
  injection e with e
  injection e with e1 e2
  subst e1 e2
  exact ⟨_, _, rfl, hlt, (World.cell?_setCell_other _ _ _ _ (by simp; try omega)).trans ((World.cell?_setCell_other _ _ _ _ (by simp; try omega)).trans ((World.cell?_setCell_other _ _ _ _ (by simp; try omega)).trans hc))⟩
/-- What a made junction is. -/
def JPost (w : World) (g : Nat) (e : Ending) (w' : World) : Prop :=
  ∃ (gp gc capp capc n : Nat) (P : List Ph) (ex : Bool) (st : Int), e = .returned (.agg #[.slice (some ⟨gp, 0, none⟩) P.length capp, .slice (some ⟨gc, 0, none⟩) P.length capc, .int .i64 st]) ∧
    P.map (fun p => (p.r, p.g)) = shapeOf n ∧ n < 6 ∧ (∀ p ∈ P, PhOk p) ∧ 0 ≤ st ∧ st ≤ 2 ∧
    Phs w' w'.heap.size (some ⟨gp, 0, none⟩) P ∧ Ints w' w'.heap.size (some ⟨gc, 0, none⟩) (ints (tableOf P ex)) ∧ HasDeck w' g ∧ w.grownBy w' (some g)
theorem ints_of_own {w : World} {base g cap n : Nat} {M : List Nat} (h : w.ownsRow base 3 1 (.slice (some ⟨g, 0, none⟩) n cap) n (M.map fun (x : Nat) => Value.int .i64 (x : Int))) {B : Nat} (hB : g < B) (hn : M.length = n) : Ints w B (some ⟨g, 0, none⟩) (ints M) := fun i hi => by
  have hi' : i < M.length := by simpa [ints] using hi
  have e := h.cellAt i (by omega)
  refine ⟨g, 0, rfl, hB, ?_⟩
  rw [Nat.zero_add, e]
  simp [ints, List.getD, hi']

set_option maxRecDepth 100000 in
set_option maxHeartbeats 4000000 in
theorem junc_any (g : Nat) (w : World) (h : HasDeck w g) :
    Calls Try.prog 15 #[.pointer (some ⟨g, 0, none⟩)] w fun e w' => JPost w g e w' := by
  have hgw := h.lt
  have h0 : Hid (HasDeck (w.alloc (.cells #[nilS, nilS, .int .i64 0] 26)) g) := h.alloc _
  clear h
  go_enter Try.func15, Try.ntmps15
  go_wp2_with fail
  refine (next_has g 6 _ h0.out (by omega) (by omega)).mono ?_; rintro e w1 ⟨nv, rfl, nv0, nv1, hd1⟩
  obtain ⟨n, rfl⟩ : ∃ n : Nat, nv = (n : Int) := ⟨nv.toNat, by omega⟩
  have hn6 : n < 6 := by omega
  have hbox1 := Lib.hid ((Box.new w 26 #[nilS, nilS, .int .i64 0]).grown hd1.only (by simp; omega))
  have hg1H : Hid (w.grownBy w1 (some g)) := only_trans (only_alloc (only_refl _ _) _) hd1.only
  have hz1 := hd1.only.size
  simp at hz1
  have hd1H := Lib.hid hd1.deck
  clear hd1
  go_wp2_with fail
  refine (shapes_any n _ hn6).mono ?_; rintro e w2 ⟨rfl, rfl⟩
  have hsl := shape_len n
  have hdA : Hid (HasDeck (w1.alloc (.cells (shapeCells (shapeOf n)) 45)) g) := hd1H.out.alloc _
  go_wp2_with fail
  refine (next_has g 3 _ hdA.out (by omega) (by omega)).mono ?_; rintro e w3 ⟨st, rfl, st0, st1, hd3⟩
  have hz3 := hd3.only.size
  simp at hz3
  have hbox3 : Hid (Box w3 w.heap.size 26 #[nilS, nilS, .int .i64 0]) := (hbox1.out.alloc _).grown hd3.only (by simp; omega)
  have hboxS : Hid (Box w3 w1.heap.size 45 (shapeCells (shapeOf n))) := (Box.new _ _ _).grown hd3.only (by simp; omega)
  have hg3H : Hid (w.grownBy w3 (some g)) := only_trans (only_alloc hg1H.out _) hd3.only
  have hd3H := Lib.hid hd3.deck
  clear hd3 hbox1 hg1H hdA hd1H h0
  go_wp2_with fail
  go_loopg [22] ((shapeOf n).length) (fun kk v22 wr => ∃ i : Nat, kk + i = (shapeOf n).length ∧ v22 = .int .i64 i ∧ JRel w g w3.heap.size w1.heap.size n st i wr)
  case atStart =>
    refine ⟨0, by omega, rfl, [], nilS, rfl, rfl, by simp, Box.new _ _ _, World.ownsRow_nil _ _ _ _, hboxS.out.alloc _, hbox3.out.alloc _, hd3H.out.alloc _, only_alloc hg3H.out _⟩
  case round =>
    obtain ⟨i, hi, rfl, hrel⟩ := hrel
    by_cases hlt : i < (shapeOf n).length
    · obtain ⟨P, vP, hPl, hPs, hPok, hbj, hown, hbs, hbr, hd4, hg4⟩ := hrel
      obtain ⟨s0, s1⟩ := shape_at _ i hlt
      have c0 := (hbs.cell (i * 2)).trans s0
      have c1 := (hbs.cell (i * 2 + 1)).trans s1
      have hzj := hbj.lt
      have hil : (i : Int) < ((shapeOf n).length : Int) := by omega
      obtain ⟨sr, hsr⟩ : ∃ x, x = ((shapeOf n).getD i (0, 0)).1 := ⟨_, rfl⟩
      obtain ⟨sg, hsg⟩ : ∃ x, x = ((shapeOf n).getD i (0, 0)).2 := ⟨_, rfl⟩
      rw [← hsr] at c0
      rw [← hsg] at c1
      have hsrH := Lib.hid hsr
      have hsgH := Lib.hid hsg
      have hbjH := Lib.hid hbj
      have hbsH := Lib.hid hbs
      have hbrH := Lib.hid hbr
      have hd4H := Lib.hid hd4
      have hg4H := Lib.hid hg4
      have hownH := Lib.hid hown
      have hPsH := Lib.hid hPs
      have hPokH := Lib.hid hPok
      clear hbj hbs hbr hd4 hg4 hown s0 s1 hsr hsg hPs hPok
      go_upto_region 6 with fail
      have hd5 : Hid (HasDeck (wr.alloc (.cells #[.int .i64 sr, .int .i64 sg] 45)) g) := hd4H.out.alloc _
      have hbelW : Hid (Below wr.heap.size wr (wr.alloc (.cells #[.int .i64 sr, .int .i64 sg] 45))) := (Below.refl _ _).alloc (Nat.le_refl _) _
      have hsW : (wr.alloc (.cells #[.int .i64 sr, .int .i64 sg] 45)).heap.size = wr.heap.size + 1 := by simp
      have e0 : (wr.alloc (.cells #[.int .i64 sr, .int .i64 sg] 45)).cell? ⟨wr.heap.size, 0, none⟩ = some (.int .i64 sr) := by simp [go_sem]
      have e1 : (wr.alloc (.cells #[.int .i64 sr, .int .i64 sg] 45)).cell? ⟨wr.heap.size, 1, none⟩ = some (.int .i64 sg) := by simp [go_sem]
      generalize wr.alloc (.cells #[.int .i64 sr, .int .i64 sg] 45) = W at hd5 hbelW hsW e0 e1 ⊢
      go_cut [7] (fun s7 wx => C6 W g (wr.heap.size + 1) sr sg s7 wx)
      case first =>
        have hne : wr.heap.size ≠ g := by omega
        have hne2 : W.heap.size ≠ g := by omega
        have hne3 : wr.heap.size + 1 ≠ g := by omega
        have hWd : W.drew.heap.size = wr.heap.size + 1 := hsW
        clear c0 c1
        go_region_held3 (fun w' => w'.cell? ⟨wr.heap.size, 0, none⟩ = some (.int .i64 sr) ∧ w'.cell? ⟨wr.heap.size, 1, none⟩ = some (.int .i64 sg) ∧ HasDeck w' g)
          (first
            | (with_reducible exact s_start e0 e1 hd5)
            | ((with_reducible apply s_call (hne := hne)); (with_reducible assumption); (with_reducible assumption))
            | ((with_reducible apply s_alloc); (with_reducible assumption))
            | ((with_reducible apply s_alloc_drew); (with_reducible assumption))
            | ((with_reducible apply s_realloc); (with_reducible assumption); omega; omega)
            | ((repeat ((with_reducible apply s_far); rotate_left; (dsimp only; omega); (dsimp only; omega))); with_reducible assumption))
          (first
            | (go_at_call 48; refine (range_has g _ _ _ (And.right (And.right (show _ ∧ _ ∧ HasDeck _ g by with_reducible assumption))) (by omega) (by omega) (by omega)).mono ?_; rintro e w' ⟨v, rfl, v0, v1, hd⟩; have hsz := hd.size; (try simp only [World.size_drew, World.size_alloc] at hsz); have hcl := hd.cell; have hfz := hd.frozen)
            | (go_at_call 47; refine (next_has g _ _ (And.right (And.right (show _ ∧ _ ∧ HasDeck _ g by with_reducible assumption))) (by omega) (by omega)).mono ?_; rintro e w' ⟨v, rfl, v0, v1, hd⟩; have hsz := hd.size; (try simp only [World.size_drew, World.size_alloc] at hsz); have hcl := hd.cell; have hfz := hd.frozen))
        all_goals
          rename_i wA vA a0 a1 hdA zA cA fA wB vB b0 b1 hdB zB cB fB hH
          clear cA fA cB fB hcl hfz hH
          go_wp2_with fail
          go_meet
        · exact c6_new (by omega) hd.deck (only_trans (only_trans (only_of_drew hdA.only) hdB.only) hd.only) a0 a1 b0 b1 v0 (by omega)
        · exact c6_put ((boxAt (w := wB) (by omega) _ _).drawn hd hne3) (by omega) (by omega) hd.deck (only_trans (only_alloc (only_trans (only_of_drew hdA.only) hdB.only) _) hd.only) a0 a1 b0 b1 v0 (by omega)
        · exact c6_put (((boxAt (w := wA) (by omega) _ _).drawn hdB hne3).drawn hd hne3) (by omega) (by omega) hd.deck (only_trans (only_trans (only_alloc (only_of_drew hdA.only) _) hdB.only) hd.only) a0 a1 b0 b1 v0 (by omega)
        · exact c6_put (((boxDrew (w := W) hsW).drawn hdA hne3).drawn hdB hne3 |>.drawn hd hne3) (by omega) (by omega) hd.deck (only_trans (only_trans (only_of_alloc_drew hdA.only) hdB.only) hd.only) a0 a1 b0 b1 v0 (by omega)
      case rest =>
        obtain ⟨mn, ye, re, rfl, hbP, hdC, hoC, m0, m1, y0, y1, r0, r1⟩ := hcut
        have hne2 : wr.heap.size + 1 ≠ g := by omega
        have hzc := hbP.lt
        have hbPH := Lib.hid hbP
        have hdCH := Lib.hid hdC
        have hoCH : Hid (wr.grownBy wc (some g)) := only_trans (only_below hbelW.out _) hoC
        have q0 := hbP.cell 0
        have q1 := hbP.cell 1
        have q2 := hbP.cell 2
        have q3 := hbP.cell 3
        have q4 := hbP.cell 4
        have q5 := hbP.cell 5
        have q6 := hbP.cell 6
        have q7 := hbP.cell 7
        simp at q0 q1 q2 q3 q4 q5 q6 q7
        have f6 := hbP.frozen 6
        have f7 := hbP.frozen 7
        clear hbP hdC hoC c0 c1 e0 e1
        go_wp2_with fail
        refine (next_has g 3 _ hdCH.out (by omega) (by omega)).mono ?_; rintro e wd ⟨tv, rfl, t0, t1, hdd⟩
        have hbPd : Hid (Box wd (wr.heap.size + 1) 55 #[.int .i64 sr, .int .i64 sg, .int .i64 mn, .int .i64 0, .int .i64 ye, .int .i64 re, .int .i64 0, .int .i64 0]) := hbPH.out.drawn hdd hne2
        have hddH := Lib.hid hdd
        clear hdd q0 q1 q2 q3 q4 q5 q6 q7 f6 f7
        go_upto_if 39 with (fail)
        go_cut [] (fun wx => C7 wr g (wr.heap.size + 1) sr sg mn ye re wx)
        case first =>
          have hzd := hbPd.out.lt
          by_cases ht : tv = 2
          · have tt : (tv == 2) = true := by simp [ht]
            clear ht
            go_wp2_with fail
            refine (range_has g 1 2 _ hddH.out.deck (by omega) (by omega) (by omega)).mono ?_; rintro e wE ⟨wa, rfl, wa0, wa1, hdE⟩
            have hbE := hbPd.out.drawn hdE hne2
            have hdEH := Lib.hid hdE
            clear hdE
            have hbEH := Lib.hid hbE
            clear hbE
            go_wp2_with fail
            refine (range_has g 1 2 _ hdEH.out.deck (by omega) (by omega) (by omega)).mono ?_; rintro e wF ⟨cl, rfl, cl0, cl1, hdF⟩
            have hbF := hbEH.out.drawn hdF hne2
            have q6 := hbF.cell 6
            have q7 := hbF.cell 7
            simp at q6 q7
            have f6 := hbF.frozen 6
            have f7 := hbF.frozen 7
            have hzF := hbF.lt
            have hbFH := Lib.hid hbF
            have hdFH := Lib.hid hdF
            clear hbF hdF
            go_wp2_with fail
            go_meet
            exact ⟨wa, cl, Box.put_eq (Box.put_eq hbFH.out rfl) rfl, (hdFH.out.deck.far (p := ⟨_, 6, none⟩) (by dsimp only; omega) _).far (p := ⟨_, 7, none⟩) (by dsimp only; omega) _,
              only_far (p := ⟨_, 7, none⟩) (only_far (p := ⟨_, 6, none⟩) (only_trans (only_trans (only_trans hoCH.out hddH.out.only) hdEH.out.only) hdFH.out.only) (by dsimp only; omega) _) (by dsimp only; omega) _, .inr ⟨wa0, wa1, cl0, cl1⟩⟩
          · have tt : (tv == 2) = false := by simpa using ht
            clear ht
            go_wp2_with fail
            go_meet
            exact ⟨0, 0, hbPd.out, hddH.out.deck, only_trans hoCH.out hddH.out.only, .inl ⟨rfl, rfl⟩⟩
        case rest =>
          obtain ⟨wa, cl, hbQ, hdQ, hoQ, hped⟩ := hcut
          have hzq := hbQ.lt
          have hp0 : 0 ≤ wa ∧ wa ≤ 2 ∧ 0 ≤ cl ∧ cl ≤ 2 := by omega
          obtain ⟨p0, p1, p2, p3⟩ := hp0
          have hpedH := Lib.hid hped
          have q2 := hbQ.cell 2
          have q3 := hbQ.cell 3
          have q6 := hbQ.cell 6
          have q7 := hbQ.cell 7
          simp at q2 q3 q6 q7
          have f3 := hbQ.frozen 3
          have hbQH := Lib.hid hbQ
          have hdQH := Lib.hid hdQ
          have hoQH := Lib.hid hoQ
          clear hbQ hdQ hoQ hped
          go_upto_region 9 with (fail)
          go_cut [] (fun wx => C9 wr g (wr.heap.size + 1) sr sg mn ye re wa cl wx)
          case first =>
            have hw1 : IntKind.i64.wrap (wa + cl) = wa + cl := by rw [IntKind.wrap_i64]; omega
            have hgN : g < wr.heap.size + 1 := by omega
            by_cases hmx : mn < wa + cl
            all_goals
              go_region_held3 (fun w' => w'.cell? ⟨wr.heap.size + 1, 2, none⟩ = some (.int .i64 mn) ∧ w'.cell? ⟨wr.heap.size + 1, 6, none⟩ = some (.int .i64 wa) ∧ w'.cell? ⟨wr.heap.size + 1, 7, none⟩ = some (.int .i64 cl) ∧ HasDeck w' g)
                (first
                  | (with_reducible assumption)
                  | (with_reducible exact r_start q2 q6 q7 hdQH)
                  | ((with_reducible apply r_call (hne := hne2)); (with_reducible assumption); (with_reducible assumption))
                  | ((with_reducible apply r_put (hg := hgN)); with_reducible assumption))
                (first
                  | (go_at_call 47; refine (next_has g _ _ (And.right (And.right (And.right (show _ ∧ _ ∧ _ ∧ HasDeck _ g by with_reducible assumption)))) (by omega) (by omega)).mono ?_; rintro e w' ⟨v, rfl, v0, v1, hd⟩; have hsz := hd.size; have hcl := hd.cell; have hfz := hd.frozen))
              all_goals
                have hbD := (show Box wc.drew _ _ _ from hbQH.out).drawn hd hne2
                have hoD := only_trans hoQH.out (only_of_drew hd.only)
                have hdD := hd.deck
                clear hd hcl hfz
                go_wp2_with fail
                go_meet
                exact ⟨_, Box.put_eq hbD rfl, hdD.far (p := ⟨_, 3, none⟩) hgN _, only_far (p := ⟨_, 3, none⟩) hoD (Nat.le_succ _) _, by (first | omega | (simp only [wrap64, IntKind.wrap_i64]; omega)), by (first | omega | (simp only [wrap64, IntKind.wrap_i64]; omega))⟩
          case rest =>
            obtain ⟨mx, hbR, hdR, hoR, mx0, mx1⟩ := hcut
            have hzr := hbR.lt
            have hbjR : Hid (Box wc w3.heap.size 26 #[vP, nilS, .int .i64 st]) := hbjH.out.grown hoR (by simp; omega)
            have hbsR : Hid (Box wc w1.heap.size 45 (shapeCells (shapeOf n))) := hbsH.out.grown hoR (by simp; omega)
            have hbrR : Hid (Box wc w.heap.size 26 #[nilS, nilS, .int .i64 0]) := hbrH.out.grown hoR (by simp; omega)
            have hoW : Hid (w.grownBy wc (some g)) := only_trans hg4H.out hoR
            have hownR : Hid (wc.ownsRow (w3.heap.size + 1) 55 8 vP i (P.flatMap Ph.cells)) := hownH.out.kept hoR (by
              cases hv : vP.ownBlock with
              | none => exact .inl rfl
              | some q => right; rw [← hv]; intro e; have := hownH.out.lt q hv; rw [hv] at e; injection e with e; omega)
            have q0 := hbR.cell 0
            have q1 := hbR.cell 1
            have q2 := hbR.cell 2
            have q3 := hbR.cell 3
            have q4 := hbR.cell 4
            have q5 := hbR.cell 5
            have q6 := hbR.cell 6
            have q7 := hbR.cell 7
            simp at q0 q1 q2 q3 q4 q5 q6 q7
            have j0 := hbjR.out.cell 0
            have j1 := hbjR.out.cell 1
            simp at j0 j1
            have fj0 := hbjR.out.frozen 0
            have hzj2 := hbjR.out.lt
            have hbRH := Lib.hid hbR
            have hdRH := Lib.hid hdR
            clear hbR hdR hoR
            obtain ⟨i0, hi0, hz0, hz10, hz20⟩ := info_parts phase_info
            go_wp2_with (at_builtin; refine wpList_append_own _ rfl (.tmp 59) (.tmp 61) 24 rfl (w3.heap.size + 1) 55 i0 pz.val 8 64 Try.underlying24 hi0 hz0 hz10 hz20 rfl (by decide) _ _ _ rfl (hownR.out.alloc _) ⟨wc.heap.size, 0, none⟩ 1 1 [.int .i64 sr, .int .i64 sg, .int .i64 mn, .int .i64 mx, .int .i64 ye, .int .i64 re, .int .i64 wa, .int .i64 cl] rfl rfl ?c1 ?c2 ?c3 ?c4 ?c5 ?_)
            case c1 => exact news_new wc _ _
            case c2 => simp [Value.oneCell']
            case c3 => unfold maxLen; omega
            case c4 => omega
            case c5 => simp; omega
            intro v2 w5 hown5 hg5 _
            obtain ⟨gp, capp, hv2⟩ := Joins.ownsRow_form hown5 (by omega)
            subst hv2
            have hrow : ∀ q, vP.ownBlock = some q → w3.heap.size + 1 ≤ q := fun q hq => (hownR.out.lt q hq).1
            have hbj5 := (hbjR.out.alloc (.cells #[.int .i64 sr, .int .i64 sg, .int .i64 mn, .int .i64 mx, .int .i64 ye, .int .i64 re, .int .i64 wa, .int .i64 cl] 55)).grown hg5 (fun e => by have := hrow _ e.symm; omega)
            have hbs5 : Hid (Box w5 w1.heap.size 45 (shapeCells (shapeOf n))) := (hbsR.out.alloc (.cells #[.int .i64 sr, .int .i64 sg, .int .i64 mn, .int .i64 mx, .int .i64 ye, .int .i64 re, .int .i64 wa, .int .i64 cl] 55)).grown hg5 (fun e => by have := hrow _ e.symm; omega)
            have hbr5 : Hid (Box w5 w.heap.size 26 #[nilS, nilS, .int .i64 0]) := (hbrR.out.alloc (.cells #[.int .i64 sr, .int .i64 sg, .int .i64 mn, .int .i64 mx, .int .i64 ye, .int .i64 re, .int .i64 wa, .int .i64 cl] 55)).grown hg5 (fun e => by have := hrow _ e.symm; omega)
            have hd5' : Hid (HasDeck w5 g) := (hdRH.out.alloc (.cells #[.int .i64 sr, .int .i64 sg, .int .i64 mn, .int .i64 mx, .int .i64 ye, .int .i64 re, .int .i64 wa, .int .i64 cl] 55)).other (fun k hk => hg5.block k (by simp; omega) (fun e => by have := hrow _ e.symm; omega))
            have ho5 : Hid (w.grownBy w5 (some g)) := grown_on (only_alloc hoW.out (.cells #[.int .i64 sr, .int .i64 sg, .int .i64 mn, .int .i64 mx, .int .i64 ye, .int .i64 re, .int .i64 wa, .int .i64 cl] 55)) hg5 (fun q hq => by have := hrow q hq; omega)
            have j0' := hbj5.cell 0
            simp at j0'
            have fj0' := hbj5.frozen 0
            have hzj5 := hbj5.lt
            have hbj5H := Lib.hid hbj5
            have hown5H := Lib.hid hown5
            clear hbj5 hown5 hg5 j0 j1 q0 q1 q2 q3 q4 q5 q6 q7 fj0 hrow
            go_wp2_with fail
            go_roundg (gk - 1)
            case measure => omega
            case rel =>
              refine ⟨i + 1, by omega, by go_num, P ++ [⟨sr, sg, mn, mx, ye, re, wa, cl⟩], _, by simp; omega, ?_, ?_, Box.put_eq hbj5H.out rfl, ?_, hbs5.out.far (by simp; omega) _, hbr5.out.far (by simp; omega) _, hd5'.out.far (by dsimp only; omega) _, only_far ho5.out (by dsimp only; omega) _⟩
              · rw [List.map_append, hPsH.out, List.take_succ_eq_append_getElem hlt]
                simp only [List.map_cons, List.map_nil]
                congr 2
                have h1 := hsrH.out
                have h2 := hsgH.out
                simp only [List.getD, List.getElem?_eq_getElem hlt, Option.getD_some] at h1 h2
                rw [h1, h2]
              · intro ph hph
                rcases List.mem_append.1 hph with hph | hph
                · exact hPokH.out ph hph
                · simp only [List.mem_singleton] at hph
                  subst hph
                  exact ⟨m0, m1, y0, y1, r0, r1, hpedH.out, mx0, mx1⟩
              · exact ownsRow_setCell_below (by simpa [List.flatMap_append] using hown5H.out) (by dsimp only; omega) _
    · obtain ⟨P, vP, hPl, hPs, hPok, hbj, hown, hbs, hbr, hd4, hg4⟩ := hrel
      have hin : i = (shapeOf n).length := by omega
      have hP1 : 1 ≤ P.length := by omega
      have hP8 : P.length ≤ 8 := by omega
      obtain ⟨gp, capp, hvP⟩ := Joins.ownsRow_form hown (by omega)
      subst hvP
      have hgp := hown.lt gp rfl
      rw [← hPl] at hown
      have hPhs : Hid (Phs wr wr.heap.size (some ⟨gp, 0, none⟩) P) := phs_of_own hown hgp.2
      have hlenH : Hid (P.length = i) := hPl
      have hPsH : Hid (P.map (fun p => (p.r, p.g)) = shapeOf n) := by
        have := hPs
        rw [hin, List.take_length] at this
        exact this
      have hPokH := Lib.hid hPok
      have hzj := hbj.lt
      have hbjH := Lib.hid hbj
      have hbrH := Lib.hid hbr
      have hd4H := Lib.hid hd4
      have hg4H := Lib.hid hg4
      have hil : ¬ (i : Int) < ((shapeOf n).length : Int) := by omega
      clear hbj hbs hbr hd4 hg4 hown hPs hPok hin
      subst hPl
      go_wp2_with fail
      refine (next_has g 4 _ hd4H.out (by omega) (by omega)).mono ?_; rintro e w6 ⟨ev, rfl, ev0, ev1, hd6⟩
      have hbj6 := hbjH.out.drawn hd6 (by omega)
      have hbr6 : Hid (Box w6 w.heap.size 26 #[nilS, nilS, .int .i64 0]) := hbrH.out.drawn hd6 (by omega)
      have hP6 : Hid (Phs w6 wr.heap.size (some ⟨gp, 0, none⟩) P) := hPhs.out.other (fun a ha => by injection ha with ha; subst ha; exact only_blocks hd6.only hd6.size gp (by omega))
      have ho6 : Hid (w.grownBy w6 (some g)) := only_trans hg4H.out hd6.only
      have hd6H := Lib.hid hd6.deck
      have hz6 : w6.heap.size = wr.heap.size := hd6.size
      have hz6' : wr.heap.size ≤ w6.heap.size := by omega
      have hzg : g < w6.heap.size := by omega
      have hzj6 := hbj6.lt
      have j0 := hbj6.cell 0
      simp at j0
      have hbj6H := Lib.hid hbj6
      clear hd6 hbj6 hz6
      obtain ⟨ex, hex⟩ : ∃ b, (ev == 3) = b := ⟨_, rfl⟩
      go_wp2_with fail
      clear hex
      go_loopg [71] (P.length) (fun kk v71 wx => ∃ i : Nat, kk + i = P.length ∧ v71 = .int .i64 i ∧ TRel w6 w3.heap.size P gp capp ex st i wx)
      case atStart => exact ⟨0, by omega, rfl, nilS, hbj6H.out, World.ownsRow_nil _ _ _ _, only_refl _ _⟩
      case round =>
        obtain ⟨w8, hw8⟩ : ∃ x, x = wr := ⟨wr, rfl⟩
        subst hw8
        obtain ⟨i, hi, rfl, vC, hbc, hown, hgr⟩ := hrel
        by_cases hlt : i < P.length
        · have hgpj : gp ≠ w3.heap.size := by omega
          have hatw := (phs_at hP6.out hlt).kept (hgr.block gp (by omega) (by simpa using hgpj))
          have hil : (i : Int) < (P.length : Int) := by omega
          have c0 := hatw.c0
          have c1 := hatw.c1
          have c2 := hatw.c2
          have c3 := hatw.c3
          have c4 := hatw.c4
          have c5 := hatw.c5
          have c6 := hatw.c6
          have c7 := hatw.c7
          have hzc := hbc.lt
          have hsz2 := hgr.size
          have hs2 : gp < w8.heap.size := by omega
          have j0' := hbc.cell 0
          simp at j0'
          clear hatw j0
          have hbcH := Lib.hid hbc
          have hownH := Lib.hid hown
          have hgrH := Lib.hid hgr
          clear hbc hown hgr
          generalize hph : P.getD i pz = ph at c0 c1 c2 c3 c4 c5 c6 c7
          have hphH := Lib.hid hph
          clear hph
          go_wp2_with fail
          have hWb : Hid (Below w8.heap.size w8 (w8.alloc (.cells #[.int .i64 ph.r, .int .i64 ph.g, .int .i64 ph.mn, .int .i64 ph.mx, .int .i64 ph.ye, .int .i64 ph.re, .int .i64 ph.wa, .int .i64 ph.cl] 55))) := (Below.refl _ _).alloc (Nat.le_refl _) _
          have e0 : (w8.alloc (.cells #[.int .i64 ph.r, .int .i64 ph.g, .int .i64 ph.mn, .int .i64 ph.mx, .int .i64 ph.ye, .int .i64 ph.re, .int .i64 ph.wa, .int .i64 ph.cl] 55)).cell? ⟨w8.heap.size, 0, none⟩ = some (.int .i64 ph.r) := (Box.new w8 55 #[.int .i64 ph.r, .int .i64 ph.g, .int .i64 ph.mn, .int .i64 ph.mx, .int .i64 ph.ye, .int .i64 ph.re, .int .i64 ph.wa, .int .i64 ph.cl]).cell 0
          have e1 : (w8.alloc (.cells #[.int .i64 ph.r, .int .i64 ph.g, .int .i64 ph.mn, .int .i64 ph.mx, .int .i64 ph.ye, .int .i64 ph.re, .int .i64 ph.wa, .int .i64 ph.cl] 55)).cell? ⟨w8.heap.size, 1, none⟩ = some (.int .i64 ph.g) := (Box.new w8 55 #[.int .i64 ph.r, .int .i64 ph.g, .int .i64 ph.mn, .int .i64 ph.mx, .int .i64 ph.ye, .int .i64 ph.re, .int .i64 ph.wa, .int .i64 ph.cl]).cell 1
          have hWz : (w8.alloc (.cells #[.int .i64 ph.r, .int .i64 ph.g, .int .i64 ph.mn, .int .i64 ph.mx, .int .i64 ph.ye, .int .i64 ph.re, .int .i64 ph.wa, .int .i64 ph.cl] 55)).heap.size = w8.heap.size + 1 := by simp
          have hPhW : Hid (Phs (w8.alloc (.cells #[.int .i64 ph.r, .int .i64 ph.g, .int .i64 ph.mn, .int .i64 ph.mx, .int .i64 ph.ye, .int .i64 ph.re, .int .i64 ph.wa, .int .i64 ph.cl] 55)) w8.heap.size (some ⟨gp, 0, none⟩) P) := (((hP6.out.other (fun a ha => by injection ha with ha; subst ha; exact hgrH.out.block gp (by omega) (by simpa using hgpj))).below (Below.refl _ _)).more (by omega)).below hWb.out
          generalize w8.alloc (.cells #[.int .i64 ph.r, .int .i64 ph.g, .int .i64 ph.mn, .int .i64 ph.mx, .int .i64 ph.ye, .int .i64 ph.re, .int .i64 ph.wa, .int .i64 ph.cl] 55) = W at hWb e0 e1 hPhW hWz ⊢
          have hWzH := Lib.hid hWz
          have hWz' : w8.heap.size < W.heap.size := by omega
          clear c0 c1 c2 c3 c4 c5 c6 c7 hWz j0'
          go_loopw [11, 79] (fun v11 v79 wx => ∃ k : Nat, k ≤ P.length ∧ v79 = .int .i64 k ∧ v11 = .int .i64 ((bitsTo (conf P ex i) k : Nat) : Int) ∧ Below W.heap.size W wx) (fun _ v79 _ => P.length - (intOf v79).toNat)
          case atStart => exact ⟨0, by omega, rfl, rfl, Below.refl _ _⟩
          case round =>
            obtain ⟨k, hk, rfl, rfl, hb⟩ := hrel
            by_cases hkt : k < P.length
            · have hkl : (k : Int) < (P.length : Int) := by omega
              have hat := (phs_at hPhW.out hkt).below hb (by omega)
              have c0 := hat.c0
              have c1 := hat.c1
              have c2 := hat.c2
              have c3 := hat.c3
              have c4 := hat.c4
              have c5 := hat.c5
              have c6 := hat.c6
              have c7 := hat.c7
              clear hat
              generalize hqh : P.getD k pz = qh at c0 c1 c2 c3 c4 c5 c6 c7
              have hqhH := Lib.hid hqh
              clear hqh
              have d0 := (hb.cell (p := ⟨_, 0, none⟩) (by dsimp only; omega)).trans e0
              have d1 := (hb.cell (p := ⟨_, 1, none⟩) (by dsimp only; omega)).trans e1
              have hz := hb.size
              have hzz : w8.heap.size < wr.heap.size := by omega
              have hgpx : gp < wr.heap.size := by omega
              have hbH := Lib.hid hb
              clear hb hz
              have hlt8 := bitsTo_lt (conf P ex i) k
              have hpw := pow_le_256 k (by omega)
              by_cases hik : i = k
              · have bn : ((i : Int) != (k : Int)) = false := by simp [hik]
                have hbt := Lib.hid (bitsTo_no _ _ (conf_eq (P := P) (ex := ex) hik))
                clear hik
                go_wp2_with fail
                go_roundw
                case rel => exact ⟨k + 1, by omega, by go_num, by rw [hbt.out], by have := hbH.out; have := this.size; go_grown⟩
                case measure => simp [intOf]; omega
              · have bn : ((i : Int) != (k : Int)) = true := by simp; omega
                by_cases hr : ph.r = qh.r
                · have hbt := Lib.hid (bitsTo_yes _ _ (conf_ring (P := P) (ex := ex) hik (by rw [hphH.out, hqhH.out, hr])))
                  have br : (ph.r == qh.r) = true := by simp [hr]
                  clear hr
                  go_wp2_with fail
                  go_roundw
                  case rel => exact ⟨k + 1, by omega, by go_num, by rw [hbt.out]; exact congrArg (Value.int .i64) (bits_add _ _ (by omega)), by have := hbH.out; have := this.size; go_grown⟩
                  case measure => simp [intOf]; omega
                · have br : (ph.r == qh.r) = false := by simpa using hr
                  by_cases hg : ph.g = qh.g
                  · have hcf := conf_rest (P := P) (ex := ex) hik (by rw [hphH.out, hqhH.out]; exact hr) (by rw [hphH.out, hqhH.out, hg])
                    have bg : (ph.g != qh.g) = false := by simp [hg]
                    clear hr hg
                    cases ex
                    · have hbt := Lib.hid (bitsTo_no _ _ (hcf.trans rfl))
                      clear hcf
                      go_wp2_with fail
                      go_roundw
                      case rel => exact ⟨k + 1, by omega, by go_num, by rw [hbt.out], by have := hbH.out; have := this.size; go_grown⟩
                      case measure => simp [intOf]; omega
                    · have hmo : (((i : Int) + (k : Int)) % 2 == 1) = ((i + k) % 2 == 1) := by
                        rw [Bool.eq_iff_iff]; simp only [beq_iff_eq]; omega
                      simp only [Bool.true_and] at hcf
                      cases hodd : ((i + k) % 2 == 1)
                      · rw [hodd] at hcf hmo
                        have hbt := Lib.hid (bitsTo_no _ _ hcf)
                        clear hcf hodd
                        go_wp2_with fail
                        go_roundw
                        case rel => exact ⟨k + 1, by omega, by go_num, by rw [hbt.out], by have := hbH.out; have := this.size; go_grown⟩
                        case measure => simp [intOf]; omega
                      · rw [hodd] at hcf hmo
                        have hbt := Lib.hid (bitsTo_yes _ _ hcf)
                        clear hcf hodd
                        go_wp2_with fail
                        go_roundw
                        case rel => exact ⟨k + 1, by omega, by go_num, by rw [hbt.out]; exact congrArg (Value.int .i64) (bits_add _ _ (by omega)), by have := hbH.out; have := this.size; go_grown⟩
                        case measure => simp [intOf]; omega
                  · have hbt := Lib.hid (bitsTo_yes _ _ (conf_group (P := P) (ex := ex) hik (by rw [hphH.out, hqhH.out]; exact hg)))
                    have bg : (ph.g != qh.g) = true := by simpa using hg
                    clear hr hg
                    go_wp2_with fail
                    go_roundw
                    case rel => exact ⟨k + 1, by omega, by go_num, by rw [hbt.out]; exact congrArg (Value.int .i64) (bits_add _ _ (by omega)), by have := hbH.out; have := this.size; go_grown⟩
                    case measure => simp [intOf]; omega
            · obtain rfl : k = P.length := by omega
              have hkl : ¬ (P.length : Int) < (P.length : Int) := by omega
              have hB : Below w8.heap.size w8 wr := hWb.out.trans (hb.mono (by omega))
              have hbj8 := hbcH.out.below hB hzc
              have hown8 : Hid (wr.ownsRow w6.heap.size 3 1 vC i (((tableOf P ex).take i).map fun (x : Nat) => Value.int .i64 (x : Int))) := own_below hownH.out hB
              have hgr8 : Hid (w6.grownBy wr (some w3.heap.size)) := only_trans hgrH.out (only_below hB _)
              have j1 := hbj8.cell 1
              simp at j1
              have hz8 := hB.size
              have hzj8 := hbj8.lt
              have hbj8H := Lib.hid hbj8
              have hrowv : Hid (bitsTo (conf P ex i) P.length = (tableOf P ex).getD i 0) := (tableOf_getD P ex i hlt).symm
              have hlt8 := bitsTo_lt (conf P ex i) P.length
              clear hb hB hbj8
              generalize bitsTo (conf P ex i) P.length = rv at hrowv hlt8 ⊢
              obtain ⟨i0, hi0, hz0, hz10, hz20⟩ := info_parts int_info
              go_wp2_with (at_builtin; refine wpList_append_own _ rfl (.tmp 118) (.tmp 120) 22 rfl w6.heap.size 3 i0 (.int .i64 0) 1 8 Try.underlying22 hi0 hz0 hz10 hz20 rfl (by decide) _ _ _ rfl (hown8.out.alloc _) ⟨wr.heap.size, 0, none⟩ 1 1 [.int .i64 (rv : Int)] rfl rfl ?c1 ?c2 ?c3 ?c4 ?c5 ?_)
              case c2 => rfl
              case c3 => unfold maxLen; omega
              case c4 => omega
              case c5 => first | omega | (simp; omega)
              intro v2 w5 hown5 hg5 _
              obtain ⟨gc, capc, hv2⟩ := Joins.ownsRow_form hown5 (by omega)
              subst hv2
              have hrow : ∀ q, vC.ownBlock = some q → w6.heap.size ≤ q := fun q hq => (hown8.out.lt q hq).1
              have hbj5 := (hbj8H.out.alloc (.cells #[.int .i64 (rv : Int)] 3)).grown hg5 (fun e => by have := hrow _ e.symm; omega)
              have ho5 : Hid (w6.grownBy w5 (some w3.heap.size)) := grown_on (only_alloc hgr8.out (.cells #[.int .i64 (rv : Int)] 3)) hg5 hrow
              have fj1 := hbj5.frozen 1
              have j1' := hbj5.cell 1
              simp at j1'
              have hzj5 := hbj5.lt
              have hbj5H := Lib.hid hbj5
              have hown5H := Lib.hid hown5
              clear hbj5 hown5 hg5 j1 hrow
              go_wp2_with fail
              go_roundg (gk - 1)
              case measure => omega
              case rel =>
                refine ⟨i + 1, by omega, by go_num, _, Box.put_eq hbj5H.out rfl, ?_, only_put ho5.out _ _⟩
                have hlt' : i < (tableOf P ex).length := by rw [tableOf_length]; exact hlt
                have e : (tableOf P ex).take (i + 1) = (tableOf P ex).take i ++ [rv] := by
                  rw [hrowv.out, List.take_succ_eq_append_getElem hlt', List.getD, List.getElem?_eq_getElem hlt']; rfl
                rw [e, List.map_append, List.map_take]
                exact ownsRow_setCell_below (a := ⟨w3.heap.size, 1, none⟩) hown5H.out (by dsimp only; omega) _
        · obtain rfl : i = P.length := by omega
          have hil : ¬ (P.length : Int) < (P.length : Int) := by omega
          obtain ⟨gc, capc, hvC⟩ := Joins.ownsRow_form hown (by omega)
          subst hvC
          have hgc := hown.lt gc rfl
          have hgpj : gp ≠ w3.heap.size := by omega
          have j0' := hbc.cell 0
          have j1' := hbc.cell 1
          have j2' := hbc.cell 2
          simp at j0' j1' j2'
          have hbr8 := hbr6.out.grown hgr (by simp; omega)
          have r0 := hbr8.cell 0
          have r1 := hbr8.cell 1
          have r2 := hbr8.cell 2
          simp at r0 r1 r2
          have fr0 := hbr8.frozen 0
          have fr1 := hbr8.frozen 1
          have fr2 := hbr8.frozen 2
          have hzr8 := hbr8.lt
          have hbr8H := Lib.hid hbr8
          have hownH := Lib.hid hown
          have hgrH := Lib.hid hgr
          have hzc := hbc.lt
          have hs8 := hgr.size
          have htake : Hid ((tableOf P ex).take P.length = tableOf P ex) := by
            have := List.take_length (l := tableOf P ex)
            rw [tableOf_length] at this
            exact this
          have hPh8 : Hid (Phs w8 w8.heap.size (some ⟨gp, 0, none⟩) P) := (hP6.out.other (fun a ha => by injection ha with ha; subst ha; exact hgr.block gp (by omega) (by simpa using hgpj))).more (by omega)
          have hd8 : Hid (HasDeck w8 g) := hd6H.out.other (fun k hk => hgr.block k (by omega) (by simp; omega))
          have ho8 : Hid (w.grownBy w8 (some g)) := grown_on ho6.out hgr (fun q hq => by injection hq with hq; omega)
          clear hbc hown hgr hbr8 j0
          go_wp2_with fail
          refine bodyPost_ret (v := .agg #[.slice (some ⟨gp, 0, none⟩) P.length capp, .slice (some ⟨gc, 0, none⟩) P.length capc, .int .i64 st]) (by simp [results, Try.results15, go_sem, r0, r1, r2, hzr8]) rfl ?_
          refine ⟨gp, gc, capp, capc, n, P, ex, st, rfl, hPsH.out, hn6, hPokH.out, st0, by omega, ?_, ?_, ?_, ?_⟩
          · exact hPh8.out.other3 (by omega) (by simp) _ _ _
          · have := ints_of_own (htake.out ▸ hownH.out) hgc.2 (tableOf_length P ex)
            exact ints_put3 this (by omega) (by simp) _ _ _
          · exact ((hd8.out.far (p := ⟨w.heap.size, 0, none⟩) (by dsimp only; omega) _).far (p := ⟨w.heap.size, 1, none⟩) (by dsimp only; omega) _).far (p := ⟨w.heap.size, 2, none⟩) (by dsimp only; omega) _
          · exact only_far (p := ⟨w.heap.size, 2, none⟩) (only_far (p := ⟨w.heap.size, 1, none⟩) (only_far (p := ⟨w.heap.size, 0, none⟩) ho8.out (by dsimp only; omega) _) (by dsimp only; omega) _) (by dsimp only; omega) _

end Go.Proofs.Ytepodpdcillkmaa
