/- signalbrokerlaw07.bent: whatever it bends, a junction that can be read comes out. -/
import Derived.Test.YtepodpdcillkmaaPlanR
import Derived.StillTailTactics
import Derived.Deep.AppendLies
import Derived.Deep.RegionLaw
import Derived.Deep.DeepCutAuto
namespace Go.Proofs.Ytepodpdcillkmaa
open Go.RowKit
set_option linter.unusedVariables false
set_option linter.unusedSimpArgs false

/-- A slice as Go makes them: nil, or at an address with room. -/
def Sl (A : Option Addr) (len cap : Nat) : Prop := (A = none ∧ len = 0 ∧ cap = 0) ∨ ∃ b off, A = some ⟨b, off, none⟩ ∧ len ≤ cap

/-- Block g holds the phases P at its start. -/
def RowP (w : World) (g : Nat) (P : List Ph) : Prop := ∃ cur : Array Value, Box w g 55 cur ∧ ∀ i j, i < P.length → j < 8 → cur[i * 8 + j]? = ((P.getD i pz).cells)[j]?
theorem RowP.lt {w : World} {g : Nat} {P : List Ph} (h : RowP w g P) : g < w.heap.size := by obtain ⟨_, hb, _⟩ := h; exact hb.lt
theorem RowP.cell {w : World} {g : Nat} {P : List Ph} (h : RowP w g P) {i j : Nat} (hi : i < P.length) (hj : j < 8) : w.cell? ⟨g, i * 8 + j, none⟩ = ((P.getD i pz).cells)[j]? := by
  obtain ⟨cur, hb, hc⟩ := h
  exact (hb.cell _).trans (hc i j hi hj)
theorem RowP.frozen {w : World} {g : Nat} {P : List Ph} (h : RowP w g P) (o : Nat) : w.frozen? ⟨g, o, none⟩ = false := by
  obtain ⟨cur, hb, hc⟩ := h
  exact hb.frozen o
theorem RowP.far {w : World} {g : Nat} {P : List Ph} (h : RowP w g P) {p : Addr} (hp : g ≠ p.block) (u : Value) : RowP (w.setCell p u) g P := by
  obtain ⟨cur, hb, hc⟩ := h
  exact ⟨cur, hb.far hp u, hc⟩
theorem RowP.below {w w' : World} {B g : Nat} {P : List Ph} (h : RowP w g P) (hb : Below B w w') (hg : g < B) : RowP w' g P := by
  obtain ⟨cur, h1, hc⟩ := h
  exact ⟨cur, h1.below hb hg, hc⟩
theorem RowP.phs {w : World} {g : Nat} {P : List Ph} (h : RowP w g P) {B : Nat} (hB : g < B) : Phs w B (some ⟨g, 0, none⟩) P := fun i hi => by
  refine ⟨g, 0, rfl, hB, ?_⟩
  rw [Nat.zero_add]
  exact ⟨h.cell (j := 0) hi (by omega), h.cell (j := 1) hi (by omega), h.cell (j := 2) hi (by omega), h.cell (j := 3) hi (by omega), h.cell (j := 4) hi (by omega), h.cell (j := 5) hi (by omega), h.cell (j := 6) hi (by omega), h.cell (j := 7) hi (by omega)⟩
/-- The phase with its field j turned. -/
def Ph.upd (p : Ph) (j : Nat) (v : Int) : Ph :=
  ⟨if j = 0 then v else p.r, if j = 1 then v else p.g, if j = 2 then v else p.mn, if j = 3 then v else p.mx, if j = 4 then v else p.ye, if j = 5 then v else p.re, if j = 6 then v else p.wa, if j = 7 then v else p.cl⟩
theorem Ph.upd_cells (p : Ph) (j : Nat) (v : Int) (hj : j < 8) : (p.upd j v).cells = p.cells.set j (.int .i64 v) := by
  match j, hj with
  | 0, _ => rfl
  | 1, _ => rfl
  | 2, _ => rfl
  | 3, _ => rfl
  | 4, _ => rfl
  | 5, _ => rfl
  | 6, _ => rfl
  | 7, _ => rfl
theorem RowP.put {w : World} {g : Nat} {P : List Ph} (h : RowP w g P) (k j : Nat) (hk : k < P.length) (hj : j < 8) (v : Int) :
    RowP (w.setCell ⟨g, k * 8 + j, none⟩ (.int .i64 v)) g (P.set k ((P.getD k pz).upd j v)) := by
  obtain ⟨cur, hb, hc⟩ := h
  refine ⟨_, hb.put _ _, fun i j' hi hj' => ?_⟩
  rw [List.length_set] at hi
  have e := hc i j' hi hj'
  have hs : i * 8 + j' < cur.size := by
    apply Classical.byContradiction
    intro hge
    rw [Array.getElem?_eq_none (by omega)] at e
    have : ((P.getD i pz).cells)[j']? ≠ none := by
      rw [List.getElem?_eq_getElem (by simpa using hj')]; simp
    exact this e.symm
  rw [Array.getElem?_setIfInBounds]
  by_cases hki : k = i
  · subst hki
    have e2 : (P.set k ((P.getD k pz).upd j v)).getD k pz = (P.getD k pz).upd j v := by simp [List.getD, hk]
    rw [e2, Ph.upd_cells _ _ _ hj, List.getElem?_set]
    by_cases hjj : j = j'
    · subst hjj
      rw [if_pos rfl, if_pos hs, if_pos rfl, if_pos (by simpa using hj)]
    · rw [if_neg (by omega), if_neg hjj, e]
  · have e2 : (P.set k ((P.getD k pz).upd j v)).getD i pz = P.getD i pz := by simp [List.getD, hki, List.getElem?_set]
    rw [if_neg (by omega), e2, e]
theorem rowP_of_own {w : World} {base g cap n : Nat} {P : List Ph} (h : w.ownsRow base 55 8 (.slice (some ⟨g, 0, none⟩) n cap) n (P.flatMap Ph.cells)) (hl : P.length = n) : RowP w g P := by
  have e := fun j => h.cellAt j
  have hlen := h.1
  obtain ⟨_, h2⟩ := h
  rcases h2 with ⟨hv, _⟩ | ⟨g', cap', cur, hv, hg, hh, hcap, _, hcs, _⟩
  · cases hv
  · injection hv with hv _ hv2
    injection hv with hv
    injection hv with hv
    subst hv hv2
    have hb : Box w g 55 cur := hh
    refine ⟨cur, hb, fun i j hi hj => ?_⟩
    rw [← flat_at P i j hi hj]
    exact (hb.cell _).symm.trans (e _ (by omega))
/-- The cells of phases at an address. -/
theorem phs_cells {w : World} {B b off : Nat} {P : List Ph} (h : Phs w B (some ⟨b, off, none⟩) P) : ∀ j u, (P.flatMap Ph.cells)[j]? = some u → w.cell? ((⟨b, off, none⟩ : Addr).add j) = some u := by
  intro j u hu
  have hl : (P.flatMap Ph.cells).length = P.length * 8 := by
    clear h hu
    induction P with
    | nil => rfl
    | cons p P ih => rw [List.flatMap_cons, List.length_append, ih, List.length_cons]; simp; omega
  obtain ⟨hj, _⟩ := List.getElem?_eq_some_iff.1 hu
  rw [hl] at hj
  have hi : j / 8 < P.length := by omega
  have hjj : j % 8 < 8 := Nat.mod_lt _ (by omega)
  have ej : j / 8 * 8 + j % 8 = j := by omega
  have := flat_at P (j / 8) (j % 8) hi hjj
  rw [ej, hu] at this
  obtain ⟨b', off', e, _, hat⟩ := h (j / 8) hi
  injection e with e
  injection e with e1 e2
  subst e1 e2
  rw [Addr.add_lit, ← ej, ← Nat.add_assoc]
  generalize j % 8 = r at hjj this
  match r, hjj with
  | 0, _ => rw [this]; exact hat.c0
  | 1, _ => rw [this]; exact hat.c1
  | 2, _ => rw [this]; exact hat.c2
  | 3, _ => rw [this]; exact hat.c3
  | 4, _ => rw [this]; exact hat.c4
  | 5, _ => rw [this]; exact hat.c5
  | 6, _ => rw [this]; exact hat.c6
  | 7, _ => rw [this]; exact hat.c7
theorem phs_one (P : List Ph) : ∀ u ∈ P.flatMap Ph.cells, u.oneCell' = true := by
  intro u hu
  obtain ⟨p, _, hp⟩ := List.mem_flatMap.1 hu
  simp at hp
  rcases hp with rfl | rfl | rfl | rfl | rfl | rfl | rfl | rfl <;> rfl
theorem phs_flat (P : List Ph) : (P.flatMap Ph.cells).length = P.length * 8 := by
  induction P with
  | nil => rfl
  | cons p P ih => rw [List.flatMap_cons, List.length_append, ih, List.length_cons]; simp; omega
theorem ints_cells {w : World} {B b off : Nat} {xs : List Int} (h : Ints w B (some ⟨b, off, none⟩) xs) : ∀ j u, (xs.map (Value.int .i64))[j]? = some u → w.cell? ((⟨b, off, none⟩ : Addr).add j) = some u := by
  intro j u hu
  obtain ⟨hj, hu2⟩ := List.getElem?_eq_some_iff.1 hu
  rw [List.length_map] at hj
  obtain ⟨b', off', e', _, hc'⟩ := h j hj
  injection e' with e'
  injection e' with e1 e2
  subst e1 e2
  rw [Addr.add_lit, hc', ← hu2]
  simp [List.getD, hj]
theorem ints_one (xs : List Int) : ∀ u ∈ xs.map (Value.int .i64), u.oneCell' = true := by
  intro u hu
  obtain ⟨z, _, rfl⟩ := List.mem_map.1 hu; rfl

theorem own_far {w : World} {base n size : Nat} {t : TypeId} {v : Value} {xs : List Value} (h : w.ownsRow base t size v n xs) {p : Addr} (hp : p.block < base) (u : Value) : (w.setCell p u).ownsRow base t size v n xs := by
  obtain ⟨h1, h2⟩ := h
  refine ⟨h1, ?_⟩
  rcases h2 with h2 | ⟨g, cap, cur, hv, hg, hh, r⟩
  · exact .inl h2
  · exact .inr ⟨g, cap, cur, hv, hg, (Below.heap_setCell _ _ _ _ (by omega)).trans hh, r⟩

/-- What bent leaves. -/
def BentPost (n m : Nat) (w : World) (e : Ending) (w' : World) : Prop :=
  ∃ (gp capp : Nat) (A2 : Option Addr) (cap2 : Nat) (P : List Ph) (C : List Int) (s : Int), e = .returned (.agg #[.slice (some ⟨gp, 0, none⟩) P.length capp, .slice A2 C.length cap2, .int .i64 s]) ∧
    1 ≤ P.length ∧ P.length ≤ 2 * n ∧ C.length ≤ 2 * m ∧ P.length ≤ capp ∧ Sl A2 C.length cap2 ∧ (0 < m → ∃ b off, A2 = some ⟨b, off, none⟩) ∧
    Phs w' w'.heap.size (some ⟨gp, 0, none⟩) P ∧ Ints w' w'.heap.size A2 C ∧ Below w.heap.size w w' ∧ w.heap.size ≤ gp ∧ ∀ a, A2 = some a → w.heap.size ≤ a.block

theorem c7_step {W w5 : World} {N : Nat} {u : Value} (hg : W.drew.grownBy w5 nilS.ownBlock) (hN : N < W.heap.size) (hc : W.cell? ⟨N, 0, none⟩ = some u) : w5.cell? ⟨N, 0, none⟩ = some u :=
  (World.cell?_of_block (w := W) (w' := w5) (a := ⟨N, 0, none⟩) (hg.block N hN (by simp [Value.ownBlock]))).trans hc
theorem c7_box {W w5 : World} {N : Nat} {t : TypeId} {cs : Array Value} (h : Box W N t cs) (hg : W.drew.grownBy w5 nilS.ownBlock) : Box w5 N t cs :=
  (hg.block N h.lt (by simp [Value.ownBlock])).trans h
theorem c7_below {N : Nat} {W w5 w6 : World} {g1 : Nat} (hN : N ≤ W.heap.size) (h5 : W.drew.grownBy w5 nilS.ownBlock) (h6 : w5.grownBy w6 (some g1)) (hg : W.heap.size ≤ g1) : Below N W w6 :=
  (((Below.refl N W).drew).grown h5 hN (by simp [Value.ownBlock])).grown h6 (Nat.le_trans hN h5.size) (fun q hq => by injection hq with hq; omega)
theorem c8_news {W w5 : World} {g o : Nat} {l : List Value} (hg : W.drew.grownBy w5 nilS.ownBlock) (hN : g < W.heap.size) (hc : ∀ j u, l[j]? = some u → W.cell? ((⟨g, o, none⟩ : Addr).add j) = some u) : ∀ j u, l[j]? = some u → w5.cell? ((⟨g, o, none⟩ : Addr).add j) = some u := by
  intro j u hu
  have := hc j u hu
  rw [Addr.add_lit] at this ⊢
  exact (World.cell?_of_block (w := W) (w' := w5) (a := ⟨g, o + j, none⟩) (hg.block g hN (by simp [Value.ownBlock]))).trans this
theorem c7_news {W w5 : World} {g : Nat} {l : List Value} (hg : W.drew.grownBy w5 nilS.ownBlock) (hN : g < W.heap.size) (hc : ∀ j u, l[j]? = some u → W.cell? ((⟨g, 0, none⟩ : Addr).add j) = some u) : ∀ j u, l[j]? = some u → w5.cell? ((⟨g, 0, none⟩ : Addr).add j) = some u := by
  intro j u hu
  have := hc j u hu
  rw [Addr.add_lit] at this ⊢
  exact (World.cell?_of_block (w := W) (w' := w5) (a := ⟨g, 0 + j, none⟩) (hg.block g hN (by simp [Value.ownBlock]))).trans this
/-- What the doubled phases leave. -/
def C7B (N gp : Nat) (P : List Ph) (A2 : Option Addr) (cc : Nat) (C : List Int) (s : Int) (W wx : World) : Prop :=
  ∃ g2 c2, Box wx N 26 #[.slice (some ⟨g2, 0, none⟩) (P.length + P.length) c2, .slice A2 C.length cc, .int .i64 s] ∧ RowP wx g2 (P ++ P) ∧ Box wx (N + 1) 26 #[nilS, nilS, .int .i64 0] ∧ Ints wx wx.heap.size A2 C ∧ P.length + P.length ≤ c2 ∧ W.heap.size ≤ g2 ∧ Below N W wx ∧ W.heap.size ≤ wx.heap.size
theorem BentPost.drew {n m : Nat} {w w' : World} {e : Ending} (h : BentPost n m w e w') : BentPost n m w e w'.drew := by
  obtain ⟨gp, cp, A2, cc, P, C, s, a1, a2, a3, a4, a5, a6, a7, a8, a9, a10, a11⟩ := h
  exact ⟨gp, cp, A2, cc, P, C, s, a1, a2, a3, a4, a5, a6, a7, a8.below ((Below.refl _ _).drew), a9, a10.drew, a11⟩
theorem ints_far {w : World} {B : Nat} {A : Option Addr} {xs : List Int} (h : Ints w B A xs) {p : Addr} (hp : ∀ a, A = some a → a.block ≠ p.block) (u : Value) : Ints (w.setCell p u) B A xs := fun i hi => by
  obtain ⟨b, off, e, hlt, hc⟩ := h i hi
  have hne := hp _ e
  refine ⟨b, off, e, hlt, ?_⟩
  rw [← hc]
  exact World.cell?_of_block (w := w) (w' := w.setCell p u) (a := ⟨b, off + i, none⟩) (Below.heap_setCell w p u b hne)
theorem box_put3 {w : World} {g : Nat} {t : TypeId} {a b c : Value} (h : Box w g t #[a, b, c]) (x y z : Value) : Box (((w.setCell ⟨g, 0, none⟩ x).setCell ⟨g, 1, none⟩ y).setCell ⟨g, 2, none⟩ z) g t #[x, y, z] :=
  Box.put_eq (Box.put_eq (Box.put_eq h (cs' := #[x, b, c]) (by simp)) (cs' := #[x, y, c]) (by simp)) (by simp)
theorem bent_fin {w W4 : World} {n m gp cp cc : Nat} {s' : Int} {A2 : Option Addr} {P' : List Ph} {C' : List Int} {x y z : Value} (hgp : w.heap.size + 2 ≤ gp) (hP : RowP W4 gp P') (h1 : 1 ≤ P'.length) (h2 : P'.length ≤ 2 * n) (h3 : C'.length ≤ 2 * m) (h4 : P'.length ≤ cp)
    (hS : Sl A2 C'.length cc) (hm : 0 < m → ∃ b off, A2 = some ⟨b, off, none⟩) (hC : Ints W4 W4.heap.size A2 C') (hA2 : ∀ a, A2 = some a → w.heap.size + 2 ≤ a.block) (hb : Below w.heap.size w W4) :
    BentPost n m w (.returned (.agg #[.slice (some ⟨gp, 0, none⟩) P'.length cp, .slice A2 C'.length cc, .int .i64 s'])) (((W4.setCell ⟨w.heap.size + 1, 0, none⟩ x).setCell ⟨w.heap.size + 1, 1, none⟩ y).setCell ⟨w.heap.size + 1, 2, none⟩ z) := by
  have hne : ∀ a, A2 = some a → a.block ≠ w.heap.size + 1 := fun a ha => by have := hA2 a ha; omega
  refine ⟨gp, cp, A2, cc, P', C', s', rfl, h1, h2, h3, h4, hS, hm, ?_, ?_, ((hb.setCell (by simp) _).setCell (by simp) _).setCell (by simp) _, by omega, fun a ha => by have := hA2 a ha; omega⟩
  · have := ((hP.far (p := ⟨w.heap.size + 1, 0, none⟩) (by dsimp only; omega) x).far (p := ⟨w.heap.size + 1, 1, none⟩) (by dsimp only; omega) y).far (p := ⟨w.heap.size + 1, 2, none⟩) (by dsimp only; omega) z
    exact this.phs this.lt
  · have := ints_far (ints_far (ints_far hC (p := ⟨w.heap.size + 1, 0, none⟩) hne x) (p := ⟨w.heap.size + 1, 1, none⟩) hne y) (p := ⟨w.heap.size + 1, 2, none⟩) hne z
    simpa using this

set_option maxRecDepth 100000 in
set_option maxHeartbeats 4000000 in
theorem bent_any (bA oA bC oC cap cap2 : Nat) (P : List Ph) (C : List Int) (s : Int) (which byv : Int) (w : World) (hA : Phs w w.heap.size (some ⟨bA, oA, none⟩) P) (h1 : 1 ≤ P.length) (hm : P.length ≤ 60) (hC : Ints w w.heap.size (some ⟨bC, oC, none⟩) C) (hn : C.length ≤ 60) :
    Calls Try.prog 33 #[.agg #[.slice (some ⟨bA, oA, none⟩) P.length cap, .slice (some ⟨bC, oC, none⟩) C.length cap2, .int .i64 s], .int .i64 which, .int .i64 byv] w fun e w' => BentPost P.length C.length w e w' := by
  have HA := Lib.hid hA
  have HC := Lib.hid hC
  clear hA hC
  go_enter Try.func33, Try.ntmps33
  obtain ⟨p0, hp0, pz0, pz10, pz20⟩ := info_parts phase_info
  obtain ⟨i0, hi0, hz0, hz10, hz20⟩ := info_parts int_info
  go_upto_region 1 with fail
  have hJ0 : Hid (Box ((w.alloc (.cells #[.slice (some ⟨bA, oA, none⟩) P.length cap, .slice (some ⟨bC, oC, none⟩) C.length cap2, .int .i64 s] 26)).alloc (.cells #[nilS, nilS, .int .i64 0] 26)) w.heap.size 26 #[.slice (some ⟨bA, oA, none⟩) P.length cap, .slice (some ⟨bC, oC, none⟩) C.length cap2, .int .i64 s]) := (Box.new w _ _).alloc _
  have hR0 : Hid (Box ((w.alloc (.cells #[.slice (some ⟨bA, oA, none⟩) P.length cap, .slice (some ⟨bC, oC, none⟩) C.length cap2, .int .i64 s] 26)).alloc (.cells #[nilS, nilS, .int .i64 0] 26)) (w.heap.size + 1) 26 #[nilS, nilS, .int .i64 0]) := boxNew2 w _ _ _
  have hW0 : Hid (Below w.heap.size w ((w.alloc (.cells #[.slice (some ⟨bA, oA, none⟩) P.length cap, .slice (some ⟨bC, oC, none⟩) C.length cap2, .int .i64 s] 26)).alloc (.cells #[nilS, nilS, .int .i64 0] 26))) := Lib.hid (by go_grown)
  have hz0' : (((w.alloc (.cells #[.slice (some ⟨bA, oA, none⟩) P.length cap, .slice (some ⟨bC, oC, none⟩) C.length cap2, .int .i64 s] 26)).alloc (.cells #[nilS, nilS, .int .i64 0] 26))).heap.size = w.heap.size + 1 + 1 := by simp
  generalize ((w.alloc (.cells #[.slice (some ⟨bA, oA, none⟩) P.length cap, .slice (some ⟨bC, oC, none⟩) C.length cap2, .int .i64 s] 26)).alloc (.cells #[nilS, nilS, .int .i64 0] 26)) = W0 at hJ0 hR0 hW0 hz0' ⊢
  have hzA : w.heap.size + 2 ≤ W0.heap.size := by omega
  have hzA1 : w.heap.size < W0.heap.size := by omega
  clear hz0'
  have j0 := hJ0.out.cell 0
  have j1 := hJ0.out.cell 1
  simp at j0 j1
  have hA0 := Lib.hid (phs_cells (HA.out.below hW0.out))
  go_wp2_with (at_builtin; refine wpList_append_own _ rfl (.const nilS) (.tmp 11) 24 rfl W0.heap.size 55 p0 pz.val 8 64 Try.underlying24 hp0 pz0 pz10 pz20 rfl (by decide) _ _ _ rfl (World.ownsRow_nil _ _ _ _) ⟨bA, oA, none⟩ P.length cap (P.flatMap Ph.cells) rfl ?c1 ?c2 ?c3 ?c4 ?c5 ?c6 ?_)
  case c1 => exact phs_flat P
  case c2 => exact hA0.out
  case c3 => exact phs_one P
  case c4 => unfold maxLen; omega
  case c5 => omega
  case c6 => exact Nat.le_refl _
  intro v1 w1 hown1 hg1 _
  obtain ⟨gp, cp, hv1⟩ := Joins.ownsRow_form hown1 (by omega)
  subst hv1
  obtain ⟨hgp, hgp1⟩ := hown1.lt gp rfl
  have hcp : P.length ≤ cp := by
    rcases hown1.2 with ⟨hv, _⟩ | ⟨_, _, _, hv, _, _, hcap, _⟩
    · cases hv
    · injection hv with _ _ hv; subst hv; exact hcap
  have hb1 : Below W0.heap.size W0 w1 := ⟨hg1.os, hg1.tape, hg1.output, hg1.size, fun q hq => hg1.block q hq (by simp [Value.ownBlock])⟩
  have hRP1 : Hid (RowP w1 gp P) := rowP_of_own hown1 rfl
  have hJ1 : Hid (Box w1 w.heap.size 26 #[.slice (some ⟨bA, oA, none⟩) P.length cap, .slice (some ⟨bC, oC, none⟩) C.length cap2, .int .i64 s]) := hJ0.out.below hb1 hzA1
  have hR1 : Hid (Box w1 (w.heap.size + 1) 26 #[nilS, nilS, .int .i64 0]) := hR0.out.below hb1 (by omega)
  have hW1 : Hid (Below w.heap.size w w1) := hW0.out.trans (hb1.mono (by omega))
  have hz1 := hb1.size
  have hzB1 : w.heap.size < w1.heap.size := by omega
  clear hown1 hg1 hb1 j0 j1
  have j0 := hJ1.out.cell 0
  have f0 := hJ1.out.frozen 0
  simp at j0
  have hJ1' : Hid (Box (w1.setCell ⟨w.heap.size, 0, none⟩ (.slice (some ⟨gp, 0, none⟩) P.length cp)) w.heap.size 26 #[.slice (some ⟨gp, 0, none⟩) P.length cp, .slice (some ⟨bC, oC, none⟩) C.length cap2, .int .i64 s]) := Box.put_eq hJ1.out (by simp)
  have hRP1' : Hid (RowP (w1.setCell ⟨w.heap.size, 0, none⟩ (.slice (some ⟨gp, 0, none⟩) P.length cp)) gp P) := hRP1.out.far (by dsimp only; omega) _
  have hR1' : Hid (Box (w1.setCell ⟨w.heap.size, 0, none⟩ (.slice (some ⟨gp, 0, none⟩) P.length cp)) (w.heap.size + 1) 26 #[nilS, nilS, .int .i64 0]) := hR1.out.far (by simp) _
  have hW1' : Hid (Below w.heap.size w (w1.setCell ⟨w.heap.size, 0, none⟩ (.slice (some ⟨gp, 0, none⟩) P.length cp))) := hW1.out.setCell (by simp) _
  have hz1' : (w1.setCell ⟨w.heap.size, 0, none⟩ (.slice (some ⟨gp, 0, none⟩) P.length cp)).heap.size = w1.heap.size := by simp
  go_upto_region 2 with fail
  generalize (w1.setCell ⟨w.heap.size, 0, none⟩ (.slice (some ⟨gp, 0, none⟩) P.length cp)) = W1 at hJ1' hRP1' hR1' hW1' hz1' ⊢
  have hzC : w.heap.size < W1.heap.size := by omega
  have hzC2 : gp < W1.heap.size := by omega
  have hzC3 : w.heap.size + 2 ≤ W1.heap.size := by omega
  have hzC4 : w.heap.size + 2 ≤ gp := by omega
  clear hz1' hJ0 hR0 hW0 hJ1 hRP1 hR1 hW1 j0 f0 hgp1 hz1 hzB1 hA0 hgp hzA hzA1
  have j1 := hJ1'.out.cell 1
  simp at j1
  have hC0 := Lib.hid (ints_cells (HC.out.below hW1'.out))
  go_wp2_with (at_builtin; refine wpList_append_own _ rfl (.const nilS) (.tmp 15) 22 rfl W1.heap.size 3 i0 (.int .i64 0) 1 8 Try.underlying22 hi0 hz0 hz10 hz20 rfl (by decide) _ _ _ rfl (World.ownsRow_nil _ _ _ _) ⟨bC, oC, none⟩ C.length cap2 (C.map (Value.int .i64)) rfl ?c1 ?c2 ?c3 ?c4 ?c5 ?c6 ?_)
  case c1 => rw [List.length_map]; omega
  case c2 => exact hC0.out
  case c3 => exact ints_one C
  case c4 => unfold maxLen; omega
  case c5 => omega
  case c6 => exact Nat.le_refl _
  intro vC w2 hown2 hg2 hiff
  obtain ⟨A2, cc, hvC⟩ : ∃ (A2 : Option Addr) (cc : Nat), vC = .slice A2 C.length cc := by
    have : w2.ownsRow W1.heap.size 3 1 vC C.length (C.map (Value.int .i64)) := hown2
    obtain ⟨A, cap, hv, _⟩ := own_read this
    exact ⟨A, cap, hv⟩
  subst hvC
  have hiffH := Lib.hid hiff
  clear hiff
  have hb2 : Below W1.heap.size W1 w2 := ⟨hg2.os, hg2.tape, hg2.output, hg2.size, fun q hq => hg2.block q hq (by simp [Value.ownBlock])⟩
  have hJ2 : Hid (Box w2 w.heap.size 26 #[.slice (some ⟨gp, 0, none⟩) P.length cp, .slice (some ⟨bC, oC, none⟩) C.length cap2, .int .i64 s]) := hJ1'.out.below hb2 hzC
  have j1' := hJ2.out.cell 1
  have f1 := hJ2.out.frozen 1
  simp at j1'
  have hown2H := Lib.hid hown2
  have hz2 := hb2.size
  have hzD : w.heap.size < w2.heap.size := by omega
  have hJ2' : Hid (Box (w2.setCell ⟨w.heap.size, 1, none⟩ (.slice A2 C.length cc)) w.heap.size 26 #[.slice (some ⟨gp, 0, none⟩) P.length cp, .slice A2 C.length cc, .int .i64 s]) := Box.put_eq hJ2.out (by simp)
  have hRP2 : Hid (RowP (w2.setCell ⟨w.heap.size, 1, none⟩ (.slice A2 C.length cc)) gp P) := (hRP1'.out.below hb2 hzC2).far (by dsimp only; omega) _
  have hR2 : Hid (Box (w2.setCell ⟨w.heap.size, 1, none⟩ (.slice A2 C.length cc)) (w.heap.size + 1) 26 #[nilS, nilS, .int .i64 0]) := (hR1'.out.below hb2 (by omega)).far (by simp) _
  have hW2 : Hid (Below w.heap.size w (w2.setCell ⟨w.heap.size, 1, none⟩ (.slice A2 C.length cc))) := (hW1'.out.trans (hb2.mono (by omega))).setCell (by simp) _
  have hown2' : Hid ((w2.setCell ⟨w.heap.size, 1, none⟩ (.slice A2 C.length cc)).ownsRow W1.heap.size 3 1 (.slice A2 C.length cc) C.length (C.map (Value.int .i64))) := own_far hown2 (by dsimp only; omega) _
  have hz2' : (w2.setCell ⟨w.heap.size, 1, none⟩ (.slice A2 C.length cc)).heap.size = w2.heap.size := by simp
  clear hown2 hg2 hb2 j1
  go_upto_region 3 with fail
  generalize (w2.setCell ⟨w.heap.size, 1, none⟩ (.slice A2 C.length cc)) = W2 at hJ2' hRP2 hR2 hW2 hown2' hz2' ⊢
  have hzE : w.heap.size < W2.heap.size := by omega
  have hzE2 : gp < W2.heap.size := by omega
  have hzE3 : w.heap.size + 2 ≤ W2.heap.size := by omega
  have hzE4 : W1.heap.size ≤ W2.heap.size := by omega
  have hzE5 : w.heap.size + 1 < W2.heap.size := by omega
  clear hz2' hz2 hJ1' hRP1' hR1' hW1' hJ2 j1' f1 hown2H hzD hC0 i0 hi0 hz0 hz10 hz20
  have j0 := hJ2'.out.cell 0
  have j1 := hJ2'.out.cell 1
  have j2 := hJ2'.out.cell 2
  simp at j0 j1 j2
  obtain ⟨k, hk⟩ : ∃ k : Nat, byv % (P.length : Int) = (k : Int) := ⟨(byv % (P.length : Int)).toNat, (Int.toNat_of_nonneg (Int.emod_nonneg _ (by omega))).symm⟩
  have hkl : k < P.length := by
    have := Int.emod_lt_of_pos byv (b := (P.length : Int)) (by omega)
    omega
  have hkli : (k : Int) < (P.length : Int) := by omega
  have hkH := Lib.hid hk
  clear hk
  go_wp2_with fail
  refine (mod_any _ _ _ (by omega) (by omega)).mono ?_; rintro e w' ⟨rfl, rfl⟩
  rw [hkH.out]
  go_wp2_with fail
  refine (mod_any _ _ _ (by omega) (by omega)).mono ?_; rintro e w' ⟨rfl, rfl⟩
  obtain ⟨q, hq⟩ : ∃ q : Nat, wrap64 (byv.tdiv 8) % 8 = (q : Int) := ⟨(wrap64 (byv.tdiv 8) % 8).toNat, (Int.toNat_of_nonneg (Int.emod_nonneg _ (by omega))).symm⟩
  have hq8 : q < 8 := by
    have := Int.emod_lt_of_pos (wrap64 (byv.tdiv 8)) (b := 8) (by omega)
    omega
  have hq8i : (q : Int) < 8 := by omega
  obtain ⟨v, hvc⟩ : ∃ v : Int, (W2.alloc (.cells #[.int .i64 (-1), .int .i64 0, .int .i64 1, .int .i64 2, .int .i64 3, .int .i64 4, .int .i64 60, .int .i64 61] 3)).cell? ⟨W2.heap.size, q, none⟩ = some (.int .i64 v) := by
    rw [(Box.new W2 3 #[.int .i64 (-1), .int .i64 0, .int .i64 1, .int .i64 2, .int .i64 3, .int .i64 4, .int .i64 60, .int .i64 61]).cell q]
    match q, hq8 with
    | 0, _ => exact ⟨_, rfl⟩
    | 1, _ => exact ⟨_, rfl⟩
    | 2, _ => exact ⟨_, rfl⟩
    | 3, _ => exact ⟨_, rfl⟩
    | 4, _ => exact ⟨_, rfl⟩
    | 5, _ => exact ⟨_, rfl⟩
    | 6, _ => exact ⟨_, rfl⟩
    | 7, _ => exact ⟨_, rfl⟩
  rw [hq]
  have hb3 : Below W2.heap.size W2 (W2.alloc (.cells #[.int .i64 (-1), .int .i64 0, .int .i64 1, .int .i64 2, .int .i64 3, .int .i64 4, .int .i64 60, .int .i64 61] 3)) := (Below.refl _ _).alloc (Nat.le_refl _) _
  have hJ3 : Hid (Box (W2.alloc (.cells #[.int .i64 (-1), .int .i64 0, .int .i64 1, .int .i64 2, .int .i64 3, .int .i64 4, .int .i64 60, .int .i64 61] 3)) w.heap.size 26 #[.slice (some ⟨gp, 0, none⟩) P.length cp, .slice A2 C.length cc, .int .i64 s]) := hJ2'.out.alloc _
  have hRP3 : Hid (RowP (W2.alloc (.cells #[.int .i64 (-1), .int .i64 0, .int .i64 1, .int .i64 2, .int .i64 3, .int .i64 4, .int .i64 60, .int .i64 61] 3)) gp P) := hRP2.out.below hb3 hzE2
  have hR3 : Hid (Box (W2.alloc (.cells #[.int .i64 (-1), .int .i64 0, .int .i64 1, .int .i64 2, .int .i64 3, .int .i64 4, .int .i64 60, .int .i64 61] 3)) (w.heap.size + 1) 26 #[nilS, nilS, .int .i64 0]) := hR2.out.alloc _
  have hW3 : Hid (Below w.heap.size w (W2.alloc (.cells #[.int .i64 (-1), .int .i64 0, .int .i64 1, .int .i64 2, .int .i64 3, .int .i64 4, .int .i64 60, .int .i64 61] 3))) := hW2.out.trans (hb3.mono (by omega))
  have hown3 : Hid (((W2.alloc (.cells #[.int .i64 (-1), .int .i64 0, .int .i64 1, .int .i64 2, .int .i64 3, .int .i64 4, .int .i64 60, .int .i64 61] 3))).ownsRow W1.heap.size 3 1 (.slice A2 C.length cc) C.length (C.map (Value.int .i64))) := hown2'.out.alloc _
  have hz3 : ((W2.alloc (.cells #[.int .i64 (-1), .int .i64 0, .int .i64 1, .int .i64 2, .int .i64 3, .int .i64 4, .int .i64 60, .int .i64 61] 3))).heap.size = W2.heap.size + 1 := by simp
  clear hb3 hq j0 j1 j2
  go_upto_region 6 with fail
  generalize (W2.alloc (.cells #[.int .i64 (-1), .int .i64 0, .int .i64 1, .int .i64 2, .int .i64 3, .int .i64 4, .int .i64 60, .int .i64 61] 3)) = W3 at hvc hJ3 hRP3 hR3 hW3 hown3 hz3 ⊢
  have hzF : w.heap.size < W3.heap.size := by omega
  have hzF2 : gp < W3.heap.size := by omega
  have hzF3 : w.heap.size + 2 ≤ W3.heap.size := by omega
  have hzF4 : W1.heap.size ≤ W3.heap.size := by omega
  have hzF5 : w.heap.size + 1 < W3.heap.size := by omega
  clear hz3 hJ2' hRP2 hR2 hW2 hown2' hvc hzE hzE2 hzE3 hzE4 hzE5
  have j0 := hJ3.out.cell 0
  have j1 := hJ3.out.cell 1
  have j2 := hJ3.out.cell 2
  have fj := hJ3.out.frozen
  have r0 := hR3.out.cell 0
  have r1 := hR3.out.cell 1
  have r2 := hR3.out.cell 2
  have fr := hR3.out.frozen
  have fp := hRP3.out.frozen
  simp at j0 j1 j2 r0 r1 r2
  go_wp2_with fail
  refine (mod_any _ _ _ (by omega) (by omega)).mono ?_; rintro e w' ⟨rfl, rfl⟩
  obtain ⟨c, hc⟩ : ∃ c : Nat, which % 12 = (c : Int) := ⟨(which % 12).toNat, (Int.toNat_of_nonneg (Int.emod_nonneg _ (by omega))).symm⟩
  have hc12 : c < 12 := by
    have := Int.emod_lt_of_pos which (b := 12) (by omega)
    omega
  rw [hc]
  clear hc
  have hC3 : Hid (Ints W3 W3.heap.size A2 C) := by
    have h := hown3.out
    obtain ⟨A', cap', e', hI⟩ := own_read h
    injection e' with e1
    subst e1
    exact hI
  have hA2 : Hid (∀ a, A2 = some a → W1.heap.size ≤ a.block) := Lib.hid fun a ha => (hown3.out.lt a.block (by rw [ha]; rfl)).1
  have hSl : Hid (Sl A2 C.length cc) := Lib.hid (by
    rcases hown3.out.2 with ⟨hv, h0⟩ | ⟨g, cap', cur, hv, _, _, hle, _⟩
    · injection hv with a1 a2 a3; exact .inl ⟨a1, a2, a3⟩
    · injection hv with a1 a2 a3; subst a3; exact .inr ⟨g, 0, a1, hle⟩)
  have hCm : Hid (0 < C.length → ∃ b off, A2 = some ⟨b, off, none⟩) := Lib.hid (by
    intro h0
    rcases hSl.out with ⟨_, h, _⟩ | ⟨b, off, e, _⟩
    · omega
    · exact ⟨b, off, e⟩)
  match c, hc12 with
  | 0, _ =>
    obtain ⟨u, hu⟩ : ∃ u, W3.cell? ⟨gp, k * 8 + 0, none⟩ = some u := ⟨_, (hRP3.out.cell (j := 0) hkl (by omega)).trans rfl⟩
    simp only [Nat.add_zero] at hu
    have hRP4 : Hid (RowP (W3.setCell ⟨gp, k * 8, none⟩ (.int .i64 v)) gp (P.set k ((P.getD k pz).upd 0 v))) := hRP3.out.put k 0 hkl (by omega) v
    have hR4 : Hid (Box (W3.setCell ⟨gp, k * 8, none⟩ (.int .i64 v)) (w.heap.size + 1) 26 #[nilS, nilS, .int .i64 0]) := hR3.out.far (by dsimp only; omega) _
    have hC4 : Hid (Ints (W3.setCell ⟨gp, k * 8, none⟩ (.int .i64 v)) (W3.setCell ⟨gp, k * 8, none⟩ (.int .i64 v)).heap.size A2 C) := by
      have := ints_far hC3.out (p := ⟨gp, k * 8, none⟩) (fun a ha => by have := hA2.out a ha; dsimp only; omega) (.int .i64 v)
      show Ints _ _ _ _
      rw [show (W3.setCell ⟨gp, k * 8, none⟩ (.int .i64 v)).heap.size = W3.heap.size by simp]; exact this
    have hW4 : Hid (Below w.heap.size w (W3.setCell ⟨gp, k * 8, none⟩ (.int .i64 v))) := hW3.out.setCell (by dsimp only; omega) _
    have hPl : Hid ((P.set k ((P.getD k pz).upd 0 v)).length = P.length) := Lib.hid List.length_set
    go_wp2_with fail
    have hRF : Hid (Box ((((W3.setCell ⟨gp, k * 8, none⟩ (.int .i64 v)).setCell ⟨w.heap.size + 1, 0, none⟩ (.slice (some ⟨gp, 0, none⟩) P.length cp)).setCell ⟨w.heap.size + 1, 1, none⟩ (.slice A2 C.length cc)).setCell ⟨w.heap.size + 1, 2, none⟩ (.int .i64 s)) (w.heap.size + 1) 26 #[.slice (some ⟨gp, 0, none⟩) P.length cp, .slice A2 C.length cc, .int .i64 s]) := box_put3 hR4.out _ _ _
    have hend : Hid (BentPost P.length C.length w (.returned (.agg #[.slice (some ⟨gp, 0, none⟩) (P.set k ((P.getD k pz).upd 0 v)).length cp, .slice A2 (C).length cc, .int .i64 s])) ((((W3.setCell ⟨gp, k * 8, none⟩ (.int .i64 v)).setCell ⟨w.heap.size + 1, 0, none⟩ (.slice (some ⟨gp, 0, none⟩) P.length cp)).setCell ⟨w.heap.size + 1, 1, none⟩ (.slice A2 C.length cc)).setCell ⟨w.heap.size + 1, 2, none⟩ (.int .i64 s))) := bent_fin (by omega) hRP4.out (by rw [hPl.out]; exact h1) (by rw [hPl.out]; omega) (by omega) (by rw [hPl.out]; exact hcp) hSl.out hCm.out hC4.out (fun a ha => by have := hA2.out a ha; omega) hW4.out
    rw [hPl.out] at hend
    generalize ((((W3.setCell ⟨gp, k * 8, none⟩ (.int .i64 v)).setCell ⟨w.heap.size + 1, 0, none⟩ (.slice (some ⟨gp, 0, none⟩) P.length cp)).setCell ⟨w.heap.size + 1, 1, none⟩ (.slice A2 C.length cc)).setCell ⟨w.heap.size + 1, 2, none⟩ (.int .i64 s)) = WF at hRF hend ⊢
    have z0 := hRF.out.cell 0
    have z1 := hRF.out.cell 1
    have z2 := hRF.out.cell 2
    have zz := hRF.out.lt
    simp at z0 z1 z2
    refine bodyPost_ret (v := .agg #[.slice (some ⟨gp, 0, none⟩) P.length cp, .slice A2 C.length cc, .int .i64 s]) (by simp [results, Try.results33, go_sem, z0, z1, z2, zz]) rfl hend.out
  | 1, _ =>
    obtain ⟨u, hu⟩ : ∃ u, W3.cell? ⟨gp, k * 8 + 1, none⟩ = some u := ⟨_, (hRP3.out.cell (j := 1) hkl (by omega)).trans rfl⟩
    skip
    have hRP4 : Hid (RowP (W3.setCell ⟨gp, k * 8 + 1, none⟩ (.int .i64 v)) gp (P.set k ((P.getD k pz).upd 1 v))) := hRP3.out.put k 1 hkl (by omega) v
    have hR4 : Hid (Box (W3.setCell ⟨gp, k * 8 + 1, none⟩ (.int .i64 v)) (w.heap.size + 1) 26 #[nilS, nilS, .int .i64 0]) := hR3.out.far (by dsimp only; omega) _
    have hC4 : Hid (Ints (W3.setCell ⟨gp, k * 8 + 1, none⟩ (.int .i64 v)) (W3.setCell ⟨gp, k * 8 + 1, none⟩ (.int .i64 v)).heap.size A2 C) := by
      have := ints_far hC3.out (p := ⟨gp, k * 8 + 1, none⟩) (fun a ha => by have := hA2.out a ha; dsimp only; omega) (.int .i64 v)
      show Ints _ _ _ _
      rw [show (W3.setCell ⟨gp, k * 8 + 1, none⟩ (.int .i64 v)).heap.size = W3.heap.size by simp]; exact this
    have hW4 : Hid (Below w.heap.size w (W3.setCell ⟨gp, k * 8 + 1, none⟩ (.int .i64 v))) := hW3.out.setCell (by dsimp only; omega) _
    have hPl : Hid ((P.set k ((P.getD k pz).upd 1 v)).length = P.length) := Lib.hid List.length_set
    go_wp2_with fail
    have hRF : Hid (Box ((((W3.setCell ⟨gp, k * 8 + 1, none⟩ (.int .i64 v)).setCell ⟨w.heap.size + 1, 0, none⟩ (.slice (some ⟨gp, 0, none⟩) P.length cp)).setCell ⟨w.heap.size + 1, 1, none⟩ (.slice A2 C.length cc)).setCell ⟨w.heap.size + 1, 2, none⟩ (.int .i64 s)) (w.heap.size + 1) 26 #[.slice (some ⟨gp, 0, none⟩) P.length cp, .slice A2 C.length cc, .int .i64 s]) := box_put3 hR4.out _ _ _
    have hend : Hid (BentPost P.length C.length w (.returned (.agg #[.slice (some ⟨gp, 0, none⟩) (P.set k ((P.getD k pz).upd 1 v)).length cp, .slice A2 (C).length cc, .int .i64 s])) ((((W3.setCell ⟨gp, k * 8 + 1, none⟩ (.int .i64 v)).setCell ⟨w.heap.size + 1, 0, none⟩ (.slice (some ⟨gp, 0, none⟩) P.length cp)).setCell ⟨w.heap.size + 1, 1, none⟩ (.slice A2 C.length cc)).setCell ⟨w.heap.size + 1, 2, none⟩ (.int .i64 s))) := bent_fin (by omega) hRP4.out (by rw [hPl.out]; exact h1) (by rw [hPl.out]; omega) (by omega) (by rw [hPl.out]; exact hcp) hSl.out hCm.out hC4.out (fun a ha => by have := hA2.out a ha; omega) hW4.out
    rw [hPl.out] at hend
    generalize ((((W3.setCell ⟨gp, k * 8 + 1, none⟩ (.int .i64 v)).setCell ⟨w.heap.size + 1, 0, none⟩ (.slice (some ⟨gp, 0, none⟩) P.length cp)).setCell ⟨w.heap.size + 1, 1, none⟩ (.slice A2 C.length cc)).setCell ⟨w.heap.size + 1, 2, none⟩ (.int .i64 s)) = WF at hRF hend ⊢
    have z0 := hRF.out.cell 0
    have z1 := hRF.out.cell 1
    have z2 := hRF.out.cell 2
    have zz := hRF.out.lt
    simp at z0 z1 z2
    refine bodyPost_ret (v := .agg #[.slice (some ⟨gp, 0, none⟩) P.length cp, .slice A2 C.length cc, .int .i64 s]) (by simp [results, Try.results33, go_sem, z0, z1, z2, zz]) rfl hend.out
  | 2, _ =>
    obtain ⟨u, hu⟩ : ∃ u, W3.cell? ⟨gp, k * 8 + 2, none⟩ = some u := ⟨_, (hRP3.out.cell (j := 2) hkl (by omega)).trans rfl⟩
    skip
    have hRP4 : Hid (RowP (W3.setCell ⟨gp, k * 8 + 2, none⟩ (.int .i64 v)) gp (P.set k ((P.getD k pz).upd 2 v))) := hRP3.out.put k 2 hkl (by omega) v
    have hR4 : Hid (Box (W3.setCell ⟨gp, k * 8 + 2, none⟩ (.int .i64 v)) (w.heap.size + 1) 26 #[nilS, nilS, .int .i64 0]) := hR3.out.far (by dsimp only; omega) _
    have hC4 : Hid (Ints (W3.setCell ⟨gp, k * 8 + 2, none⟩ (.int .i64 v)) (W3.setCell ⟨gp, k * 8 + 2, none⟩ (.int .i64 v)).heap.size A2 C) := by
      have := ints_far hC3.out (p := ⟨gp, k * 8 + 2, none⟩) (fun a ha => by have := hA2.out a ha; dsimp only; omega) (.int .i64 v)
      show Ints _ _ _ _
      rw [show (W3.setCell ⟨gp, k * 8 + 2, none⟩ (.int .i64 v)).heap.size = W3.heap.size by simp]; exact this
    have hW4 : Hid (Below w.heap.size w (W3.setCell ⟨gp, k * 8 + 2, none⟩ (.int .i64 v))) := hW3.out.setCell (by dsimp only; omega) _
    have hPl : Hid ((P.set k ((P.getD k pz).upd 2 v)).length = P.length) := Lib.hid List.length_set
    go_wp2_with fail
    have hRF : Hid (Box ((((W3.setCell ⟨gp, k * 8 + 2, none⟩ (.int .i64 v)).setCell ⟨w.heap.size + 1, 0, none⟩ (.slice (some ⟨gp, 0, none⟩) P.length cp)).setCell ⟨w.heap.size + 1, 1, none⟩ (.slice A2 C.length cc)).setCell ⟨w.heap.size + 1, 2, none⟩ (.int .i64 s)) (w.heap.size + 1) 26 #[.slice (some ⟨gp, 0, none⟩) P.length cp, .slice A2 C.length cc, .int .i64 s]) := box_put3 hR4.out _ _ _
    have hend : Hid (BentPost P.length C.length w (.returned (.agg #[.slice (some ⟨gp, 0, none⟩) (P.set k ((P.getD k pz).upd 2 v)).length cp, .slice A2 (C).length cc, .int .i64 s])) ((((W3.setCell ⟨gp, k * 8 + 2, none⟩ (.int .i64 v)).setCell ⟨w.heap.size + 1, 0, none⟩ (.slice (some ⟨gp, 0, none⟩) P.length cp)).setCell ⟨w.heap.size + 1, 1, none⟩ (.slice A2 C.length cc)).setCell ⟨w.heap.size + 1, 2, none⟩ (.int .i64 s))) := bent_fin (by omega) hRP4.out (by rw [hPl.out]; exact h1) (by rw [hPl.out]; omega) (by omega) (by rw [hPl.out]; exact hcp) hSl.out hCm.out hC4.out (fun a ha => by have := hA2.out a ha; omega) hW4.out
    rw [hPl.out] at hend
    generalize ((((W3.setCell ⟨gp, k * 8 + 2, none⟩ (.int .i64 v)).setCell ⟨w.heap.size + 1, 0, none⟩ (.slice (some ⟨gp, 0, none⟩) P.length cp)).setCell ⟨w.heap.size + 1, 1, none⟩ (.slice A2 C.length cc)).setCell ⟨w.heap.size + 1, 2, none⟩ (.int .i64 s)) = WF at hRF hend ⊢
    have z0 := hRF.out.cell 0
    have z1 := hRF.out.cell 1
    have z2 := hRF.out.cell 2
    have zz := hRF.out.lt
    simp at z0 z1 z2
    refine bodyPost_ret (v := .agg #[.slice (some ⟨gp, 0, none⟩) P.length cp, .slice A2 C.length cc, .int .i64 s]) (by simp [results, Try.results33, go_sem, z0, z1, z2, zz]) rfl hend.out
  | 3, _ =>
    obtain ⟨u, hu⟩ : ∃ u, W3.cell? ⟨gp, k * 8 + 3, none⟩ = some u := ⟨_, (hRP3.out.cell (j := 3) hkl (by omega)).trans rfl⟩
    skip
    have hRP4 : Hid (RowP (W3.setCell ⟨gp, k * 8 + 3, none⟩ (.int .i64 v)) gp (P.set k ((P.getD k pz).upd 3 v))) := hRP3.out.put k 3 hkl (by omega) v
    have hR4 : Hid (Box (W3.setCell ⟨gp, k * 8 + 3, none⟩ (.int .i64 v)) (w.heap.size + 1) 26 #[nilS, nilS, .int .i64 0]) := hR3.out.far (by dsimp only; omega) _
    have hC4 : Hid (Ints (W3.setCell ⟨gp, k * 8 + 3, none⟩ (.int .i64 v)) (W3.setCell ⟨gp, k * 8 + 3, none⟩ (.int .i64 v)).heap.size A2 C) := by
      have := ints_far hC3.out (p := ⟨gp, k * 8 + 3, none⟩) (fun a ha => by have := hA2.out a ha; dsimp only; omega) (.int .i64 v)
      show Ints _ _ _ _
      rw [show (W3.setCell ⟨gp, k * 8 + 3, none⟩ (.int .i64 v)).heap.size = W3.heap.size by simp]; exact this
    have hW4 : Hid (Below w.heap.size w (W3.setCell ⟨gp, k * 8 + 3, none⟩ (.int .i64 v))) := hW3.out.setCell (by dsimp only; omega) _
    have hPl : Hid ((P.set k ((P.getD k pz).upd 3 v)).length = P.length) := Lib.hid List.length_set
    go_wp2_with fail
    have hRF : Hid (Box ((((W3.setCell ⟨gp, k * 8 + 3, none⟩ (.int .i64 v)).setCell ⟨w.heap.size + 1, 0, none⟩ (.slice (some ⟨gp, 0, none⟩) P.length cp)).setCell ⟨w.heap.size + 1, 1, none⟩ (.slice A2 C.length cc)).setCell ⟨w.heap.size + 1, 2, none⟩ (.int .i64 s)) (w.heap.size + 1) 26 #[.slice (some ⟨gp, 0, none⟩) P.length cp, .slice A2 C.length cc, .int .i64 s]) := box_put3 hR4.out _ _ _
    have hend : Hid (BentPost P.length C.length w (.returned (.agg #[.slice (some ⟨gp, 0, none⟩) (P.set k ((P.getD k pz).upd 3 v)).length cp, .slice A2 (C).length cc, .int .i64 s])) ((((W3.setCell ⟨gp, k * 8 + 3, none⟩ (.int .i64 v)).setCell ⟨w.heap.size + 1, 0, none⟩ (.slice (some ⟨gp, 0, none⟩) P.length cp)).setCell ⟨w.heap.size + 1, 1, none⟩ (.slice A2 C.length cc)).setCell ⟨w.heap.size + 1, 2, none⟩ (.int .i64 s))) := bent_fin (by omega) hRP4.out (by rw [hPl.out]; exact h1) (by rw [hPl.out]; omega) (by omega) (by rw [hPl.out]; exact hcp) hSl.out hCm.out hC4.out (fun a ha => by have := hA2.out a ha; omega) hW4.out
    rw [hPl.out] at hend
    generalize ((((W3.setCell ⟨gp, k * 8 + 3, none⟩ (.int .i64 v)).setCell ⟨w.heap.size + 1, 0, none⟩ (.slice (some ⟨gp, 0, none⟩) P.length cp)).setCell ⟨w.heap.size + 1, 1, none⟩ (.slice A2 C.length cc)).setCell ⟨w.heap.size + 1, 2, none⟩ (.int .i64 s)) = WF at hRF hend ⊢
    have z0 := hRF.out.cell 0
    have z1 := hRF.out.cell 1
    have z2 := hRF.out.cell 2
    have zz := hRF.out.lt
    simp at z0 z1 z2
    refine bodyPost_ret (v := .agg #[.slice (some ⟨gp, 0, none⟩) P.length cp, .slice A2 C.length cc, .int .i64 s]) (by simp [results, Try.results33, go_sem, z0, z1, z2, zz]) rfl hend.out
  | 4, _ =>
    obtain ⟨u, hu⟩ : ∃ u, W3.cell? ⟨gp, k * 8 + 4, none⟩ = some u := ⟨_, (hRP3.out.cell (j := 4) hkl (by omega)).trans rfl⟩
    skip
    have hRP4 : Hid (RowP (W3.setCell ⟨gp, k * 8 + 4, none⟩ (.int .i64 v)) gp (P.set k ((P.getD k pz).upd 4 v))) := hRP3.out.put k 4 hkl (by omega) v
    have hR4 : Hid (Box (W3.setCell ⟨gp, k * 8 + 4, none⟩ (.int .i64 v)) (w.heap.size + 1) 26 #[nilS, nilS, .int .i64 0]) := hR3.out.far (by dsimp only; omega) _
    have hC4 : Hid (Ints (W3.setCell ⟨gp, k * 8 + 4, none⟩ (.int .i64 v)) (W3.setCell ⟨gp, k * 8 + 4, none⟩ (.int .i64 v)).heap.size A2 C) := by
      have := ints_far hC3.out (p := ⟨gp, k * 8 + 4, none⟩) (fun a ha => by have := hA2.out a ha; dsimp only; omega) (.int .i64 v)
      show Ints _ _ _ _
      rw [show (W3.setCell ⟨gp, k * 8 + 4, none⟩ (.int .i64 v)).heap.size = W3.heap.size by simp]; exact this
    have hW4 : Hid (Below w.heap.size w (W3.setCell ⟨gp, k * 8 + 4, none⟩ (.int .i64 v))) := hW3.out.setCell (by dsimp only; omega) _
    have hPl : Hid ((P.set k ((P.getD k pz).upd 4 v)).length = P.length) := Lib.hid List.length_set
    go_wp2_with fail
    have hRF : Hid (Box ((((W3.setCell ⟨gp, k * 8 + 4, none⟩ (.int .i64 v)).setCell ⟨w.heap.size + 1, 0, none⟩ (.slice (some ⟨gp, 0, none⟩) P.length cp)).setCell ⟨w.heap.size + 1, 1, none⟩ (.slice A2 C.length cc)).setCell ⟨w.heap.size + 1, 2, none⟩ (.int .i64 s)) (w.heap.size + 1) 26 #[.slice (some ⟨gp, 0, none⟩) P.length cp, .slice A2 C.length cc, .int .i64 s]) := box_put3 hR4.out _ _ _
    have hend : Hid (BentPost P.length C.length w (.returned (.agg #[.slice (some ⟨gp, 0, none⟩) (P.set k ((P.getD k pz).upd 4 v)).length cp, .slice A2 (C).length cc, .int .i64 s])) ((((W3.setCell ⟨gp, k * 8 + 4, none⟩ (.int .i64 v)).setCell ⟨w.heap.size + 1, 0, none⟩ (.slice (some ⟨gp, 0, none⟩) P.length cp)).setCell ⟨w.heap.size + 1, 1, none⟩ (.slice A2 C.length cc)).setCell ⟨w.heap.size + 1, 2, none⟩ (.int .i64 s))) := bent_fin (by omega) hRP4.out (by rw [hPl.out]; exact h1) (by rw [hPl.out]; omega) (by omega) (by rw [hPl.out]; exact hcp) hSl.out hCm.out hC4.out (fun a ha => by have := hA2.out a ha; omega) hW4.out
    rw [hPl.out] at hend
    generalize ((((W3.setCell ⟨gp, k * 8 + 4, none⟩ (.int .i64 v)).setCell ⟨w.heap.size + 1, 0, none⟩ (.slice (some ⟨gp, 0, none⟩) P.length cp)).setCell ⟨w.heap.size + 1, 1, none⟩ (.slice A2 C.length cc)).setCell ⟨w.heap.size + 1, 2, none⟩ (.int .i64 s)) = WF at hRF hend ⊢
    have z0 := hRF.out.cell 0
    have z1 := hRF.out.cell 1
    have z2 := hRF.out.cell 2
    have zz := hRF.out.lt
    simp at z0 z1 z2
    refine bodyPost_ret (v := .agg #[.slice (some ⟨gp, 0, none⟩) P.length cp, .slice A2 C.length cc, .int .i64 s]) (by simp [results, Try.results33, go_sem, z0, z1, z2, zz]) rfl hend.out
  | 5, _ =>
    obtain ⟨u, hu⟩ : ∃ u, W3.cell? ⟨gp, k * 8 + 5, none⟩ = some u := ⟨_, (hRP3.out.cell (j := 5) hkl (by omega)).trans rfl⟩
    skip
    have hRP4 : Hid (RowP (W3.setCell ⟨gp, k * 8 + 5, none⟩ (.int .i64 v)) gp (P.set k ((P.getD k pz).upd 5 v))) := hRP3.out.put k 5 hkl (by omega) v
    have hR4 : Hid (Box (W3.setCell ⟨gp, k * 8 + 5, none⟩ (.int .i64 v)) (w.heap.size + 1) 26 #[nilS, nilS, .int .i64 0]) := hR3.out.far (by dsimp only; omega) _
    have hC4 : Hid (Ints (W3.setCell ⟨gp, k * 8 + 5, none⟩ (.int .i64 v)) (W3.setCell ⟨gp, k * 8 + 5, none⟩ (.int .i64 v)).heap.size A2 C) := by
      have := ints_far hC3.out (p := ⟨gp, k * 8 + 5, none⟩) (fun a ha => by have := hA2.out a ha; dsimp only; omega) (.int .i64 v)
      show Ints _ _ _ _
      rw [show (W3.setCell ⟨gp, k * 8 + 5, none⟩ (.int .i64 v)).heap.size = W3.heap.size by simp]; exact this
    have hW4 : Hid (Below w.heap.size w (W3.setCell ⟨gp, k * 8 + 5, none⟩ (.int .i64 v))) := hW3.out.setCell (by dsimp only; omega) _
    have hPl : Hid ((P.set k ((P.getD k pz).upd 5 v)).length = P.length) := Lib.hid List.length_set
    go_wp2_with fail
    have hRF : Hid (Box ((((W3.setCell ⟨gp, k * 8 + 5, none⟩ (.int .i64 v)).setCell ⟨w.heap.size + 1, 0, none⟩ (.slice (some ⟨gp, 0, none⟩) P.length cp)).setCell ⟨w.heap.size + 1, 1, none⟩ (.slice A2 C.length cc)).setCell ⟨w.heap.size + 1, 2, none⟩ (.int .i64 s)) (w.heap.size + 1) 26 #[.slice (some ⟨gp, 0, none⟩) P.length cp, .slice A2 C.length cc, .int .i64 s]) := box_put3 hR4.out _ _ _
    have hend : Hid (BentPost P.length C.length w (.returned (.agg #[.slice (some ⟨gp, 0, none⟩) (P.set k ((P.getD k pz).upd 5 v)).length cp, .slice A2 (C).length cc, .int .i64 s])) ((((W3.setCell ⟨gp, k * 8 + 5, none⟩ (.int .i64 v)).setCell ⟨w.heap.size + 1, 0, none⟩ (.slice (some ⟨gp, 0, none⟩) P.length cp)).setCell ⟨w.heap.size + 1, 1, none⟩ (.slice A2 C.length cc)).setCell ⟨w.heap.size + 1, 2, none⟩ (.int .i64 s))) := bent_fin (by omega) hRP4.out (by rw [hPl.out]; exact h1) (by rw [hPl.out]; omega) (by omega) (by rw [hPl.out]; exact hcp) hSl.out hCm.out hC4.out (fun a ha => by have := hA2.out a ha; omega) hW4.out
    rw [hPl.out] at hend
    generalize ((((W3.setCell ⟨gp, k * 8 + 5, none⟩ (.int .i64 v)).setCell ⟨w.heap.size + 1, 0, none⟩ (.slice (some ⟨gp, 0, none⟩) P.length cp)).setCell ⟨w.heap.size + 1, 1, none⟩ (.slice A2 C.length cc)).setCell ⟨w.heap.size + 1, 2, none⟩ (.int .i64 s)) = WF at hRF hend ⊢
    have z0 := hRF.out.cell 0
    have z1 := hRF.out.cell 1
    have z2 := hRF.out.cell 2
    have zz := hRF.out.lt
    simp at z0 z1 z2
    refine bodyPost_ret (v := .agg #[.slice (some ⟨gp, 0, none⟩) P.length cp, .slice A2 C.length cc, .int .i64 s]) (by simp [results, Try.results33, go_sem, z0, z1, z2, zz]) rfl hend.out
  | 6, _ =>
    obtain ⟨u, hu⟩ : ∃ u, W3.cell? ⟨gp, k * 8 + 6, none⟩ = some u := ⟨_, (hRP3.out.cell (j := 6) hkl (by omega)).trans rfl⟩
    skip
    have hRP4 : Hid (RowP (W3.setCell ⟨gp, k * 8 + 6, none⟩ (.int .i64 v)) gp (P.set k ((P.getD k pz).upd 6 v))) := hRP3.out.put k 6 hkl (by omega) v
    have hR4 : Hid (Box (W3.setCell ⟨gp, k * 8 + 6, none⟩ (.int .i64 v)) (w.heap.size + 1) 26 #[nilS, nilS, .int .i64 0]) := hR3.out.far (by dsimp only; omega) _
    have hC4 : Hid (Ints (W3.setCell ⟨gp, k * 8 + 6, none⟩ (.int .i64 v)) (W3.setCell ⟨gp, k * 8 + 6, none⟩ (.int .i64 v)).heap.size A2 C) := by
      have := ints_far hC3.out (p := ⟨gp, k * 8 + 6, none⟩) (fun a ha => by have := hA2.out a ha; dsimp only; omega) (.int .i64 v)
      show Ints _ _ _ _
      rw [show (W3.setCell ⟨gp, k * 8 + 6, none⟩ (.int .i64 v)).heap.size = W3.heap.size by simp]; exact this
    have hW4 : Hid (Below w.heap.size w (W3.setCell ⟨gp, k * 8 + 6, none⟩ (.int .i64 v))) := hW3.out.setCell (by dsimp only; omega) _
    have hPl : Hid ((P.set k ((P.getD k pz).upd 6 v)).length = P.length) := Lib.hid List.length_set
    go_wp2_with fail
    have hRF : Hid (Box ((((W3.setCell ⟨gp, k * 8 + 6, none⟩ (.int .i64 v)).setCell ⟨w.heap.size + 1, 0, none⟩ (.slice (some ⟨gp, 0, none⟩) P.length cp)).setCell ⟨w.heap.size + 1, 1, none⟩ (.slice A2 C.length cc)).setCell ⟨w.heap.size + 1, 2, none⟩ (.int .i64 s)) (w.heap.size + 1) 26 #[.slice (some ⟨gp, 0, none⟩) P.length cp, .slice A2 C.length cc, .int .i64 s]) := box_put3 hR4.out _ _ _
    have hend : Hid (BentPost P.length C.length w (.returned (.agg #[.slice (some ⟨gp, 0, none⟩) (P.set k ((P.getD k pz).upd 6 v)).length cp, .slice A2 (C).length cc, .int .i64 s])) ((((W3.setCell ⟨gp, k * 8 + 6, none⟩ (.int .i64 v)).setCell ⟨w.heap.size + 1, 0, none⟩ (.slice (some ⟨gp, 0, none⟩) P.length cp)).setCell ⟨w.heap.size + 1, 1, none⟩ (.slice A2 C.length cc)).setCell ⟨w.heap.size + 1, 2, none⟩ (.int .i64 s))) := bent_fin (by omega) hRP4.out (by rw [hPl.out]; exact h1) (by rw [hPl.out]; omega) (by omega) (by rw [hPl.out]; exact hcp) hSl.out hCm.out hC4.out (fun a ha => by have := hA2.out a ha; omega) hW4.out
    rw [hPl.out] at hend
    generalize ((((W3.setCell ⟨gp, k * 8 + 6, none⟩ (.int .i64 v)).setCell ⟨w.heap.size + 1, 0, none⟩ (.slice (some ⟨gp, 0, none⟩) P.length cp)).setCell ⟨w.heap.size + 1, 1, none⟩ (.slice A2 C.length cc)).setCell ⟨w.heap.size + 1, 2, none⟩ (.int .i64 s)) = WF at hRF hend ⊢
    have z0 := hRF.out.cell 0
    have z1 := hRF.out.cell 1
    have z2 := hRF.out.cell 2
    have zz := hRF.out.lt
    simp at z0 z1 z2
    refine bodyPost_ret (v := .agg #[.slice (some ⟨gp, 0, none⟩) P.length cp, .slice A2 C.length cc, .int .i64 s]) (by simp [results, Try.results33, go_sem, z0, z1, z2, zz]) rfl hend.out
  | 7, _ =>
    obtain ⟨u, hu⟩ : ∃ u, W3.cell? ⟨gp, k * 8 + 7, none⟩ = some u := ⟨_, (hRP3.out.cell (j := 7) hkl (by omega)).trans rfl⟩
    skip
    have hRP4 : Hid (RowP (W3.setCell ⟨gp, k * 8 + 7, none⟩ (.int .i64 v)) gp (P.set k ((P.getD k pz).upd 7 v))) := hRP3.out.put k 7 hkl (by omega) v
    have hR4 : Hid (Box (W3.setCell ⟨gp, k * 8 + 7, none⟩ (.int .i64 v)) (w.heap.size + 1) 26 #[nilS, nilS, .int .i64 0]) := hR3.out.far (by dsimp only; omega) _
    have hC4 : Hid (Ints (W3.setCell ⟨gp, k * 8 + 7, none⟩ (.int .i64 v)) (W3.setCell ⟨gp, k * 8 + 7, none⟩ (.int .i64 v)).heap.size A2 C) := by
      have := ints_far hC3.out (p := ⟨gp, k * 8 + 7, none⟩) (fun a ha => by have := hA2.out a ha; dsimp only; omega) (.int .i64 v)
      show Ints _ _ _ _
      rw [show (W3.setCell ⟨gp, k * 8 + 7, none⟩ (.int .i64 v)).heap.size = W3.heap.size by simp]; exact this
    have hW4 : Hid (Below w.heap.size w (W3.setCell ⟨gp, k * 8 + 7, none⟩ (.int .i64 v))) := hW3.out.setCell (by dsimp only; omega) _
    have hPl : Hid ((P.set k ((P.getD k pz).upd 7 v)).length = P.length) := Lib.hid List.length_set
    go_wp2_with fail
    have hRF : Hid (Box ((((W3.setCell ⟨gp, k * 8 + 7, none⟩ (.int .i64 v)).setCell ⟨w.heap.size + 1, 0, none⟩ (.slice (some ⟨gp, 0, none⟩) P.length cp)).setCell ⟨w.heap.size + 1, 1, none⟩ (.slice A2 C.length cc)).setCell ⟨w.heap.size + 1, 2, none⟩ (.int .i64 s)) (w.heap.size + 1) 26 #[.slice (some ⟨gp, 0, none⟩) P.length cp, .slice A2 C.length cc, .int .i64 s]) := box_put3 hR4.out _ _ _
    have hend : Hid (BentPost P.length C.length w (.returned (.agg #[.slice (some ⟨gp, 0, none⟩) (P.set k ((P.getD k pz).upd 7 v)).length cp, .slice A2 (C).length cc, .int .i64 s])) ((((W3.setCell ⟨gp, k * 8 + 7, none⟩ (.int .i64 v)).setCell ⟨w.heap.size + 1, 0, none⟩ (.slice (some ⟨gp, 0, none⟩) P.length cp)).setCell ⟨w.heap.size + 1, 1, none⟩ (.slice A2 C.length cc)).setCell ⟨w.heap.size + 1, 2, none⟩ (.int .i64 s))) := bent_fin (by omega) hRP4.out (by rw [hPl.out]; exact h1) (by rw [hPl.out]; omega) (by omega) (by rw [hPl.out]; exact hcp) hSl.out hCm.out hC4.out (fun a ha => by have := hA2.out a ha; omega) hW4.out
    rw [hPl.out] at hend
    generalize ((((W3.setCell ⟨gp, k * 8 + 7, none⟩ (.int .i64 v)).setCell ⟨w.heap.size + 1, 0, none⟩ (.slice (some ⟨gp, 0, none⟩) P.length cp)).setCell ⟨w.heap.size + 1, 1, none⟩ (.slice A2 C.length cc)).setCell ⟨w.heap.size + 1, 2, none⟩ (.int .i64 s)) = WF at hRF hend ⊢
    have z0 := hRF.out.cell 0
    have z1 := hRF.out.cell 1
    have z2 := hRF.out.cell 2
    have zz := hRF.out.lt
    simp at z0 z1 z2
    refine bodyPost_ret (v := .agg #[.slice (some ⟨gp, 0, none⟩) P.length cp, .slice A2 C.length cc, .int .i64 s]) (by simp [results, Try.results33, go_sem, z0, z1, z2, zz]) rfl hend.out
  | 8, _ =>
    by_cases hkC : k < C.length
    · have hkCi : (k : Int) < (C.length : Int) := by omega
      obtain ⟨gc, cc', hv'⟩ := Joins.ownsRow_form hown3.out (by omega)
      injection hv' with e1 _ e3
      subst e1 e3
      have hRI : Hid (RowI W3 gc C) := rowI_of_own hown3.out rfl
      have hgc1 := hA2.out _ rfl
      dsimp only at hgc1
      have hgcz := hRI.out.lt
      have hcell := hRI.out.cell hkC
      have hfr := hRI.out.frozen k
      generalize C.getD k 0 = ck at hcell
      go_upto_region 27 with fail
      refine wp_region_still_tail 12 (by kernel_rfl) (by kernel_rfl) ?_
      simp only [List.take_succ_cons, List.take_zero, List.drop_succ_cons, List.drop_zero]
      repeat still_step
      still_call (mod_right _ _ _ (by omega) (by omega))
      obtain ⟨q9, hq9⟩ : ∃ q : Nat, IntKind.i64.wrap (byv.tdiv 8) % 9 = (q : Int) := ⟨(IntKind.i64.wrap (byv.tdiv 8) % 9).toNat, (Int.toNat_of_nonneg (Int.emod_nonneg _ (by omega))).symm⟩
      have hq90 : (0 : Int) ≤ (q9 : Int) := by omega
      rw [hq9]
      repeat still_step
      refine wpStill_nil ?_
      change wpList _ _ _ _ _ W3.drew
      go_wp2_with fail
      generalize bits BinOp.xor IntKind.i64 ck (wrap64 (2 ^ min q9 64)) = V
      have hRI4 : Hid (RowI (W3.setCell ⟨gc, k, none⟩ (.int .i64 V)) gc (C.set k V)) := hRI.out.put k V
      have hR4 : Hid (Box (W3.setCell ⟨gc, k, none⟩ (.int .i64 V)) (w.heap.size + 1) 26 #[nilS, nilS, .int .i64 0]) := hR3.out.far (by dsimp only; omega) _
      have hRP4 : Hid (RowP (W3.setCell ⟨gc, k, none⟩ (.int .i64 V)) gp P) := hRP3.out.far (by dsimp only; omega) _
      have hCl4 : Hid ((C.set k V).length = C.length) := Lib.hid List.length_set
      have hW4 : Hid (Below w.heap.size w (W3.setCell ⟨gc, k, none⟩ (.int .i64 V))) := hW3.out.setCell (by dsimp only; omega) _
      have hRF : Hid (Box ((((W3.setCell ⟨gc, k, none⟩ (.int .i64 V)).setCell ⟨w.heap.size + 1, 0, none⟩ (.slice (some ⟨gp, 0, none⟩) P.length cp)).setCell ⟨w.heap.size + 1, 1, none⟩ (.slice (some ⟨gc, 0, none⟩) C.length cc)).setCell ⟨w.heap.size + 1, 2, none⟩ (.int .i64 s)).drew (w.heap.size + 1) 26 #[.slice (some ⟨gp, 0, none⟩) P.length cp, .slice (some ⟨gc, 0, none⟩) C.length cc, .int .i64 s]) := box_put3 hR4.out _ _ _
      have hend : Hid (BentPost P.length C.length w (.returned (.agg #[.slice (some ⟨gp, 0, none⟩) (P).length cp, .slice (some ⟨gc, 0, none⟩) (C.set k V).length cc, .int .i64 s])) ((((W3.setCell ⟨gc, k, none⟩ (.int .i64 V)).setCell ⟨w.heap.size + 1, 0, none⟩ (.slice (some ⟨gp, 0, none⟩) P.length cp)).setCell ⟨w.heap.size + 1, 1, none⟩ (.slice (some ⟨gc, 0, none⟩) C.length cc)).setCell ⟨w.heap.size + 1, 2, none⟩ (.int .i64 s)).drew) := BentPost.drew (bent_fin (by omega) hRP4.out h1 (by omega) (by rw [hCl4.out]; omega) hcp (by rw [hCl4.out]; exact hSl.out) hCm.out (hRI4.out.ints hRI4.out.lt) (fun a ha => by have := hA2.out a ha; omega) hW4.out)
      rw [hCl4.out] at hend
      generalize ((((W3.setCell ⟨gc, k, none⟩ (.int .i64 V)).setCell ⟨w.heap.size + 1, 0, none⟩ (.slice (some ⟨gp, 0, none⟩) P.length cp)).setCell ⟨w.heap.size + 1, 1, none⟩ (.slice (some ⟨gc, 0, none⟩) C.length cc)).setCell ⟨w.heap.size + 1, 2, none⟩ (.int .i64 s)).drew = WF at hRF hend ⊢
      have z0 := hRF.out.cell 0
      have z1 := hRF.out.cell 1
      have z2 := hRF.out.cell 2
      have zz := hRF.out.lt
      simp at z0 z1 z2
      refine bodyPost_ret (v := .agg #[.slice (some ⟨gp, 0, none⟩) P.length cp, .slice (some ⟨gc, 0, none⟩) C.length cc, .int .i64 s]) (by simp [results, Try.results33, go_sem, z0, z1, z2, zz]) rfl hend.out
    · have hkCi : ¬ (k : Int) < (C.length : Int) := by omega
      go_wp2_with fail
      have hRF : Hid (Box (((W3.setCell ⟨w.heap.size + 1, 0, none⟩ (.slice (some ⟨gp, 0, none⟩) P.length cp)).setCell ⟨w.heap.size + 1, 1, none⟩ (.slice A2 C.length cc)).setCell ⟨w.heap.size + 1, 2, none⟩ (.int .i64 s)) (w.heap.size + 1) 26 #[.slice (some ⟨gp, 0, none⟩) P.length cp, .slice A2 C.length cc, .int .i64 s]) := box_put3 hR3.out _ _ _
      have hend : Hid (BentPost P.length C.length w (.returned (.agg #[.slice (some ⟨gp, 0, none⟩) (P).length cp, .slice A2 (C).length cc, .int .i64 s])) (((W3.setCell ⟨w.heap.size + 1, 0, none⟩ (.slice (some ⟨gp, 0, none⟩) P.length cp)).setCell ⟨w.heap.size + 1, 1, none⟩ (.slice A2 C.length cc)).setCell ⟨w.heap.size + 1, 2, none⟩ (.int .i64 s))) := bent_fin (by omega) hRP3.out h1 (by omega) (by omega) hcp hSl.out hCm.out hC3.out (fun a ha => by have := hA2.out a ha; omega) hW3.out
      generalize (((W3.setCell ⟨w.heap.size + 1, 0, none⟩ (.slice (some ⟨gp, 0, none⟩) P.length cp)).setCell ⟨w.heap.size + 1, 1, none⟩ (.slice A2 C.length cc)).setCell ⟨w.heap.size + 1, 2, none⟩ (.int .i64 s)) = WF at hRF hend ⊢
      have z0 := hRF.out.cell 0
      have z1 := hRF.out.cell 1
      have z2 := hRF.out.cell 2
      have zz := hRF.out.lt
      simp at z0 z1 z2
      refine bodyPost_ret (v := .agg #[.slice (some ⟨gp, 0, none⟩) P.length cp, .slice A2 C.length cc, .int .i64 s]) (by simp [results, Try.results33, go_sem, z0, z1, z2, zz]) rfl hend.out
  | 9, _ =>
    have hR4 : Hid (Box (W3.setCell ⟨w.heap.size, 2, none⟩ (.int .i64 v)) (w.heap.size + 1) 26 #[nilS, nilS, .int .i64 0]) := hR3.out.far (by simp) _
    have hRP4 : Hid (RowP (W3.setCell ⟨w.heap.size, 2, none⟩ (.int .i64 v)) gp P) := hRP3.out.far (by dsimp only; omega) _
    have hC4 : Hid (Ints (W3.setCell ⟨w.heap.size, 2, none⟩ (.int .i64 v)) (W3.setCell ⟨w.heap.size, 2, none⟩ (.int .i64 v)).heap.size A2 C) := by
      have := ints_far hC3.out (p := ⟨w.heap.size, 2, none⟩) (fun a ha => by have := hA2.out a ha; dsimp only; omega) (.int .i64 v)
      show Ints _ _ _ _
      rw [show (W3.setCell ⟨w.heap.size, 2, none⟩ (.int .i64 v)).heap.size = W3.heap.size by simp]; exact this
    have hW4 : Hid (Below w.heap.size w (W3.setCell ⟨w.heap.size, 2, none⟩ (.int .i64 v))) := hW3.out.setCell (by simp) _
    go_wp2_with fail
    have hRF : Hid (Box ((((W3.setCell ⟨w.heap.size, 2, none⟩ (.int .i64 v)).setCell ⟨w.heap.size + 1, 0, none⟩ (.slice (some ⟨gp, 0, none⟩) P.length cp)).setCell ⟨w.heap.size + 1, 1, none⟩ (.slice A2 C.length cc)).setCell ⟨w.heap.size + 1, 2, none⟩ (.int .i64 v)) (w.heap.size + 1) 26 #[.slice (some ⟨gp, 0, none⟩) P.length cp, .slice A2 C.length cc, .int .i64 v]) := box_put3 hR4.out _ _ _
    have hend : Hid (BentPost P.length C.length w (.returned (.agg #[.slice (some ⟨gp, 0, none⟩) (P).length cp, .slice A2 (C).length cc, .int .i64 v])) ((((W3.setCell ⟨w.heap.size, 2, none⟩ (.int .i64 v)).setCell ⟨w.heap.size + 1, 0, none⟩ (.slice (some ⟨gp, 0, none⟩) P.length cp)).setCell ⟨w.heap.size + 1, 1, none⟩ (.slice A2 C.length cc)).setCell ⟨w.heap.size + 1, 2, none⟩ (.int .i64 v))) := bent_fin (by omega) hRP4.out h1 (by omega) (by omega) hcp hSl.out hCm.out hC4.out (fun a ha => by have := hA2.out a ha; omega) hW4.out
    generalize ((((W3.setCell ⟨w.heap.size, 2, none⟩ (.int .i64 v)).setCell ⟨w.heap.size + 1, 0, none⟩ (.slice (some ⟨gp, 0, none⟩) P.length cp)).setCell ⟨w.heap.size + 1, 1, none⟩ (.slice A2 C.length cc)).setCell ⟨w.heap.size + 1, 2, none⟩ (.int .i64 v)) = WF at hRF hend ⊢
    have z0 := hRF.out.cell 0
    have z1 := hRF.out.cell 1
    have z2 := hRF.out.cell 2
    have zz := hRF.out.lt
    simp at z0 z1 z2
    refine bodyPost_ret (v := .agg #[.slice (some ⟨gp, 0, none⟩) P.length cp, .slice A2 C.length cc, .int .i64 v]) (by simp [results, Try.results33, go_sem, z0, z1, z2, zz]) rfl hend.out
  | 10, _ =>
    have hq2 : (C.length : Int).tdiv 2 = ((C.length / 2 : Nat) : Int) := by rw [Int.tdiv_eq_ediv_of_nonneg (by omega)]; omega
    have hwq : IntKind.i64.wrap ((C.length / 2 : Nat) : Int) = ((C.length / 2 : Nat) : Int) := by rw [IntKind.wrap_i64]; omega
    have hh0 : (0 : Int) ≤ ((C.length / 2 : Nat) : Int) := by omega
    have htk : Hid ((C.take (C.length / 2)).length = C.length / 2) := Lib.hid (by simp; omega)
    have hCt : Hid (Ints W3 W3.heap.size A2 (C.take (C.length / 2))) := Lib.hid fun i hi => by
      rw [htk.out] at hi
      obtain ⟨b, off, e, hlt, hc⟩ := hC3.out i (by omega)
      refine ⟨b, off, e, hlt, ?_⟩
      rw [hc]
      simp only [List.getD]
      rw [List.getElem?_take_of_lt hi]
    have hh1 : C.length / 2 ≤ C.length := Nat.div_le_self _ _
    generalize C.take (C.length / 2) = C5 at htk hCt
    generalize C.length / 2 = h2 at hq2 hwq hh0 htk hh1
    rcases hSl.out with ⟨rfl, hl0, rfl⟩ | ⟨bs, os, rfl, hle⟩
    · obtain rfl : h2 = 0 := by omega
      have hR4 : Hid (Box (W3.setCell ⟨w.heap.size, 1, none⟩ (.slice none 0 0)) (w.heap.size + 1) 26 #[nilS, nilS, .int .i64 0]) := hR3.out.far (by simp) _
      have hRP4 : Hid (RowP (W3.setCell ⟨w.heap.size, 1, none⟩ (.slice none 0 0)) gp P) := hRP3.out.far (by dsimp only; omega) _
      have hC4 : Hid (Ints (W3.setCell ⟨w.heap.size, 1, none⟩ (.slice none 0 0)) (W3.setCell ⟨w.heap.size, 1, none⟩ (.slice none 0 0)).heap.size none C5) := by
        have := ints_far hCt.out (p := ⟨w.heap.size, 1, none⟩) (fun a ha => by have := hA2.out a ha; dsimp only; omega) (.slice none 0 0)
        show Ints _ _ _ _
        rw [show (W3.setCell ⟨w.heap.size, 1, none⟩ (.slice none 0 0)).heap.size = W3.heap.size by simp]; exact this
      have hW4 : Hid (Below w.heap.size w (W3.setCell ⟨w.heap.size, 1, none⟩ (.slice none 0 0))) := hW3.out.setCell (by simp) _
      go_wp2_with fail
      have hRF : Hid (Box ((((W3.setCell ⟨w.heap.size, 1, none⟩ (.slice none 0 0)).setCell ⟨w.heap.size + 1, 0, none⟩ (.slice (some ⟨gp, 0, none⟩) P.length cp)).setCell ⟨w.heap.size + 1, 1, none⟩ (.slice none 0 0)).setCell ⟨w.heap.size + 1, 2, none⟩ (.int .i64 s)) (w.heap.size + 1) 26 #[.slice (some ⟨gp, 0, none⟩) P.length cp, .slice none 0 0, .int .i64 s]) := box_put3 hR4.out _ _ _
      have hend : Hid (BentPost P.length C.length w (.returned (.agg #[.slice (some ⟨gp, 0, none⟩) (P).length cp, .slice none (C5).length 0, .int .i64 s])) ((((W3.setCell ⟨w.heap.size, 1, none⟩ (.slice none 0 0)).setCell ⟨w.heap.size + 1, 0, none⟩ (.slice (some ⟨gp, 0, none⟩) P.length cp)).setCell ⟨w.heap.size + 1, 1, none⟩ (.slice none 0 0)).setCell ⟨w.heap.size + 1, 2, none⟩ (.int .i64 s))) := bent_fin (by omega) hRP4.out h1 (by omega) (by rw [htk.out]; omega) hcp (.inl ⟨rfl, htk.out, rfl⟩) hCm.out hC4.out (fun a ha => by have := hA2.out a ha; omega) hW4.out
      rw [htk.out] at hend
      generalize ((((W3.setCell ⟨w.heap.size, 1, none⟩ (.slice none 0 0)).setCell ⟨w.heap.size + 1, 0, none⟩ (.slice (some ⟨gp, 0, none⟩) P.length cp)).setCell ⟨w.heap.size + 1, 1, none⟩ (.slice none 0 0)).setCell ⟨w.heap.size + 1, 2, none⟩ (.int .i64 s)) = WF at hRF hend ⊢
      have z0 := hRF.out.cell 0
      have z1 := hRF.out.cell 1
      have z2 := hRF.out.cell 2
      have zz := hRF.out.lt
      simp at z0 z1 z2
      refine bodyPost_ret (v := .agg #[.slice (some ⟨gp, 0, none⟩) P.length cp, .slice none 0 0, .int .i64 s]) (by simp [results, Try.results33, go_sem, z0, z1, z2, zz]) rfl hend.out
    · have hhc : ((h2 : Nat) : Int) ≤ (cc : Int) := by omega
      have hR4 : Hid (Box (W3.setCell ⟨w.heap.size, 1, none⟩ (.slice (some ⟨bs, os, none⟩) h2 cc)) (w.heap.size + 1) 26 #[nilS, nilS, .int .i64 0]) := hR3.out.far (by simp) _
      have hRP4 : Hid (RowP (W3.setCell ⟨w.heap.size, 1, none⟩ (.slice (some ⟨bs, os, none⟩) h2 cc)) gp P) := hRP3.out.far (by dsimp only; omega) _
      have hC4 : Hid (Ints (W3.setCell ⟨w.heap.size, 1, none⟩ (.slice (some ⟨bs, os, none⟩) h2 cc)) (W3.setCell ⟨w.heap.size, 1, none⟩ (.slice (some ⟨bs, os, none⟩) h2 cc)).heap.size (some ⟨bs, os, none⟩) C5) := by
        have := ints_far hCt.out (p := ⟨w.heap.size, 1, none⟩) (fun a ha => by have := hA2.out a ha; dsimp only; omega) (.slice (some ⟨bs, os, none⟩) h2 cc)
        show Ints _ _ _ _
        rw [show (W3.setCell ⟨w.heap.size, 1, none⟩ (.slice (some ⟨bs, os, none⟩) h2 cc)).heap.size = W3.heap.size by simp]; exact this
      have hW4 : Hid (Below w.heap.size w (W3.setCell ⟨w.heap.size, 1, none⟩ (.slice (some ⟨bs, os, none⟩) h2 cc))) := hW3.out.setCell (by simp) _
      go_wp2_with fail
      have hRF : Hid (Box ((((W3.setCell ⟨w.heap.size, 1, none⟩ (.slice (some ⟨bs, os, none⟩) h2 cc)).setCell ⟨w.heap.size + 1, 0, none⟩ (.slice (some ⟨gp, 0, none⟩) P.length cp)).setCell ⟨w.heap.size + 1, 1, none⟩ (.slice (some ⟨bs, os, none⟩) h2 cc)).setCell ⟨w.heap.size + 1, 2, none⟩ (.int .i64 s)) (w.heap.size + 1) 26 #[.slice (some ⟨gp, 0, none⟩) P.length cp, .slice (some ⟨bs, os, none⟩) h2 cc, .int .i64 s]) := box_put3 hR4.out _ _ _
      have hend : Hid (BentPost P.length C.length w (.returned (.agg #[.slice (some ⟨gp, 0, none⟩) (P).length cp, .slice (some ⟨bs, os, none⟩) (C5).length cc, .int .i64 s])) ((((W3.setCell ⟨w.heap.size, 1, none⟩ (.slice (some ⟨bs, os, none⟩) h2 cc)).setCell ⟨w.heap.size + 1, 0, none⟩ (.slice (some ⟨gp, 0, none⟩) P.length cp)).setCell ⟨w.heap.size + 1, 1, none⟩ (.slice (some ⟨bs, os, none⟩) h2 cc)).setCell ⟨w.heap.size + 1, 2, none⟩ (.int .i64 s))) := bent_fin (by omega) hRP4.out h1 (by omega) (by rw [htk.out]; omega) hcp (.inr ⟨bs, os, rfl, by rw [htk.out]; omega⟩) hCm.out hC4.out (fun a ha => by have := hA2.out a ha; omega) hW4.out
      rw [htk.out] at hend
      generalize ((((W3.setCell ⟨w.heap.size, 1, none⟩ (.slice (some ⟨bs, os, none⟩) h2 cc)).setCell ⟨w.heap.size + 1, 0, none⟩ (.slice (some ⟨gp, 0, none⟩) P.length cp)).setCell ⟨w.heap.size + 1, 1, none⟩ (.slice (some ⟨bs, os, none⟩) h2 cc)).setCell ⟨w.heap.size + 1, 2, none⟩ (.int .i64 s)) = WF at hRF hend ⊢
      have z0 := hRF.out.cell 0
      have z1 := hRF.out.cell 1
      have z2 := hRF.out.cell 2
      have zz := hRF.out.lt
      simp at z0 z1 z2
      refine bodyPost_ret (v := .agg #[.slice (some ⟨gp, 0, none⟩) P.length cp, .slice (some ⟨bs, os, none⟩) h2 cc, .int .i64 s]) (by simp [results, Try.results33, go_sem, z0, z1, z2, zz]) rfl hend.out
  | 11, _ =>
    have hNews : Hid (∀ j u, (P.flatMap Ph.cells)[j]? = some u → W3.cell? ((⟨gp, 0, none⟩ : Addr).add j) = some u) := Lib.hid (phs_cells (hRP3.out.phs hRP3.out.lt))
    have hFl := Lib.hid (phs_flat P)
    have hM1 : Hid (0 + P.length ≤ maxLen) := Lib.hid (by unfold maxLen; omega)
    have hM2 : Hid (P.length + P.length ≤ maxLen) := Lib.hid (by unfold maxLen; omega)
    have hY1 : Hid ((0 + P.length) * 64 ≤ 140737488355328) := Lib.hid (by omega)
    have hY2 : Hid ((P.length + P.length) * 64 ≤ 140737488355328) := Lib.hid (by omega)
    have hPp : Hid (0 < P.length) := Lib.hid (by omega)
    have hgq : Hid (gp < W3.heap.size) := hzF2
    go_upto_region 7 with fail
    go_cut [] (fun wx => C7B w.heap.size gp P A2 cc C s W3 wx)
    case first =>
      go_region_law (first
        | (refine step_append_lies _ rfl (.const nilS) (.tmp 36) 24 rfl W3.heap.size 55 p0 pz.val 8 64 Try.underlying24 hp0 pz0 pz10 pz20 rfl (by decide) nilS 0 [] rfl (World.ownsRow_nil _ _ _ _) ⟨gp, 0, none⟩ P.length cp (P.flatMap Ph.cells) rfl hFl.out hNews.out (phs_one P) hPp.out hM1.out hY1.out (Nat.le_refl _) W3.heap.size rfl ?_; intro g1 c1 w5 hown5 hg5 hg1e hg1z; simp only [Nat.zero_add, List.nil_append] at hown5 ⊢; have jc5 := c7_step hg5 hzF j0; have hg51 := Lib.hid (hown5.lt g1 rfl); have hJ5 := Lib.hid (c7_box hJ3.out hg5); have hR5 := Lib.hid (c7_box hR3.out hg5))
        | (refine step_append_lies _ rfl (.tmp 37) (.tmp 39) 24 rfl W3.heap.size 55 p0 pz.val 8 64 Try.underlying24 hp0 pz0 pz10 pz20 rfl (by decide) (.slice (some ⟨g1, 0, none⟩) P.length c1) P.length (P.flatMap Ph.cells) rfl hown5 ⟨gp, 0, none⟩ P.length cp (P.flatMap Ph.cells) rfl hFl.out (c7_news hg5 hgq.out hNews.out) (phs_one P) hPp.out hM2.out hY2.out hg5.size w5.heap.size rfl ?_; intro g2 c2 w6 hown6 hg6 hg2e hg2z; have hg52 := hg51.out; have hJ6 := Lib.hid (hJ5.out.grown hg6 (by intro e; injection e with e; dsimp only at e; omega)); have jc6 := hJ6.out.cell 0; have jf6 := hJ6.out.frozen 0; simp at jc6; have hz6 : w.heap.size < w6.heap.size := hJ6.out.lt))
      all_goals
        go_wp2_with fail
        go_meet
        have hR6 := hR5.out.grown hg6 (by intro e; injection e with e; dsimp only at e; omega)
        have hb36 : Below W3.heap.size W3 w6 := c7_below (Nat.le_refl _) hg5 hg6 hg51.out.1
        have hw6 := hown6.lt g2 rfl
        refine ⟨g2, c2, Box.put_eq hJ6.out (by simp), ?_, hR6.far (by simp) _, ?_, ?_, hw6.1, (hb36.mono (by omega)).setCell (by simp) _, by have := hb36.size; simpa using this⟩
        · refine (rowP_of_own (P := P ++ P) (by rw [List.flatMap_append]; exact hown6) (by simp)).far (by dsimp only; omega) _
        · have := ints_far (hC3.out.below hb36) (p := ⟨w.heap.size, 0, none⟩) (fun a ha => by have := hA2.out a ha; dsimp only; omega) (.slice (some ⟨g2, 0, none⟩) (P.length + P.length) c2)
          exact this.more (by have := hb36.size; simpa using this)
        · have := hown6.2
          rcases this with ⟨hv, _⟩ | ⟨_, _, _, hv, _, _, hcap, _⟩
          · cases hv
          · injection hv with _ _ hv; subst hv; exact hcap
    case rest =>
      obtain ⟨g2, c2, hJ7, hRP7, hR7, hC7, hc2, hg2, hb7, hz7⟩ := hcut
      have hJ7H := Lib.hid hJ7
      have hRP7H := Lib.hid hRP7
      have hR7H := Lib.hid hR7
      have hC7H := Lib.hid hC7
      have hW7 : Hid (Below w.heap.size w wc) := hW3.out.trans hb7
      have hzg : w.heap.size < wc.heap.size := by omega
      have hzg2 : w.heap.size + 1 < wc.heap.size := by omega
      have hg2z := hRP7.lt
      have hPl2 : Hid ((P ++ P).length = P.length + P.length) := Lib.hid (by simp)
      clear hb7 j0 j1 j2 r0 r1 r2 fj fr fp
      have j0 := hJ7.cell 0
      have j1 := hJ7.cell 1
      have j2 := hJ7.cell 2
      have fj := hJ7.frozen
      have r0 := hR7.cell 0
      have r1 := hR7.cell 1
      have r2 := hR7.cell 2
      have fr := hR7.frozen
      simp at j0 j1 j2 r0 r1 r2
      clear hJ7 hRP7 hR7 hC7
      have hS7 := hSl.out
      rcases hS7 with ⟨rfl, hl0, rfl⟩ | ⟨bs, os, rfl, hle⟩
      · have hC0 : C = [] := List.eq_nil_of_length_eq_zero hl0
        subst hC0
        simp only [List.length_nil] at j1
        go_wp2_with fail
        go_region
        have hR4 : Hid (Box (wc.setCell ⟨w.heap.size, 1, none⟩ (.slice none 0 0)) (w.heap.size + 1) 26 #[nilS, nilS, .int .i64 0]) := hR7H.out.far (by simp) _
        have hRP4 : Hid (RowP (wc.setCell ⟨w.heap.size, 1, none⟩ (.slice none 0 0)) g2 (P ++ P)) := hRP7H.out.far (by dsimp only; omega) _
        have hW4 : Hid (Below w.heap.size w (wc.setCell ⟨w.heap.size, 1, none⟩ (.slice none 0 0))) := hW7.out.setCell (by simp) _
        go_wp2_with fail
        have hRF : Hid (Box ((((wc.setCell ⟨w.heap.size, 1, none⟩ (.slice none 0 0)).setCell ⟨w.heap.size + 1, 0, none⟩ (.slice (some ⟨g2, 0, none⟩) (P.length + P.length) c2)).setCell ⟨w.heap.size + 1, 1, none⟩ (.slice none 0 0)).setCell ⟨w.heap.size + 1, 2, none⟩ (.int .i64 s)).drew (w.heap.size + 1) 26 #[.slice (some ⟨g2, 0, none⟩) (P.length + P.length) c2, .slice none 0 0, .int .i64 s]) := box_put3 hR4.out _ _ _
        have hend : Hid (BentPost P.length ([] : List Int).length w (.returned (.agg #[.slice (some ⟨g2, 0, none⟩) (P ++ P).length c2, .slice none (([] : List Int)).length 0, .int .i64 s])) ((((wc.setCell ⟨w.heap.size, 1, none⟩ (.slice none 0 0)).setCell ⟨w.heap.size + 1, 0, none⟩ (.slice (some ⟨g2, 0, none⟩) (P.length + P.length) c2)).setCell ⟨w.heap.size + 1, 1, none⟩ (.slice none 0 0)).setCell ⟨w.heap.size + 1, 2, none⟩ (.int .i64 s)).drew) := BentPost.drew (bent_fin (by omega) hRP4.out (by rw [hPl2.out]; omega) (by rw [hPl2.out]; omega) (by simp) (by rw [hPl2.out]; exact hc2) (.inl ⟨rfl, rfl, rfl⟩) (fun h => by simp at h) (fun i hi => by simp at hi) (fun a ha => by cases ha) hW4.out)
        rw [hPl2.out] at hend
        rw [List.length_nil] at hend
        generalize ((((wc.setCell ⟨w.heap.size, 1, none⟩ (.slice none 0 0)).setCell ⟨w.heap.size + 1, 0, none⟩ (.slice (some ⟨g2, 0, none⟩) (P.length + P.length) c2)).setCell ⟨w.heap.size + 1, 1, none⟩ (.slice none 0 0)).setCell ⟨w.heap.size + 1, 2, none⟩ (.int .i64 s)).drew = WF at hRF hend ⊢
        have z0 := hRF.out.cell 0
        have z1 := hRF.out.cell 1
        have z2 := hRF.out.cell 2
        have zz := hRF.out.lt
        simp at z0 z1 z2
        refine bodyPost_ret (v := .agg #[.slice (some ⟨g2, 0, none⟩) (P.length + P.length) c2, .slice none 0 0, .int .i64 s]) (by simp [results, Try.results33, go_sem, z0, z1, z2, zz]) rfl hend.out
      · have hCpos : Hid (0 < C.length) := Lib.hid (by
          apply Classical.byContradiction
          intro hn0
          have : C = [] := List.eq_nil_of_length_eq_zero (by omega)
          have h2 := hiffH.out.2 this
          cases h2)
        obtain ⟨i0, hi0, hz0, hz10, hz20⟩ := info_parts int_info
        have hNewC : Hid (∀ j u, (C.map (Value.int .i64))[j]? = some u → wc.cell? ((⟨bs, os, none⟩ : Addr).add j) = some u) := Lib.hid (ints_cells hC7H.out)
        have hCl8 : Hid ((C.map (Value.int .i64)).length = C.length * 1) := Lib.hid (by simp)
        have hN1 : Hid (0 + C.length ≤ maxLen) := Lib.hid (by unfold maxLen; omega)
        have hN2 : Hid (C.length + C.length ≤ maxLen) := Lib.hid (by unfold maxLen; omega)
        have hZ1 : Hid ((0 + C.length) * 8 ≤ 140737488355328) := Lib.hid (by omega)
        have hZ2 : Hid ((C.length + C.length) * 8 ≤ 140737488355328) := Lib.hid (by omega)
        have hbsz : Hid (bs < wc.heap.size) := Lib.hid (by
          obtain ⟨b', o', e', hlt, _⟩ := hC7H.out 0 hCpos.out
          injection e' with e'; injection e' with e1 e2; subst e1; exact hlt)
        go_wp2_with fail
        go_region_law (first
          | (refine step_append_lies _ rfl (.const nilS) (.tmp 43) 22 rfl wc.heap.size 3 i0 (.int .i64 0) 1 8 Try.underlying22 hi0 hz0 hz10 hz20 rfl (by decide) nilS 0 [] rfl (World.ownsRow_nil _ _ _ _) ⟨bs, os, none⟩ C.length cc (C.map (Value.int .i64)) rfl hCl8.out hNewC.out (ints_one C) hCpos.out hN1.out hZ1.out (Nat.le_refl _) wc.heap.size rfl ?_; intro g3 c3 w5 hown5 hg5 hg3e hg3z; simp only [Nat.zero_add, List.nil_append] at hown5 ⊢; have hg53 := Lib.hid (hown5.lt g3 rfl); have hJ5 := Lib.hid (c7_box hJ7H.out hg5); have hR5 := Lib.hid (c7_box hR7H.out hg5); have jc5 := hJ5.out.cell 1; simp at jc5)
          | (refine step_append_lies _ rfl (.tmp 44) (.tmp 46) 22 rfl wc.heap.size 3 i0 (.int .i64 0) 1 8 Try.underlying22 hi0 hz0 hz10 hz20 rfl (by decide) (.slice (some ⟨g3, 0, none⟩) C.length c3) C.length (C.map (Value.int .i64)) rfl hown5 ⟨bs, os, none⟩ C.length cc (C.map (Value.int .i64)) rfl hCl8.out (c8_news hg5 hbsz.out hNewC.out) (ints_one C) hCpos.out hN2.out hZ2.out hg5.size w5.heap.size rfl ?_; intro g4 c4 w6 hown6 hg6 hg4e hg4z; have hg54 := hg53.out; have hJ6 := Lib.hid (hJ5.out.grown hg6 (by intro e; injection e with e; dsimp only at e; omega)); have hR6 := Lib.hid (hR5.out.grown hg6 (by intro e; injection e with e; dsimp only at e; omega)); have jd0 := hJ6.out.cell 0; have jd1 := hJ6.out.cell 1; have jd2 := hJ6.out.cell 2; have jdf := hJ6.out.frozen; have rd0 := hR6.out.cell 0; have rd1 := hR6.out.cell 1; have rd2 := hR6.out.cell 2; have rdf := hR6.out.frozen; simp at jd0 jd1 jd2 rd0 rd1 rd2; have hzd6 : w.heap.size < w6.heap.size := hJ6.out.lt; have hzd7 : w.heap.size + 1 < w6.heap.size := hR6.out.lt))
        all_goals
          have hb46 : Below wc.heap.size wc w6 := c7_below (Nat.le_refl _) hg5 hg6 hg54.1
          have hw6 := hown6.lt g4 rfl
          have hR4 : Hid (Box (w6.setCell ⟨w.heap.size, 1, none⟩ (.slice (some ⟨g4, 0, none⟩) (C.length + C.length) c4)) (w.heap.size + 1) 26 #[nilS, nilS, .int .i64 0]) := hR6.out.far (by simp) _
          have hRP4 : Hid (RowP (w6.setCell ⟨w.heap.size, 1, none⟩ (.slice (some ⟨g4, 0, none⟩) (C.length + C.length) c4)) g2 (P ++ P)) := (hRP7H.out.below hb46 hg2z).far (by dsimp only; omega) _
          have hW4 : Hid (Below w.heap.size w (w6.setCell ⟨w.heap.size, 1, none⟩ (.slice (some ⟨g4, 0, none⟩) (C.length + C.length) c4))) := (hW7.out.trans (hb46.mono (by omega))).setCell (by simp) _
          have hC2l : Hid ((C ++ C).length = C.length + C.length) := Lib.hid (by simp)
          have hRI4 : Hid (RowI (w6.setCell ⟨w.heap.size, 1, none⟩ (.slice (some ⟨g4, 0, none⟩) (C.length + C.length) c4)) g4 (C ++ C)) := (rowI_of_own (l := C ++ C) (by rw [List.map_append]; exact hown6) (by simp)).far (by dsimp only; omega) _
          have hc4 : Hid (C.length + C.length ≤ c4) := Lib.hid (by
            rcases hown6.2 with ⟨hv, _⟩ | ⟨_, _, _, hv, _, _, hcap, _⟩
            · cases hv
            · injection hv with _ _ hv; subst hv; exact hcap)
          have hg4b : Hid (w.heap.size + 2 ≤ g4) := Lib.hid (by have := hw6.1; omega)
          clear hown5 hg5 hg3e hg3z hown6 hg6 hg4e hg4z hb46
          go_wp2_with fail
          have hRF : Hid (Box ((((w6.setCell ⟨w.heap.size, 1, none⟩ (.slice (some ⟨g4, 0, none⟩) (C.length + C.length) c4)).setCell ⟨w.heap.size + 1, 0, none⟩ (.slice (some ⟨g2, 0, none⟩) (P.length + P.length) c2)).setCell ⟨w.heap.size + 1, 1, none⟩ (.slice (some ⟨g4, 0, none⟩) (C.length + C.length) c4)).setCell ⟨w.heap.size + 1, 2, none⟩ (.int .i64 s)) (w.heap.size + 1) 26 #[.slice (some ⟨g2, 0, none⟩) (P.length + P.length) c2, .slice (some ⟨g4, 0, none⟩) (C.length + C.length) c4, .int .i64 s]) := box_put3 hR4.out _ _ _
          have hend : Hid (BentPost P.length C.length w (.returned (.agg #[.slice (some ⟨g2, 0, none⟩) (P ++ P).length c2, .slice (some ⟨g4, 0, none⟩) (C ++ C).length c4, .int .i64 s])) ((((w6.setCell ⟨w.heap.size, 1, none⟩ (.slice (some ⟨g4, 0, none⟩) (C.length + C.length) c4)).setCell ⟨w.heap.size + 1, 0, none⟩ (.slice (some ⟨g2, 0, none⟩) (P.length + P.length) c2)).setCell ⟨w.heap.size + 1, 1, none⟩ (.slice (some ⟨g4, 0, none⟩) (C.length + C.length) c4)).setCell ⟨w.heap.size + 1, 2, none⟩ (.int .i64 s))) := bent_fin (by omega) hRP4.out (by rw [hPl2.out]; omega) (by rw [hPl2.out]; omega) (by rw [hC2l.out]; omega) (by rw [hPl2.out]; exact hc2) (.inr ⟨_, _, rfl, by rw [hC2l.out]; exact hc4.out⟩) (fun _ => ⟨_, _, rfl⟩) (hRI4.out.ints hRI4.out.lt) (fun a ha => by injection ha with ha; subst ha; exact hg4b.out) hW4.out
          rw [hPl2.out] at hend
          rw [hC2l.out] at hend
          generalize ((((w6.setCell ⟨w.heap.size, 1, none⟩ (.slice (some ⟨g4, 0, none⟩) (C.length + C.length) c4)).setCell ⟨w.heap.size + 1, 0, none⟩ (.slice (some ⟨g2, 0, none⟩) (P.length + P.length) c2)).setCell ⟨w.heap.size + 1, 1, none⟩ (.slice (some ⟨g4, 0, none⟩) (C.length + C.length) c4)).setCell ⟨w.heap.size + 1, 2, none⟩ (.int .i64 s)) = WF at hRF hend ⊢
          have z0 := hRF.out.cell 0
          have z1 := hRF.out.cell 1
          have z2 := hRF.out.cell 2
          have zz := hRF.out.lt
          simp at z0 z1 z2
          refine bodyPost_ret (v := .agg #[.slice (some ⟨g2, 0, none⟩) (P.length + P.length) c2, .slice (some ⟨g4, 0, none⟩) (C.length + C.length) c4, .int .i64 s]) (by simp [results, Try.results33, go_sem, z0, z1, z2, zz]) rfl hend.out

end Go.Proofs.Ytepodpdcillkmaa
