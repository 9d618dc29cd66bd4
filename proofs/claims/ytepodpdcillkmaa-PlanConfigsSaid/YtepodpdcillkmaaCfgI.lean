/- What PlanConfigs makes of its second configuration: its variable and its two own rows, and what each change leaves. -/
import Derived.Test.YtepodpdcillkmaaCfgH
import Derived.Test.YtepodpdcillkmaaCfgD
namespace Go.Proofs.Ytepodpdcillkmaa
open Go.RowKit
set_option linter.unusedVariables false
set_option linter.unusedSimpArgs false

/-- A row in one block, told by its cells, read as a slice. -/
theorem sl_of_cells {δ : Type} {E : World → Nat → List Value → δ → Prop} {w : World} {B g n cap : Nat} {cs : List Value} {ds : List δ} (hg : g < B) (hcs : ∀ (j : Nat) (u : Value), cs[j]? = some u → w.cell? ⟨g, j, none⟩ = some u) (hE : RowE (E w B) ds cs) (hn : n = ds.length) :
    SlE E w B (.slice (some ⟨g, 0, none⟩) n cap) ds := by
  subst hn
  refine ⟨_, cap, cs, rfl, hE, by simp, fun ad ha j u hu => ?_⟩
  injection ha with ha
  subst ha
  refine ⟨hg, ?_⟩
  rw [Addr.add_lit, Nat.zero_add]
  exact hcs j u hu

theorem JElem.keep {n : Nat} {w w' : World} {B : Nat} {c : List Value} {d : Jd} (h : JElem n w B c d) (hb : Below B w w') (hB : B ≤ w'.heap.size) : JElem n w' w'.heap.size c d := (h.below hb).more hB
theorem AElem.keep {n : Nat} {w w' : World} {B : Nat} {c : List Value} {d : Ad} (h : AElem n w B c d) (hb : Below B w w') (hB : B ≤ w'.heap.size) : AElem n w' w'.heap.size c d := (h.below hb).more hB

/-- The second configuration as it is made: its variable, and two own rows, whose elements lie below block B. -/
structure BadS (B : Nat) (W : World) (gb gj ga : Nat) (cj ca : Nat) (Js : List Jd) (Ags : List Ad) (csJ csA : List Value) (per cap hold lock : Int) : Prop where
  box : Box W gb 63 #[.slice (some ⟨gj, 0, none⟩) Js.length cj, .slice (some ⟨ga, 0, none⟩) Ags.length ca, .int .i64 per, .int .i64 cap, .int .i64 hold, .int .i64 lock]
  rj : W.ownsRow B 26 3 (.slice (some ⟨gj, 0, none⟩) Js.length cj) Js.length csJ
  ra : W.ownsRow B 66 8 (.slice (some ⟨ga, 0, none⟩) Ags.length ca) Ags.length csA
  ej : RowE (JElem 60 W B) Js csJ
  ea : RowE (AElem 60 W B) Ags csA
  gb0 : B ≤ gb
  nJ : Js.length ≤ 30
  nA : Ags.length ≤ 30
  nA1 : 1 ≤ Ags.length
/-- The second configuration behind the change: it can be read. -/
structure BadC (B : Nat) (W : World) (gb gj ga : Nat) (wx : World) : Prop where
  bel : Below B W wx
  size : W.heap.size ≤ wx.heap.size
  oth : ∀ b, b < W.heap.size → b ≠ gb → b ≠ gj → b ≠ ga → wx.heap[b]? = W.heap[b]?
  ex : ∃ (vJ vA : Value) (Js : List Jd) (Ags : List Ad) (per cap hold lock : Int), Box wx gb 63 #[vJ, vA, .int .i64 per, .int .i64 cap, .int .i64 hold, .int .i64 lock] ∧ SlE (JElem 60) wx wx.heap.size vJ Js ∧ SlE (AElem 60) wx wx.heap.size vA Ags ∧ Js.length ≤ 100 ∧ Ags.length ≤ 100 ∧ 1 ≤ Ags.length

theorem own_at {w : World} {base : Nat} {e : TypeId} {size n n' cap g : Nat} {xs : List Value} (h : w.ownsRow base e size (.slice (some ⟨g, 0, none⟩) n cap) n' xs) : n = n' ∧ base ≤ g ∧ ∃ cur, Box w g e cur ∧ ∀ (j : Nat) (u : Value), xs[j]? = some u → cur[j]? = some u := by
  rcases own_form h with ⟨hv, _⟩ | ⟨q, cap', cur, hv, hq, hb, _, hc⟩
  · cases hv
  · injection hv with h1 h2 _
    injection h1 with h1
    injection h1 with h1
    subst h1
    exact ⟨h2, hq, cur, hb, hc⟩

section
variable {B : Nat} {W : World} {gb gj ga cj ca : Nat} {Js : List Jd} {Ags : List Ad} {csJ csA : List Value} {per cap hold lock : Int}
theorem BadS.ne (h : BadS B W gb gj ga cj ca Js Ags csJ csA per cap hold lock) : gb ≠ gj ∧ gb ≠ ga ∧ gj ≠ ga ∧ B ≤ gj ∧ B ≤ ga ∧ gb < W.heap.size ∧ gj < W.heap.size ∧ ga < W.heap.size := by
  obtain ⟨_, h1, cur, h2, _⟩ := own_at h.rj
  obtain ⟨_, h3, cur2, h4, _⟩ := own_at h.ra
  exact ⟨boxNe h.box h2 (by decide), boxNe h.box h4 (by decide), boxNe h2 h4 (by decide), h1, h3, h.box.lt, h2.lt, h4.lt⟩
/-- What stands of the two rows behind changes elsewhere. -/
theorem BadS.rows (h : BadS B W gb gj ga cj ca Js Ags csJ csA per cap hold lock) {w' : World} (hb : Below B W w') (hsz : W.heap.size ≤ w'.heap.size) :
    (w'.heap[gj]? = W.heap[gj]? → SlE (JElem 60) w' w'.heap.size (.slice (some ⟨gj, 0, none⟩) Js.length cj) Js) ∧ (w'.heap[ga]? = W.heap[ga]? → SlE (AElem 60) w' w'.heap.size (.slice (some ⟨ga, 0, none⟩) Ags.length ca) Ags) := by
  obtain ⟨n1, n2, n3, b1, b2, l0, l1, l2⟩ := h.ne
  obtain ⟨_, h1, cur, h2, h2c⟩ := own_at h.rj
  obtain ⟨_, h3, cur2, h4, h4c⟩ := own_at h.ra
  refine ⟨fun e => ?_, fun e => ?_⟩
  · have hb2 : Box w' gj 26 cur := e.trans h2
    exact sl_of_cells (by omega) (fun j u hu => by rw [hb2.cell j]; exact h2c j u hu) (h.ej.mono fun c d hc => hc.keep hb (by omega)) rfl
  · have hb2 : Box w' ga 66 cur2 := e.trans h4
    exact sl_of_cells (by omega) (fun j u hu => by rw [hb2.cell j]; exact h4c j u hu) (h.ea.mono fun c d hc => hc.keep hb (by omega)) rfl
/-- A number of the configuration itself is changed. -/
theorem BadS.num (h : BadS B W gb gj ga cj ca Js Ags csJ csA per cap hold lock) (k : Nat) (hk : 2 ≤ k ∧ k ≤ 5) (v : Int) : BadC B W gb gj ga (W.setCell ⟨gb, k, none⟩ (.int .i64 v)) := by
  obtain ⟨n1, n2, n3, b1, b2, l0, l1, l2⟩ := h.ne
  have g0 := h.gb0
  have hoth : ∀ b, b ≠ gb → (W.setCell ⟨gb, k, none⟩ (.int .i64 v)).heap[b]? = W.heap[b]? := fun b hb => Below.heap_setCell _ _ _ b hb
  have hbl : Below B W (W.setCell ⟨gb, k, none⟩ (.int .i64 v)) := (Below.refl _ _).setCell g0 _
  obtain ⟨r1, r2⟩ := h.rows hbl (by simp)
  refine ⟨hbl, by simp, fun b _ e _ _ => hoth b e, ?_⟩
  have q1 := r1 (hoth gj (Ne.symm n1))
  have q2 := r2 (hoth ga (Ne.symm n2))
  have hJl := h.nJ
  have hAl := h.nA
  have hAl1 := h.nA1
  match k, hk with
  | 2, _ => exact ⟨_, _, Js, Ags, v, cap, hold, lock, h.box.put_eq (i := 2) (by simp), q1, q2, by omega, by omega, hAl1⟩
  | 3, _ => exact ⟨_, _, Js, Ags, per, v, hold, lock, h.box.put_eq (i := 3) (by simp), q1, q2, by omega, by omega, hAl1⟩
  | 4, _ => exact ⟨_, _, Js, Ags, per, cap, v, lock, h.box.put_eq (i := 4) (by simp), q1, q2, by omega, by omega, hAl1⟩
  | 5, _ => exact ⟨_, _, Js, Ags, per, cap, hold, v, h.box.put_eq (i := 5) (by simp), q1, q2, by omega, by omega, hAl1⟩
/-- A cell of an agency is changed, perhaps behind making memory. -/
theorem BadS.ag (h : BadS B W gb gj ga cj ca Js Ags csJ csA per cap hold lock) {w1 : World} (hb : Below W.heap.size W w1) (i r o : Nat) (hi : i < Ags.length) (hr : r < 8) (ho : o = i * 8 + r) (u : Value) (d' : Ad)
    (hE : ∀ c w', AElem 60 W B c Ags[i] → Below B W w' → W.heap.size ≤ w'.heap.size → w'.heap.size = w1.heap.size → (∀ b, b < w1.heap.size → b ≠ ga → w'.heap[b]? = w1.heap[b]?) → AElem 60 w' w'.heap.size (c.set r u) d') : BadC B W gb gj ga (w1.setCell ⟨ga, o, none⟩ u) := by
  obtain ⟨n1, n2, n3, b1, b2, l0, l1, l2⟩ := h.ne
  have g0 := h.gb0
  have hz := hb.size
  have hoth1 : ∀ b, b ≠ ga → (w1.setCell ⟨ga, o, none⟩ u).heap[b]? = w1.heap[b]? := fun b hb => Below.heap_setCell _ _ _ b hb
  have hoth : ∀ b, b < W.heap.size → b ≠ ga → (w1.setCell ⟨ga, o, none⟩ u).heap[b]? = W.heap[b]? := fun b hlt hne => (hoth1 b hne).trans (hb.block b hlt)
  have hbl : Below B W (w1.setCell ⟨ga, o, none⟩ u) := (hb.mono (by omega)).setCell b2 _
  have hsz : W.heap.size ≤ (w1.setCell ⟨ga, o, none⟩ u).heap.size := by simp; omega
  obtain ⟨r1, _⟩ := h.rows hbl hsz
  have q1 := r1 (hoth gj l1 n3)
  obtain ⟨_, h3, cur2, h4, h4c⟩ := own_at h.ra
  have h5 : Box w1 ga 66 cur2 := (hb.block ga l2).trans h4
  have hlen := h.ea.length (fun c d h => h.len)
  have hlt : o < csA.length := by rw [hlen]; omega
  have hcl : o < cur2.size := by
    have := h4c o _ (List.getElem?_eq_getElem hlt)
    exact (Array.getElem?_eq_some_iff.1 this).1
  have h6 : Box (w1.setCell ⟨ga, o, none⟩ u) ga 66 (cur2.setIfInBounds o u) := h5.put o u
  obtain ⟨c, hc, hcc⟩ := h.ea.at (fun c d h => h.len) i hi
  have hcl8 := hc.len
  have hnew := hE c _ hc hbl hsz (by simp) (fun b _ hne => hoth1 b hne)
  have hrow : RowE (AElem 60 (w1.setCell ⟨ga, o, none⟩ u) (w1.setCell ⟨ga, o, none⟩ u).heap.size) (Ags.set i d') (csA.set o u) := by
    refine RowE.set (k := 8) (fun c d h => h.len) (h.ea.mono fun c d hc => hc.keep hbl (by omega)) i hi hnew (by simp) fun p => ?_
    rw [List.getElem?_set]
    by_cases hp : o = p
    · subst hp
      rw [if_pos rfl, if_pos hlt, if_pos (by omega), List.getElem?_set]
      rw [if_pos (by omega), if_pos (by omega)]
    · rw [if_neg hp]
      by_cases hin : i * 8 ≤ p ∧ p < i * 8 + 8
      · rw [if_pos hin, List.getElem?_set, if_neg (by omega), ← hcc (p - i * 8) (by omega)]
        congr 1
        omega
      · rw [if_neg hin]
  have hJl := h.nJ
  have hAl := h.nA
  have hAl1 := h.nA1
  refine ⟨hbl, hsz, fun b hlt' e1 e2 e3 => hoth b hlt' e3, _, .slice (some ⟨ga, 0, none⟩) Ags.length ca, Js, Ags.set i d', per, cap, hold, lock, (hoth gb l0 n2).trans h.box, q1, ?_, by omega, by simp; omega, by simp; omega⟩
  refine sl_of_cells (by omega) (fun j x hx => ?_) hrow (by simp)
  rw [h6.cell j]
  rw [List.getElem?_set] at hx
  rw [Array.getElem?_setIfInBounds]
  by_cases hj : o = j
  · subst hj
    rw [if_pos rfl, if_pos hlt] at hx
    rw [if_pos rfl, if_pos hcl]
    exact hx
  · rw [if_neg hj] at hx
    rw [if_neg hj]
    exact h4c j x hx
theorem BadS.agcell (h : BadS B W gb gj ga cj ca Js Ags csJ csA per cap hold lock) (i r : Nat) (hi : i < Ags.length) (hr : r < 8) : ∃ u, W.cell? ⟨ga, i * 8 + r, none⟩ = some u := by
  obtain ⟨_, h3, cur2, h4, h4c⟩ := own_at h.ra
  have hlen := h.ea.length (fun c d h => h.len)
  exact ⟨_, (h4.cell _).trans (h4c _ _ (List.getElem?_eq_getElem (by rw [hlen]; omega)))⟩
theorem BadS.jcell (h : BadS B W gb gj ga cj ca Js Ags csJ csA per cap hold lock) (hJ : 0 < Js.length) (r : Nat) (hr : r < 3) : ∃ u, W.cell? ⟨gj, r, none⟩ = some u := by
  obtain ⟨_, h3, cur2, h4, h4c⟩ := own_at h.rj
  have hlen := h.ej.length (fun c d h => h.len)
  exact ⟨_, (h4.cell _).trans (h4c _ _ (List.getElem?_eq_getElem (by rw [hlen]; omega)))⟩
theorem BadS.free (h : BadS B W gb gj ga cj ca Js Ags csJ csA per cap hold lock) : (∀ o, W.frozen? ⟨ga, o, none⟩ = false) ∧ ∀ o, W.frozen? ⟨gj, o, none⟩ = false := by
  obtain ⟨_, h3, cur2, h4, h4c⟩ := own_at h.ra
  obtain ⟨_, h5, cur3, h6, h6c⟩ := own_at h.rj
  exact ⟨fun o => h4.frozen o, fun o => h6.frozen o⟩
/-- A number of an agency is changed. -/
theorem BadS.agnum (h : BadS B W gb gj ga cj ca Js Ags csJ csA per cap hold lock) (i r o : Nat) (hi : i < Ags.length) (hr : r = 1 ∨ r = 2 ∨ r = 4 ∨ r = 5 ∨ r = 6 ∨ r = 7) (ho : o = i * 8 + r) (v : Int) : BadC B W gb gj ga (W.setCell ⟨ga, o, none⟩ (.int .i64 v)) := by
  have key : ∃ d', ∀ c w', AElem 60 W B c Ags[i] → Below B W w' → W.heap.size ≤ w'.heap.size → w'.heap.size = W.heap.size → (∀ b, b < W.heap.size → b ≠ ga → w'.heap[b]? = W.heap[b]?) → AElem 60 w' w'.heap.size (c.set r (.int .i64 v)) d' := by
    have hB : B ≤ W.heap.size := by
      obtain ⟨_, _, _, b1, _, _, l1, _⟩ := h.ne
      omega
    rcases hr with rfl | rfl | rfl | rfl | rfl | rfl
    · refine ⟨{ Ags[i] with ri := v }, fun c w' hc hb hs _ _ => ?_⟩
      obtain ⟨As, sc, L, lc, rfl, h1, h2, h3⟩ := hc.keep hb (by omega)
      exact ⟨As, sc, L, lc, rfl, h1, h2, h3⟩
    · refine ⟨{ Ags[i] with cls := v }, fun c w' hc hb hs _ _ => ?_⟩
      obtain ⟨As, sc, L, lc, rfl, h1, h2, h3⟩ := hc.keep hb (by omega)
      exact ⟨As, sc, L, lc, rfl, h1, h2, h3⟩
    · refine ⟨{ Ags[i] with rq := v }, fun c w' hc hb hs _ _ => ?_⟩
      obtain ⟨As, sc, L, lc, rfl, h1, h2, h3⟩ := hc.keep hb (by omega)
      exact ⟨As, sc, L, lc, rfl, h1, h2, h3⟩
    · refine ⟨{ Ags[i] with se := v }, fun c w' hc hb hs _ _ => ?_⟩
      obtain ⟨As, sc, L, lc, rfl, h1, h2, h3⟩ := hc.keep hb (by omega)
      exact ⟨As, sc, L, lc, rfl, h1, h2, h3⟩
    · refine ⟨{ Ags[i] with ra := v }, fun c w' hc hb hs _ _ => ?_⟩
      obtain ⟨As, sc, L, lc, rfl, h1, h2, h3⟩ := hc.keep hb (by omega)
      exact ⟨As, sc, L, lc, rfl, h1, h2, h3⟩
    · refine ⟨{ Ags[i] with bu := v }, fun c w' hc hb hs _ _ => ?_⟩
      obtain ⟨As, sc, L, lc, rfl, h1, h2, h3⟩ := hc.keep hb (by omega)
      exact ⟨As, sc, L, lc, rfl, h1, h2, h3⟩
  obtain ⟨d', hd⟩ := key
  exact h.ag (Below.refl _ _) i r o hi (by omega) ho _ d' hd
/-- The secret is changed. -/
theorem BadS.agsec (h : BadS B W gb gj ga cj ca Js Ags csJ csA per cap hold lock) {w1 : World} (hb : Below W.heap.size W w1) (i o : Nat) (hi : i < Ags.length) (ho : o = i * 8) (As : Option Addr) (n sc : Nat) (hn : n ≤ 60) : BadC B W gb gj ga (w1.setCell ⟨ga, o, none⟩ (.slice As n sc)) := by
  have hB : B ≤ W.heap.size := by
    obtain ⟨_, _, _, b1, _, _, l1, _⟩ := h.ne
    omega
  refine h.ag hb i 0 o hi (by omega) (by omega) _ { Ags[i] with sl := n } fun c w' hc hbl hs _ _ => ?_
  obtain ⟨As', sc', L, lc, rfl, h1, h2, h3⟩ := hc.keep hbl (by omega)
  exact ⟨As, sc, L, lc, rfl, h1, h2, hn⟩
/-- The limits are changed: a new row of numbers. -/
theorem BadS.aglim (h : BadS B W gb gj ga cj ca Js Ags csJ csA per cap hold lock) (ls : List Int) (hl : ls.length ≤ 60) (i o n : Nat) (hi : i < Ags.length) (ho : o = i * 8 + 3) (hn : n = ls.length) (lc : Nat) {cs : Array Value} (hcs : cs = (ls.map (Value.int .i64)).toArray) :
    BadC B W gb gj ga ((W.alloc (.cells cs 3)).setCell ⟨ga, o, none⟩ (.slice (some ⟨W.heap.size, 0, none⟩) n lc)) := by
  subst hn hcs
  obtain ⟨_, _, _, b1, _, _, l1, l2⟩ := h.ne
  refine h.ag ((Below.refl _ _).alloc (Nat.le_refl _) _) i 3 o hi (by omega) ho _ { Ags[i] with lims := ls } fun c w' hc hbl hs hsz hot => ?_
  have hz : (W.alloc (.cells (ls.map (Value.int .i64)).toArray 3)).heap.size = W.heap.size + 1 := World.size_alloc _ _
  obtain ⟨As', sc', L, lc', rfl, h1, h2, h3⟩ := hc.keep hbl (by omega)
  have hb : Box w' W.heap.size 3 (ls.map (Value.int .i64)).toArray := (hot W.heap.size (by omega) (by omega)).trans (Box.new _ _ _)
  refine ⟨As', sc', _, lc, rfl, fun j hj => ⟨W.heap.size, 0, rfl, by omega, ?_⟩, hl, h3⟩
  rw [hb.cell]
  have hj' : j < ls.length := hj
  simp [List.getD, hj']

theorem two_app {a b : Nat} {w2 w3 : World} {g2 H : Nat} (h2 : W.grownBy w2 (some gj)) (h3 : w2.grownBy w3 (some g2)) (hq : (Value.slice (some ⟨gj, 0, none⟩) a b).ownBlock = some g2 ∨ g2 = H) (hH : W.heap.size = H) (hB : B ≤ W.heap.size) (hj : B ≤ gj) :
    Below B W w3 ∧ W.heap.size ≤ w3.heap.size ∧ ∀ b, b < W.heap.size → b ≠ gj → w3.heap[b]? = W.heap[b]? := by
  have hq' : g2 = gj ∨ g2 = H := by
    rcases hq with hq | hq
    · left; simpa [Value.ownBlock] using hq.symm
    · exact .inr hq
  have z2 := h2.size
  have z3 := h3.size
  refine ⟨(((Below.refl B W).grown h2 hB (fun q hq => by injection hq with hq; omega))).grown h3 (by omega) (fun q hq => by injection hq with hq; omega), by omega, fun b hb hne => ?_⟩
  rw [h3.block b (by omega) (fun e => by injection e with e; omega)]
  exact h2.block b hb (fun e => by injection e with e; omega)
/-- The junctions are another row. -/
theorem BadS.appJ (h : BadS B W gb gj ga cj ca Js Ags csJ csA per cap hold lock) {w3 : World} (hw : Below B W w3 ∧ W.heap.size ≤ w3.heap.size ∧ ∀ b, b < W.heap.size → b ≠ gj → w3.heap[b]? = W.heap[b]?) {g3 n3 c3 : Nat} {cs3 : List Value} {ds3 : List Jd}
    (hown : w3.ownsRow B 26 3 (.slice (some ⟨g3, 0, none⟩) n3 c3) n3 cs3) (hE : RowE (JElem 60 W B) ds3 cs3) (hl : n3 = ds3.length) (h100 : n3 ≤ 100) : BadC B W gb gj ga (w3.setCell ⟨gb, 0, none⟩ (.slice (some ⟨g3, 0, none⟩) n3 c3)) := by
  obtain ⟨hbl, hsz, hoth⟩ := hw
  obtain ⟨n1, n2, n3', b1, b2, l0, l1, l2⟩ := h.ne
  obtain ⟨_, q1, cur, q2, q3⟩ := own_at hown
  have hB : Box w3 gb _ _ := (hoth gb l0 n1).trans h.box
  have hne : gb ≠ g3 := boxNe hB q2 (by decide)
  have hw' : Below B W (w3.setCell ⟨gb, 0, none⟩ (.slice (some ⟨g3, 0, none⟩) n3 c3)) := hbl.setCell h.gb0 _
  have hs' : W.heap.size ≤ (w3.setCell ⟨gb, 0, none⟩ (.slice (some ⟨g3, 0, none⟩) n3 c3)).heap.size := by simpa using hsz
  obtain ⟨_, r2⟩ := h.rows hw' hs'
  have q2' : Box (w3.setCell ⟨gb, 0, none⟩ (.slice (some ⟨g3, 0, none⟩) n3 c3)) g3 _ cur := q2.far (Ne.symm hne) _
  refine ⟨hw', hs', fun b hb e1 e2 e3 => (Below.heap_setCell _ _ _ _ e1).trans (hoth b hb e2), .slice (some ⟨g3, 0, none⟩) n3 c3, .slice (some ⟨ga, 0, none⟩) Ags.length ca, ds3, Ags, per, cap, hold, lock, hB.put_eq (i := 0) (by simp), sl_of_cells q2'.lt (fun j u hu => by rw [q2'.cell j]; exact q3 j u hu) (hE.mono fun c d hc => hc.keep hw' (by omega)) hl, r2 ((Below.heap_setCell _ _ _ _ (Ne.symm n2)).trans (hoth ga l2 (Ne.symm n3'))), by omega, by have := h.nA; omega, h.nA1⟩
/-- The agencies are another row. -/
theorem BadS.appA (h : BadS B W gb gj ga cj ca Js Ags csJ csA per cap hold lock) {w3 : World} (hw : Below B W w3 ∧ W.heap.size ≤ w3.heap.size ∧ ∀ b, b < W.heap.size → b ≠ ga → w3.heap[b]? = W.heap[b]?) {g3 n3 c3 : Nat} {cs3 : List Value} {ds3 : List Ad}
    (hown : w3.ownsRow B 66 8 (.slice (some ⟨g3, 0, none⟩) n3 c3) n3 cs3) (hE : RowE (AElem 60 W B) ds3 cs3) (hl : n3 = ds3.length) (h100 : n3 ≤ 100) (h1 : 1 ≤ n3) : BadC B W gb gj ga (w3.setCell ⟨gb, 1, none⟩ (.slice (some ⟨g3, 0, none⟩) n3 c3)) := by
  obtain ⟨hbl, hsz, hoth⟩ := hw
  obtain ⟨n1, n2, n3', b1, b2, l0, l1, l2⟩ := h.ne
  obtain ⟨_, q1, cur, q2, q3⟩ := own_at hown
  have hB : Box w3 gb _ _ := (hoth gb l0 n2).trans h.box
  have hne : gb ≠ g3 := boxNe hB q2 (by decide)
  have hw' : Below B W (w3.setCell ⟨gb, 1, none⟩ (.slice (some ⟨g3, 0, none⟩) n3 c3)) := hbl.setCell h.gb0 _
  have hs' : W.heap.size ≤ (w3.setCell ⟨gb, 1, none⟩ (.slice (some ⟨g3, 0, none⟩) n3 c3)).heap.size := by simpa using hsz
  obtain ⟨r1, _⟩ := h.rows hw' hs'
  have q2' : Box (w3.setCell ⟨gb, 1, none⟩ (.slice (some ⟨g3, 0, none⟩) n3 c3)) g3 _ cur := q2.far (Ne.symm hne) _
  refine ⟨hw', hs', fun b hb e1 e2 e3 => (Below.heap_setCell _ _ _ _ e1).trans (hoth b hb e3), .slice (some ⟨gj, 0, none⟩) Js.length cj, .slice (some ⟨g3, 0, none⟩) n3 c3, Js, ds3, per, cap, hold, lock, hB.put_eq (i := 1) (by simp), r1 ((Below.heap_setCell _ _ _ _ (Ne.symm n1)).trans (hoth gj l1 n3')), sl_of_cells q2'.lt (fun j u hu => by rw [q2'.cell j]; exact q3 j u hu) (hE.mono fun c d hc => hc.keep hw' (by omega)) hl, by have := h.nJ; omega, by omega, by omega⟩
/-- A junction made by a call: its rows lie above lo. -/
def JNew (lo : Nat) (w : World) (u0 u1 u2 : Value) : Prop := ∃ (gp cp : Nat) (A2 : Option Addr) (cc : Nat) (P : List Ph) (C : List Int) (s : Int), u0 = .slice (some ⟨gp, 0, none⟩) P.length cp ∧ u1 = .slice A2 C.length cc ∧ u2 = .int .i64 s ∧
  Phs w w.heap.size (some ⟨gp, 0, none⟩) P ∧ Ints w w.heap.size A2 C ∧ P.length ≤ 60 ∧ C.length ≤ 60 ∧ lo ≤ gp ∧ ∀ a, A2 = some a → lo ≤ a.block
theorem bent_new (gp gc cp cc n m : Nat) (d : Jd) (which byv : Int) (w : World) (hP : Phs w w.heap.size (some ⟨gp, 0, none⟩) d.P) (hC : Ints w w.heap.size (some ⟨gc, 0, none⟩) d.C) (h1 : 1 ≤ d.P.length) (h15 : d.P.length ≤ 15) (h16 : d.C.length ≤ 15) (hn : n = d.P.length) (hm : m = d.C.length) :
    Calls Try.prog 33 #[.agg #[.slice (some ⟨gp, 0, none⟩) n cp, .slice (some ⟨gc, 0, none⟩) m cc, .int .i64 d.s], .int .i64 which, .int .i64 byv] w
      fun e w' => ∃ (g1 n1 k1 : Nat) (A2 : Option Addr) (n2 k2 : Nat) (s1 : Int), e = .returned (.agg #[.slice (some ⟨g1, 0, none⟩) n1 k1, .slice A2 n2 k2, .int .i64 s1]) ∧ Hid (JNew w.heap.size w' (.slice (some ⟨g1, 0, none⟩) n1 k1) (.slice A2 n2 k2) (.int .i64 s1)) ∧ Below w.heap.size w w' := by
  subst hn hm
  refine (bent_any gp 0 gc 0 cp cc d.P d.C d.s which byv w hP h1 (by omega) hC (by omega)).mono ?_
  rintro e w' ⟨g, cap, A2, c2, P, C, s, rfl, a1, a2, a3, a4, a5, a6, a7, a8, a9, a10, a11⟩
  exact ⟨g, P.length, cap, A2, C.length, c2, s, rfl, ⟨g, cap, A2, c2, P, C, s, rfl, rfl, rfl, a7, a8, by omega, by omega, a10, a11⟩, a9⟩
/-- The first junction is changed. -/
theorem BadS.bent (h : BadS B W gb gj ga cj ca Js Ags csJ csA per cap hold lock) {w1 : World} (hb : Below W.heap.size W w1) (hJ : 0 < Js.length) {u0 u1 u2 : Value} (hn : JNew W.heap.size w1 u0 u1 u2) : BadC B W gb gj ga (((w1.setCell ⟨gj, 0, none⟩ u0).setCell ⟨gj, 1, none⟩ u1).setCell ⟨gj, 2, none⟩ u2) := by
  obtain ⟨n1, n2, n3, b1, b2, l0, l1, l2⟩ := h.ne
  have g0 := h.gb0
  have hz := hb.size
  have hoth1 : ∀ b, b ≠ gj → (((w1.setCell ⟨gj, 0, none⟩ u0).setCell ⟨gj, 1, none⟩ u1).setCell ⟨gj, 2, none⟩ u2).heap[b]? = w1.heap[b]? := fun b hb => ((Below.heap_setCell _ _ _ b hb).trans (Below.heap_setCell _ _ _ b hb)).trans (Below.heap_setCell _ _ _ b hb)
  have hbl : Below B W (((w1.setCell ⟨gj, 0, none⟩ u0).setCell ⟨gj, 1, none⟩ u1).setCell ⟨gj, 2, none⟩ u2) := (((hb.mono (by omega)).setCell b1 _).setCell b1 _).setCell b1 _
  have hszE : (((w1.setCell ⟨gj, 0, none⟩ u0).setCell ⟨gj, 1, none⟩ u1).setCell ⟨gj, 2, none⟩ u2).heap.size = w1.heap.size := by simp
  obtain ⟨_, h3, cur, h4, h4c⟩ := own_at h.rj
  have h5 : Box w1 gj 26 cur := (hb.block gj l1).trans h4
  have h6 := ((h5.put 0 u0).put 1 u1).put 2 u2
  obtain ⟨gp, cp, A2, cc, P, C, s, rfl, rfl, rfl, hP, hC, p1, p2, lo1, lo2⟩ := hn
  generalize hw' : (((w1.setCell ⟨gj, 0, none⟩ (.slice (some ⟨gp, 0, none⟩) P.length cp)).setCell ⟨gj, 1, none⟩ (.slice A2 C.length cc)).setCell ⟨gj, 2, none⟩ (.int .i64 s)) = w' at hoth1 hbl hszE h6 ⊢
  have hnew : JElem 60 w' w'.heap.size [.slice (some ⟨gp, 0, none⟩) P.length cp, .slice A2 C.length cc, .int .i64 s] ⟨P, C, s⟩ := by
    refine ⟨_, cp, A2, cc, rfl, ?_, ?_, p1, p2⟩
    · rw [hszE]
      exact hP.other fun a ha => by injection ha with ha; subst ha; exact hoth1 gp (by omega)
    · rw [hszE]
      intro i hi
      obtain ⟨b, off, e, hlt, hc⟩ := hC i hi
      have := lo2 _ e
      dsimp only at this
      exact ⟨b, off, e, hlt, (World.cell?_of_block (w := w1) (w' := w') (a := ⟨b, off + i, none⟩) (hoth1 b (by omega))).trans hc⟩
  obtain ⟨_, r2⟩ := h.rows hbl (by omega)
  have hlen := h.ej.length (fun c d h => h.len)
  have hrow : RowE (JElem 60 w' w'.heap.size) (Js.set 0 ⟨P, C, s⟩) (((csJ.set 0 (.slice (some ⟨gp, 0, none⟩) P.length cp)).set 1 (.slice A2 C.length cc)).set 2 (.int .i64 s)) := by
    refine RowE.set (k := 3) (fun c d h => h.len) (h.ej.mono fun c d hc => hc.keep hbl (by omega)) 0 hJ hnew (by simp) fun p => ?_
    have hl3 : 3 ≤ csJ.length := by omega
    clear hlen h4c h
    match csJ, hl3 with
    | x :: y :: z :: rest, _ =>
      match p with
      | 0 => rfl
      | 1 => rfl
      | 2 => rfl
      | p + 3 => rw [if_neg (by omega)]; rfl
  refine ⟨hbl, by omega, fun b hlt' e1 e2 e3 => (hoth1 b e2).trans (hb.block b hlt'), .slice (some ⟨gj, 0, none⟩) Js.length cj, _, Js.set 0 ⟨P, C, s⟩, Ags, per, cap, hold, lock, ((hoth1 gb n1).trans (hb.block gb l0)).trans h.box, ?_, r2 ((hoth1 ga (Ne.symm n3)).trans (hb.block ga l2)), by have := h.nJ; simp; omega, by have := h.nA; omega, h.nA1⟩
  refine sl_of_cells (by omega) (fun j x hx => ?_) hrow (by simp)
  rw [h6.cell j]
  have hcs : ∀ o, o < csJ.length → o < cur.size := fun o ho => by
    have := h4c o _ (List.getElem?_eq_getElem ho)
    exact (Array.getElem?_eq_some_iff.1 this).1
  have c0 := hcs 0 (by omega)
  have c1 := hcs 1 (by omega)
  have c2 := hcs 2 (by omega)
  match j with
  | 0 => simpa [List.getElem?_set, Array.getElem?_setIfInBounds, show 0 < csJ.length by omega, c0] using hx
  | 1 => simpa [List.getElem?_set, Array.getElem?_setIfInBounds, show 1 < csJ.length by omega, c1] using hx
  | 2 => simpa [List.getElem?_set, Array.getElem?_setIfInBounds, show 2 < csJ.length by omega, c2] using hx
  | j + 3 => rw [Array.getElem?_setIfInBounds, if_neg (by omega), Array.getElem?_setIfInBounds, if_neg (by omega), Array.getElem?_setIfInBounds, if_neg (by omega)]; exact h4c _ x (by simpa [List.getElem?_set] using hx)
end

end Go.Proofs.Ytepodpdcillkmaa
