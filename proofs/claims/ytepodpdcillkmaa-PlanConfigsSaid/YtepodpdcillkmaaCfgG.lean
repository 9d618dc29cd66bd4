/- What (*Deck).Config keeps on its way, and how it goes on. -/
import Derived.Test.YtepodpdcillkmaaCfgF
import Derived.Test.YtepodpdcillkmaaRawJ
namespace Go.Proofs.Ytepodpdcillkmaa
open Go.RowKit
set_option linter.unusedVariables false
set_option linter.unusedSimpArgs false

theorem boxNe {w : World} {g g' : Nat} {t t' : TypeId} {cs cs' : Array Value} (h : Box w g t cs) (h' : Box w g' t' cs') (ht : t ≠ t') : g ≠ g' := by
  rintro rfl
  have e : some (Obj.cells cs t (0, 0)) = some (Obj.cells cs' t' (0, 0)) := h.symm.trans h'
  injection e with e
  injection e with _ e
  exact ht e
/-- An own row is a block of its elements' type, or nil. -/
theorem own_form {w : World} {base : Nat} {e : TypeId} {size : Nat} {v : Value} {n : Nat} {xs : List Value} (h : w.ownsRow base e size v n xs) :
    (v = .slice none 0 0 ∧ n = 0) ∨ ∃ (q cap : Nat) (cur : Array Value), v = .slice (some ⟨q, 0, none⟩) n cap ∧ base ≤ q ∧ Box w q e cur ∧ n ≤ cap ∧ ∀ (j : Nat) (u : Value), xs[j]? = some u → cur[j]? = some u := by
  obtain ⟨hl, h2⟩ := h
  rcases h2 with h2 | ⟨q, cap, cur, hv, hg, hh, hle, hm, hs, ht⟩
  · exact .inl h2
  · refine .inr ⟨q, cap, cur, hv, hg, hh, hle, fun j u hu => ?_⟩
    have : (cur.toList.take (n * size))[j]? = some u := by rw [ht]; exact hu
    obtain ⟨hj, _⟩ := List.getElem?_eq_some_iff.1 this
    rw [List.length_take] at hj
    rw [List.getElem?_take_of_lt (by omega)] at this
    simpa using this
theorem own_only {w w' : World} {base : Nat} {e : TypeId} {size : Nat} {v : Value} {n : Nat} {xs : List Value} {row : Option Nat} (h : w.ownsRow base e size v n xs) (hg : w.grownBy w' row) (hne : ∀ q cap, v = .slice (some ⟨q, 0, none⟩) n cap → some q ≠ row) : w'.ownsRow base e size v n xs := by
  obtain ⟨h1, h2⟩ := h
  refine ⟨h1, ?_⟩
  rcases h2 with h2 | ⟨g, cap, cur, hv, hgb, hh, r⟩
  · exact .inl h2
  · have hlt : g < w.heap.size := by
      apply Classical.byContradiction
      intro hge
      rw [Array.getElem?_eq_none (by omega)] at hh
      cases hh
    exact .inr ⟨g, cap, cur, hv, hgb, (hg.block g hlt (hne g cap hv)).trans hh, r⟩
theorem own_put_far {w : World} {base : Nat} {e : TypeId} {size : Nat} {v : Value} {n : Nat} {xs : List Value} {p : Addr} (h : w.ownsRow base e size v n xs) (hne : ∀ q cap, v = .slice (some ⟨q, 0, none⟩) n cap → q ≠ p.block) (u : Value) : (w.setCell p u).ownsRow base e size v n xs := by
  obtain ⟨h1, h2⟩ := h
  refine ⟨h1, ?_⟩
  rcases h2 with h2 | ⟨g, cap, cur, hv, hgb, hh, r⟩
  · exact .inl h2
  · exact .inr ⟨g, cap, cur, hv, hgb, (Below.heap_setCell w p u g (hne g cap hv)).trans hh, r⟩

/-- A row's cells begin with a slice. -/
theorem rowJ_first {w : World} {Js : List Jd} {cs : List Value} (h : RowE (JElem0 w) Js cs) (hn : 1 ≤ Js.length) : ∃ a l c, cs[0]? = some (.slice a l c) := by
  match Js, hn with
  | d :: Js, _ =>
    obtain ⟨c, rest, rfl, ⟨gp, cap, gc, cap2, rfl, _⟩, _⟩ := h
    exact ⟨_, _, _, rfl⟩
theorem rowA_first {w : World} {Ags : List Ad} {cs : List Value} (h : RowE (AElem0 w) Ags cs) (hn : 1 ≤ Ags.length) : ∃ a l c, cs[0]? = some (.slice a l c) := by
  match Ags, hn with
  | d :: Ags, _ =>
    obtain ⟨c, rest, rfl, ⟨As, sc, gl, lc, rfl, _⟩, _⟩ := h
    exact ⟨_, _, _, rfl⟩
theorem own_noInt {w : World} {base : Nat} {e : TypeId} {size : Nat} {q n cap : Nat} {xs : List Value} (h : w.ownsRow base e size (.slice (some ⟨q, 0, none⟩) n cap) n xs) (h0 : ∃ a l c, xs[0]? = some (.slice a l c)) : ¬ IntBlk w q := by
  rcases own_form h with ⟨hv, _⟩ | ⟨q', cap', cur, hv, _, hb, _, hc⟩
  · cases hv
  · injection hv with hv _ _
    injection hv with hv
    injection hv with hv
    subst hv
    obtain ⟨a, l, c, h0⟩ := h0
    exact hb.noInt fun z e => by rw [hc 0 _ h0] at e; injection e with e; cases e

/-- On the way through Config: nJ junctions and nA agencies are made. -/
structure CR (w0 : World) (g gv : Nat) (per cap hold lock : Int) (nJ nA : Nat) (wr : World) : Prop where
  ex : ∃ (vJ vA : Value) (csJ csA : List Value) (Js : List Jd) (Ags : List Ad), Js.length = nJ ∧ Ags.length = nA ∧ wr.ownsRow w0.heap.size 26 3 vJ nJ csJ ∧ RowE (JElem0 wr) Js csJ ∧ wr.ownsRow w0.heap.size 66 8 vA nA csA ∧ RowE (AElem0 wr) Ags csA ∧
    Box wr gv 63 #[vJ, vA, .int .i64 per, .int .i64 cap, .int .i64 hold, .int .i64 lock] ∧ (∀ d ∈ Js, jOk d = true) ∧ (∀ d ∈ Ags, agOk d = true) ∧ (nJ = 0 → vJ = .slice none 0 0) ∧ (nA = 0 → vA = .slice none 0 0)
  deck : HasDeck wr g
  only : w0.grownBy wr (some g)

/-- The parts of the relation, changed by a call that draws from the deck. -/
theorem own_deck {w w' : World} {g base : Nat} {e : TypeId} {size : Nat} {v : Value} {n : Nat} {xs : List Value} (h : w.ownsRow base e size v n xs) (hg : w.grownBy w' (some g)) (hb : g < base) : w'.ownsRow base e size v n xs := by
  refine own_only h hg fun q cap hv e => ?_
  rcases own_form h with ⟨hv', _⟩ | ⟨q', cap', cur, hv', hq, _⟩
  · rw [hv'] at hv; cases hv
  · rw [hv'] at hv
    injection hv with hv
    injection hv with hv
    injection hv with hv
    injection e with e
    omega
theorem CR.next {w0 : World} {g gv : Nat} {per cap hold lock : Int} {nJ nA : Nat} {wr w' : World} (h : CR w0 g gv per cap hold lock nJ nA wr) (hd : Drawn wr g w') (hg : g < w0.heap.size) (hv : w0.heap.size ≤ gv) : CR w0 g gv per cap hold lock nJ nA w' := by
  obtain ⟨⟨vJ, vA, csJ, csA, Js, Ags, h1, h2, h3, h4, h5, h6, h7, h8, h9, h10, h11⟩, hdk, ho⟩ := h
  have k := keep_only hd.only (deck_noInt hdk)
  exact ⟨⟨vJ, vA, csJ, csA, Js, Ags, h1, h2, own_deck h3 hd.only hg, h4.mono (fun _ _ h => h.keep k), own_deck h5 hd.only hg, h6.mono (fun _ _ h => h.keep k), h7.grown hd.only (fun e => by injection e with e; omega), h8, h9, h10, h11⟩, hd.deck, only_trans ho hd.only⟩

theorem CR.addJ {w0 : World} {g gv : Nat} {per cap hold lock : Int} {nJ nA : Nat} {wr w5 w7 : World} {vJ vA v' : Value} {csJ csA c : List Value} {Js : List Jd} {Ags : List Ad} {d : Jd}
    (h1 : Js.length = nJ) (h2 : Ags.length = nA) (h3 : wr.ownsRow w0.heap.size 26 3 vJ nJ csJ) (h4 : RowE (JElem0 wr) Js csJ) (h5 : wr.ownsRow w0.heap.size 66 8 vA nA csA) (h6 : RowE (AElem0 wr) Ags csA)
    (h7 : Box wr gv 63 #[vJ, vA, .int .i64 per, .int .i64 cap, .int .i64 hold, .int .i64 lock]) (h8 : ∀ d ∈ Js, jOk d = true) (h9 : ∀ d ∈ Ags, agOk d = true) (h10 : nJ = 0 → vJ = .slice none 0 0) (h11 : nA = 0 → vA = .slice none 0 0)
    (hdk : HasDeck wr g) (ho : w0.grownBy wr (some g)) (hg : g < w0.heap.size) (hgv : w0.heap.size ≤ gv) (hd : JElem0 w5 c d) (hok : jOk d = true) (hg5 : wr.grownBy w5 (some g)) (hd5 : HasDeck w5 g)
    (hg7 : (w5.alloc (.cells (List.toArray c) 26)).grownBy w7 vJ.ownBlock) (hown7 : w7.ownsRow w0.heap.size 26 3 v' (nJ + 1) (csJ ++ c)) : CR w0 g gv per cap hold lock (nJ + 1) nA (w7.setCell ⟨gv, 0, none⟩ v') := by
  have k1 := keep_only hg5 (deck_noInt hdk)
  have hb6 : Below w5.heap.size w5 (w5.alloc (.cells (List.toArray c) 26)) := (Below.refl _ _).alloc (Nat.le_refl _) _
  have o6 : w0.grownBy (w5.alloc (.cells (List.toArray c) 26)) (some g) := only_alloc (only_trans ho hg5) _
  have d6 : HasDeck (w5.alloc (.cells (List.toArray c) 26)) g := hd5.alloc _
  have hd6 : JElem0 (w5.alloc (.cells (List.toArray c) 26)) c d := hd.keep (keep_below hb6)
  have J6 : (w5.alloc (.cells (List.toArray c) 26)).ownsRow w0.heap.size 26 3 vJ nJ csJ := own_below (own_deck h3 hg5 hg) hb6
  have A6 : (w5.alloc (.cells (List.toArray c) 26)).ownsRow w0.heap.size 66 8 vA nA csA := own_below (own_deck h5 hg5 hg) hb6
  have RJ6 := h4.mono (fun _ _ h => h.keep (k1.trans (keep_below hb6)))
  have RA6 := h6.mono (fun _ _ h => h.keep (k1.trans (keep_below hb6)))
  have B6 : Box (w5.alloc (.cells (List.toArray c) 26)) gv 63 #[vJ, vA, .int .i64 per, .int .i64 cap, .int .i64 hold, .int .i64 lock] := (h7.grown hg5 (fun e => by injection e with e; omega)).alloc _
  generalize (w5.alloc (.cells (List.toArray c) 26)) = w6 at hb6 o6 d6 hd6 J6 A6 RJ6 RA6 B6 hg7
  have hrow : ∀ q, vJ.ownBlock = some q → w0.heap.size ≤ q ∧ ¬ IntBlk w6 q ∧ ∃ cur, Box w6 q 26 cur := by
    intro q hq
    rcases own_form J6 with ⟨hv, _⟩ | ⟨q', cap', cur, hv, hbq, hbox, _⟩
    · rw [hv] at hq; cases hq
    · have e : q' = q := by rw [hv] at hq; injection hq
      subst e
      have hn : 1 ≤ nJ := by
        apply Classical.byContradiction
        intro hn
        have := h10 (by omega)
        rw [hv] at this; cases this
      refine ⟨hbq, ?_, cur, hbox⟩
      have h := J6
      rw [hv] at h
      exact own_noInt h (rowJ_first RJ6 (by omega))
  have k3 : Keep w6 w7 := by
    cases hob : vJ.ownBlock with
    | none => rw [hob] at hg7; exact keep_none hg7
    | some q => rw [hob] at hg7; exact keep_only hg7 (hrow q hob).2.1
  have B7 : Box w7 gv 63 #[vJ, vA, .int .i64 per, .int .i64 cap, .int .i64 hold, .int .i64 lock] := B6.grown hg7 (fun e => by
    obtain ⟨_, _, cur, hbox⟩ := hrow gv e.symm
    exact boxNe B6 hbox (by decide) rfl)
  have hvs : ∃ a l c, vJ = .slice a l c := by
    rcases own_form J6 with ⟨hv, _⟩ | ⟨q', cap', cur, hv, _⟩
    · exact ⟨_, _, _, hv⟩
    · exact ⟨_, _, _, hv⟩
  have k4 : Keep w7 (w7.setCell ⟨gv, 0, none⟩ v') := keep_put (B7.noInt fun z e => by
    obtain ⟨a, l, c', hv⟩ := hvs
    rw [hv] at e
    simp at e) _ _
  have k34 := k3.trans k4
  have d7 : HasDeck w7 g := d6.other fun x hx => hg7.block x (by have := o6.size; omega) (fun e => by have := (hrow x e.symm).1; omega)
  have o7 : w0.grownBy w7 (some g) := grown_on o6 hg7 (fun q hq => (hrow q hq).1)
  have A7 : w7.ownsRow w0.heap.size 66 8 vA nA csA := own_only A6 hg7 (fun q cap' hv e => by
    obtain ⟨_, _, cur, hbox⟩ := hrow q e.symm
    rcases own_form A6 with ⟨hv', _⟩ | ⟨q', cap2, cur2, hv', _, hbox2, _⟩
    · rw [hv'] at hv; cases hv
    · rw [hv'] at hv
      injection hv with hv
      injection hv with hv
      injection hv with hv
      subst hv
      exact boxNe hbox2 hbox (by decide) rfl)
  refine ⟨⟨v', vA, csJ ++ c, csA, Js ++ [d], Ags, by rw [List.length_append, h1]; rfl, h2, ?_, ?_, ?_, ?_, ?_, ?_, ?_, by omega, h11⟩, d7.far (by dsimp only; omega) _, only_far o7 hgv _⟩
  · refine own_put_far hown7 (fun q cap' hv e => ?_) _
    rcases own_form hown7 with ⟨hv', _⟩ | ⟨q', cap2, cur2, hv', _, hbox2, _⟩
    · rw [hv'] at hv; cases hv
    · rw [hv'] at hv
      injection hv with hv
      injection hv with hv
      injection hv with hv
      subst hv
      exact boxNe hbox2 B7 (by decide) e
  · exact (RJ6.mono (fun _ _ h => h.keep k34)).append (RowE.one (hd6.keep k34))
  · refine own_put_far A7 (fun q cap' hv e => ?_) _
    rcases own_form A7 with ⟨hv', _⟩ | ⟨q', cap2, cur2, hv', _, hbox2, _⟩
    · rw [hv'] at hv; cases hv
    · rw [hv'] at hv
      injection hv with hv
      injection hv with hv
      injection hv with hv
      subst hv
      exact boxNe hbox2 B7 (by decide) e
  · exact RA6.mono (fun _ _ h => h.keep k34)
  · exact B7.put_eq (by simp)
  · intro x hx
    rcases List.mem_append.1 hx with hx | hx
    · exact h8 x hx
    · rw [List.mem_singleton.1 hx]; exact hok
  · exact h9

theorem CR.addA {w0 : World} {g gv : Nat} {per cap hold lock : Int} {nJ nA : Nat} {wr w5 w7 : World} {vJ vA v' : Value} {csJ csA c : List Value} {Js : List Jd} {Ags : List Ad} {d : Ad}
    (h1 : Js.length = nJ) (h2 : Ags.length = nA) (h3 : wr.ownsRow w0.heap.size 26 3 vJ nJ csJ) (h4 : RowE (JElem0 wr) Js csJ) (h5 : wr.ownsRow w0.heap.size 66 8 vA nA csA) (h6 : RowE (AElem0 wr) Ags csA)
    (h7 : Box wr gv 63 #[vJ, vA, .int .i64 per, .int .i64 cap, .int .i64 hold, .int .i64 lock]) (h8 : ∀ d ∈ Js, jOk d = true) (h9 : ∀ d ∈ Ags, agOk d = true) (h10 : nJ = 0 → vJ = .slice none 0 0) (h11 : nA = 0 → vA = .slice none 0 0)
    (hdk : HasDeck wr g) (ho : w0.grownBy wr (some g)) (hg : g < w0.heap.size) (hgv : w0.heap.size ≤ gv) (hd : AElem0 w5 c d) (hok : agOk d = true) (hg5 : wr.grownBy w5 (some g)) (hd5 : HasDeck w5 g)
    (hg7 : (w5.alloc (.cells (List.toArray c) 66)).grownBy w7 vA.ownBlock) (hown7 : w7.ownsRow w0.heap.size 66 8 v' (nA + 1) (csA ++ c)) : CR w0 g gv per cap hold lock nJ (nA + 1) (w7.setCell ⟨gv, 1, none⟩ v') := by
  have k1 := keep_only hg5 (deck_noInt hdk)
  have hb6 : Below w5.heap.size w5 (w5.alloc (.cells (List.toArray c) 66)) := (Below.refl _ _).alloc (Nat.le_refl _) _
  have o6 : w0.grownBy (w5.alloc (.cells (List.toArray c) 66)) (some g) := only_alloc (only_trans ho hg5) _
  have d6 : HasDeck (w5.alloc (.cells (List.toArray c) 66)) g := hd5.alloc _
  have hd6 : AElem0 (w5.alloc (.cells (List.toArray c) 66)) c d := hd.keep (keep_below hb6)
  have J6 : (w5.alloc (.cells (List.toArray c) 66)).ownsRow w0.heap.size 26 3 vJ nJ csJ := own_below (own_deck h3 hg5 hg) hb6
  have A6 : (w5.alloc (.cells (List.toArray c) 66)).ownsRow w0.heap.size 66 8 vA nA csA := own_below (own_deck h5 hg5 hg) hb6
  have RJ6 := h4.mono (fun _ _ h => h.keep (k1.trans (keep_below hb6)))
  have RA6 := h6.mono (fun _ _ h => h.keep (k1.trans (keep_below hb6)))
  have B6 : Box (w5.alloc (.cells (List.toArray c) 66)) gv 63 #[vJ, vA, .int .i64 per, .int .i64 cap, .int .i64 hold, .int .i64 lock] := (h7.grown hg5 (fun e => by injection e with e; omega)).alloc _
  generalize (w5.alloc (.cells (List.toArray c) 66)) = w6 at hb6 o6 d6 hd6 J6 A6 RJ6 RA6 B6 hg7
  have hrow : ∀ q, vA.ownBlock = some q → w0.heap.size ≤ q ∧ ¬ IntBlk w6 q ∧ ∃ cur, Box w6 q 66 cur := by
    intro q hq
    rcases own_form A6 with ⟨hv, _⟩ | ⟨q', cap', cur, hv, hbq, hbox, _⟩
    · rw [hv] at hq; cases hq
    · have e : q' = q := by rw [hv] at hq; injection hq
      subst e
      have hn : 1 ≤ nA := by
        apply Classical.byContradiction
        intro hn
        have := h11 (by omega)
        rw [hv] at this; cases this
      refine ⟨hbq, ?_, cur, hbox⟩
      have h := A6
      rw [hv] at h
      exact own_noInt h (rowA_first RA6 (by omega))
  have k3 : Keep w6 w7 := by
    cases hob : vA.ownBlock with
    | none => rw [hob] at hg7; exact keep_none hg7
    | some q => rw [hob] at hg7; exact keep_only hg7 (hrow q hob).2.1
  have B7 : Box w7 gv 63 #[vJ, vA, .int .i64 per, .int .i64 cap, .int .i64 hold, .int .i64 lock] := B6.grown hg7 (fun e => by
    obtain ⟨_, _, cur, hbox⟩ := hrow gv e.symm
    exact boxNe B6 hbox (by decide) rfl)
  have hvs : ∃ a l c, vJ = .slice a l c := by
    rcases own_form J6 with ⟨hv, _⟩ | ⟨q', cap', cur, hv, _⟩
    · exact ⟨_, _, _, hv⟩
    · exact ⟨_, _, _, hv⟩
  have k4 : Keep w7 (w7.setCell ⟨gv, 1, none⟩ v') := keep_put (B7.noInt fun z e => by
    obtain ⟨a, l, c', hv⟩ := hvs
    rw [hv] at e
    simp at e) _ _
  have k34 := k3.trans k4
  have d7 : HasDeck w7 g := d6.other fun x hx => hg7.block x (by have := o6.size; omega) (fun e => by have := (hrow x e.symm).1; omega)
  have o7 : w0.grownBy w7 (some g) := grown_on o6 hg7 (fun q hq => (hrow q hq).1)
  have J7 : w7.ownsRow w0.heap.size 26 3 vJ nJ csJ := own_only J6 hg7 (fun q cap' hv e => by
    obtain ⟨_, _, cur, hbox⟩ := hrow q e.symm
    rcases own_form J6 with ⟨hv', _⟩ | ⟨q', cap2, cur2, hv', _, hbox2, _⟩
    · rw [hv'] at hv; cases hv
    · rw [hv'] at hv
      injection hv with hv
      injection hv with hv
      injection hv with hv
      subst hv
      exact boxNe hbox2 hbox (by decide) rfl)
  refine ⟨⟨vJ, v', csJ, csA ++ c, Js, Ags ++ [d], h1, by rw [List.length_append, h2]; rfl, ?_, ?_, ?_, ?_, ?_, ?_, ?_, h10, by omega⟩, d7.far (by dsimp only; omega) _, only_far o7 hgv _⟩
  · refine own_put_far J7 (fun q cap' hv e => ?_) _
    rcases own_form J7 with ⟨hv', _⟩ | ⟨q', cap2, cur2, hv', _, hbox2, _⟩
    · rw [hv'] at hv; cases hv
    · rw [hv'] at hv
      injection hv with hv
      injection hv with hv
      injection hv with hv
      subst hv
      exact boxNe hbox2 B7 (by decide) e
  · exact RJ6.mono (fun _ _ h => h.keep k34)
  · refine own_put_far hown7 (fun q cap' hv e => ?_) _
    rcases own_form hown7 with ⟨hv', _⟩ | ⟨q', cap2, cur2, hv', _, hbox2, _⟩
    · rw [hv'] at hv; cases hv
    · rw [hv'] at hv
      injection hv with hv
      injection hv with hv
      injection hv with hv
      subst hv
      exact boxNe hbox2 B7 (by decide) e
  · exact (RA6.mono (fun _ _ h => h.keep k34)).append (RowE.one (hd6.keep k34))
  · exact B7.put_eq (by simp)
  · exact h8
  · intro x hx
    rcases List.mem_append.1 hx with hx | hx
    · exact h9 x hx
    · rw [List.mem_singleton.1 hx]; exact hok

end Go.Proofs.Ytepodpdcillkmaa
