/- Controls (the reference's layer 9): what stands in memory, what is kept; after, enter. -/
import Derived.Test.YtepodpdcillkmaaOf
import Derived.Test.YtepodpdcillkmaaMon
namespace Go.Proofs.Ytepodpdcillkmaa
open Go.RowKit
set_option linter.unusedVariables false
set_option linter.unusedSimpArgs false

/-- A light: its lamp, its ticks. -/
structure Lt where
  m : Int
  t : Int
def lz : Lt := ⟨0, 0⟩
def lcells (L : List Lt) : List Value := L.flatMap fun l => [.int .i64 l.m, .int .i64 l.t]
theorem lcells_length (L : List Lt) : (lcells L).length = L.length * 2 := by
  induction L with
  | nil => rfl
  | cons l L ih => simp only [lcells, List.flatMap_cons, List.length_append, List.length_cons, List.length_nil] at ih ⊢; omega
theorem lcells_one (L : List Lt) : ∀ u ∈ lcells L, u.oneCell' = true := by
  intro u hu
  simp only [lcells, List.mem_flatMap] at hu
  obtain ⟨l, _, hu⟩ := hu
  simp at hu
  rcases hu with rfl | rfl <;> rfl
theorem lcells_at (L : List Lt) (i : Nat) (hi : i < L.length) : (lcells L)[i * 2]? = some (.int .i64 (L.getD i lz).m) ∧ (lcells L)[i * 2 + 1]? = some (.int .i64 (L.getD i lz).t) := by
  induction L generalizing i with
  | nil => simp at hi
  | cons l L ih =>
    cases i with
    | zero => exact ⟨rfl, rfl⟩
    | succ i =>
      have := ih i (by simpa using hi)
      have e : (i + 1) * 2 = i * 2 + 1 + 1 := by omega
      simp only [lcells, List.flatMap_cons] at this ⊢
      rw [e]
      exact this

/-- The slice value '.slice A L.length cap' reads as the lights L, below block B. -/
def Lts (w : World) (B : Nat) (A : Option Addr) (L : List Lt) : Prop :=
  ∀ i, i < L.length → ∃ b off, A = some ⟨b, off, none⟩ ∧ b < B ∧ w.cell? ⟨b, off + i * 2, none⟩ = some (.int .i64 (L.getD i lz).m) ∧ w.cell? ⟨b, off + i * 2 + 1, none⟩ = some (.int .i64 (L.getD i lz).t)
theorem Lts.below {w w' : World} {B : Nat} {A : Option Addr} {L : List Lt} (h : Lts w B A L) (hb : Below B w w') : Lts w' B A L := fun i hi => by
  obtain ⟨b, off, e, hlt, h0, h1⟩ := h i hi
  exact ⟨b, off, e, hlt, (hb.cell (p := ⟨b, off + i * 2, none⟩) hlt).trans h0, (hb.cell (p := ⟨b, off + i * 2 + 1, none⟩) hlt).trans h1⟩
theorem Lts.more {w : World} {B B' : Nat} {A : Option Addr} {L : List Lt} (h : Lts w B A L) (hB : B ≤ B') : Lts w B' A L := fun i hi => by
  obtain ⟨b, off, e, hlt, h0, h1⟩ := h i hi
  exact ⟨b, off, e, by omega, h0, h1⟩

/-- Block g holds the lights L at its start. -/
def RowL (w : World) (g : Nat) (L : List Lt) : Prop := ∃ cur : Array Value, Box w g 38 cur ∧ ∀ i, i < L.length → cur[i * 2]? = some (.int .i64 (L.getD i lz).m) ∧ cur[i * 2 + 1]? = some (.int .i64 (L.getD i lz).t)
section
variable {w w' : World} {g B : Nat} {L : List Lt}
theorem RowL.lt (h : RowL w g L) : g < w.heap.size := by obtain ⟨_, hb, _⟩ := h; exact hb.lt
theorem RowL.cell0 (h : RowL w g L) {i : Nat} (hi : i < L.length) : w.cell? ⟨g, i * 2, none⟩ = some (.int .i64 (L.getD i lz).m) := by
  obtain ⟨cur, hb, hc⟩ := h
  exact (hb.cell _).trans (hc i hi).1
theorem RowL.cell1 (h : RowL w g L) {i : Nat} (hi : i < L.length) : w.cell? ⟨g, i * 2 + 1, none⟩ = some (.int .i64 (L.getD i lz).t) := by
  obtain ⟨cur, hb, hc⟩ := h
  exact (hb.cell _).trans (hc i hi).2
theorem RowL.frozen (h : RowL w g L) (o : Nat) : w.frozen? ⟨g, o, none⟩ = false := by
  obtain ⟨cur, hb, hc⟩ := h
  exact hb.frozen o
theorem RowL.far (h : RowL w g L) {p : Addr} (hp : g ≠ p.block) (u : Value) : RowL (w.setCell p u) g L := by
  obtain ⟨cur, hb, hc⟩ := h
  exact ⟨cur, hb.far hp u, hc⟩
theorem RowL.below (h : RowL w g L) (hb : Below B w w') (hg : g < B) : RowL w' g L := by
  obtain ⟨cur, h1, hc⟩ := h
  exact ⟨cur, h1.below hb hg, hc⟩
theorem RowL.grown {row : Option Nat} (h : RowL w g L) (hb : w.grownBy w' row) (hg : some g ≠ row) : RowL w' g L := by
  obtain ⟨cur, h1, hc⟩ := h
  exact ⟨cur, h1.grown hb hg, hc⟩
theorem RowL.lts (h : RowL w g L) (hB : g < B) : Lts w B (some ⟨g, 0, none⟩) L := fun i hi => by
  refine ⟨g, 0, rfl, hB, ?_, ?_⟩
  · rw [Nat.zero_add]; exact h.cell0 hi
  · rw [Nat.zero_add]; exact h.cell1 hi
theorem RowL.put (h : RowL w g L) (k : Nat) (hk : k < L.length) (m t : Int) : RowL ((w.setCell ⟨g, k * 2, none⟩ (.int .i64 m)).setCell ⟨g, k * 2 + 1, none⟩ (.int .i64 t)) g (L.set k ⟨m, t⟩) := by
  obtain ⟨cur, hb, hc⟩ := h
  refine ⟨_, (hb.put _ _).put _ _, fun i hi => ?_⟩
  rw [List.length_set] at hi
  have e := hc i hi
  have e' := hc k hk
  have hs : ∀ (o : Nat) (v : Value), cur[o]? = some v → o < cur.size := fun o v hv => by
    apply Classical.byContradiction
    intro hge
    rw [Array.getElem?_eq_none (by omega)] at hv
    cases hv
  have s0 := hs _ _ e'.1
  have s1 := hs _ _ e'.2
  simp only [Array.getElem?_setIfInBounds, Array.size_setIfInBounds]
  by_cases hki : k = i
  · subst hki
    rw [if_neg (by omega), if_pos rfl, if_pos s0, if_pos rfl, if_pos s1]
    simp [List.getD, hi]
  · rw [if_neg (by omega), if_neg (by omega), if_neg (by omega), if_neg (by omega)]
    have : (L.set k ⟨m, t⟩).getD i lz = L.getD i lz := by simp [List.getD, hki, List.getElem?_set]
    rw [this]
    exact e
end
theorem RowI.grown {w w' : World} {g : Nat} {l : List Int} {row : Option Nat} (h : RowI w g l) (hb : w.grownBy w' row) (hg : some g ≠ row) : RowI w' g l := by
  obtain ⟨cur, h1, hc⟩ := h
  exact ⟨cur, h1.grown hb hg, hc⟩

/-- A control that a variable in block gc holds; its rows lie at B or above. -/
def CtlAt (w : World) (B gc n : Nat) (L : List Lt) (gr : Int) (N : List Int) (wt : Int) : Prop :=
  ∃ gl cl gn cn, Box w gc 35 #[.slice (some ⟨gl, 0, none⟩) n cl, .int .i64 gr, .slice (some ⟨gn, 0, none⟩) 2 cn, .int .i64 wt] ∧ RowL w gl L ∧ RowI w gn N ∧ B ≤ gc ∧ B ≤ gl ∧ B ≤ gn ∧ n ≤ cl ∧ 2 ≤ cn
theorem Box.differ {w : World} {g g' : Nat} {t t' : TypeId} {cs cs' : Array Value} (h : Box w g t cs) (h' : Box w g' t' cs') (ht : t ≠ t') : g ≠ g' := by
  rintro rfl
  have e : some (Obj.cells cs t (0, 0)) = some (Obj.cells cs' t' (0, 0)) := h.symm.trans h'
  injection e with e
  injection e with _ e
  exact ht e

theorem own_cap {w : World} {base g n n' cap : Nat} {e : TypeId} {size : Nat} {xs : List Value} (h : w.ownsRow base e size (.slice (some ⟨g, 0, none⟩) n cap) n' xs) : n' ≤ cap := by
  obtain ⟨_, h2⟩ := h
  rcases h2 with ⟨hv, _⟩ | ⟨g', cap', cur, hv, _, _, hle, _⟩
  · cases hv
  · injection hv with _ _ e2
    omega

/-- What 'after' answers: no phase, or one of the ring in the group. -/
def AfterOk (P : List Ph) (r g v : Int) : Prop := v = -1 ∨ ∃ i : Nat, i < P.length ∧ v = (i : Int) ∧ (P.getD i pz).r = r ∧ (P.getD i pz).g = g
theorem ofTo_mem {P : List Ph} {r g z : Int} {k : Nat} (h : z ∈ ofTo P r g k) : ∃ i : Nat, i < k ∧ z = (i : Int) ∧ (P.getD i pz).r = r ∧ (P.getD i pz).g = g := by
  simp only [ofTo, List.mem_map, List.mem_filter, List.mem_range, Bool.and_eq_true, beq_iff_eq] at h
  obtain ⟨i, ⟨h1, h2, h3⟩, rfl⟩ := h
  exact ⟨i, h1, rfl, h2, h3⟩
theorem ofTo_at {P : List Ph} {r g : Int} (hm : P.length ≤ 1000) {k : Nat} (hk : k < (ofTo P r g P.length).length) : AfterOk P r g ((ofTo P r g P.length).getD k 0) := by
  have : (ofTo P r g P.length).getD k 0 ∈ ofTo P r g P.length := by rw [List.getD, List.getElem?_eq_getElem hk]; exact List.getElem_mem _
  obtain ⟨i, h1, h2, h3, h4⟩ := ofTo_mem this
  exact .inr ⟨i, h1, h2, h3, h4⟩

set_option maxRecDepth 100000 in
set_option maxHeartbeats 2000000 in
theorem after_any (A A2 : Option Addr) (cap n2 cap2 : Nat) (P : List Ph) (s r g p : Int) (w : World) (hA : Phs w w.heap.size A P) (hm : P.length ≤ 1000) :
    Calls Try.prog 68 #[.agg #[.slice A P.length cap, .slice A2 n2 cap2, .int .i64 s], .int .i64 r, .int .i64 g, .int .i64 p] w fun e w' => ∃ v, e = .returned (.int .i64 v) ∧ AfterOk P r g v ∧ Below w.heap.size w w' := by
  have HA := Lib.hid hA
  clear hA
  go_enter Try.func68, Try.ntmps68
  go_wp2_with fail
  have hW : Below w.heap.size w (w.alloc (.cells #[.slice A P.length cap, .slice A2 n2 cap2, .int .i64 s] 26)) := (Below.refl _ _).alloc (Nat.le_refl _) _
  refine (rof_any A A2 cap n2 cap2 P s r g _ ((HA.out.below hW).more hW.size) hm).mono ?_; rintro e w1 ⟨A', cap', rfl, hI, hb⟩
  have hW1 : Hid (Below w.heap.size w w1) := hW.trans (hb.mono hW.size)
  have hIH := Lib.hid hI
  have hz1 := hW1.out.size
  have hol := ofTo_len P r g P.length
  have hokH : Hid (∀ k, k < (ofTo P r g P.length).length → AfterOk P r g ((ofTo P r g P.length).getD k 0)) := Lib.hid fun k hk => ofTo_at hm hk
  generalize ofTo P r g P.length = l at hIH hol hokH
  clear hW hI hb
  go_wp2_with fail
  go_loopw [16] (fun v16 wr => ∃ k : Nat, k ≤ l.length ∧ v16 = .int .i64 k ∧ w1 = wr) (fun v16 _ => l.length - (intOf v16).toNat)
  case atStart => exact ⟨0, by omega, rfl, by first | rfl | trivial⟩
  case round =>
    obtain ⟨k, hk, rfl, rfl⟩ := hrel
    by_cases hlt : k < l.length
    · have hkl : (k : Int) < (l.length : Int) := by omega
      obtain ⟨b, off, rfl, hbl, hc⟩ := hIH.out k hlt
      have hok := Lib.hid (hokH.out k hlt)
      generalize l.getD k 0 = z at hc hok
      by_cases hz : p < z
      · go_wp2_with fail
        go_ret
        exact ⟨z, rfl, hok.out, hW1.out⟩
      · have hz' : ¬ p < z := hz
        go_wp2_with fail
        go_roundw
        case rel => exact ⟨k + 1, by omega, by go_num, by first | rfl | trivial⟩
        case measure => simp [intOf]; omega
    · have hkl : ¬ (k : Int) < (l.length : Int) := by omega
      go_wp2_with fail
      go_ret
      exact ⟨-1, rfl, .inl rfl, hW1.out⟩

/-- What 'enter' leaves. -/
def NextOk (P : List Ph) (g : Int) (N : List Int) : Prop := N.length = 2 ∧ AfterOk P 0 g (N.getD 0 0) ∧ AfterOk P 1 g (N.getD 1 0)
def EnterPost (P : List Ph) (g : Int) (gl n cl : Nat) (wt : Int) (gc : Nat) (w : World) (e : Ending) (w' : World) : Prop :=
  e = .returned (.tuple #[]) ∧ ∃ gn cn' N, Box w' gc 35 #[.slice (some ⟨gl, 0, none⟩) n cl, .int .i64 g, .slice (some ⟨gn, 0, none⟩) 2 cn', .int .i64 wt] ∧ RowI w' gn N ∧ NextOk P g N ∧ w.heap.size ≤ gn ∧ 2 ≤ cn' ∧ w.grownBy w' (some gc)

set_option maxRecDepth 100000 in
set_option maxHeartbeats 2000000 in
theorem enter_any (A A2 : Option Addr) (cap n2 cap2 : Nat) (P : List Ph) (s g : Int) (gc n gl cl cn : Nat) (A3 : Option Addr) (m : Nat) (gr wt : Int) (w : World) (hA : Phs w w.heap.size A P) (hm : P.length ≤ 1000)
    (hc : Box w gc 35 #[.slice (some ⟨gl, 0, none⟩) n cl, .int .i64 gr, .slice A3 m cn, .int .i64 wt]) :
    Calls Try.prog 62 #[.agg #[.slice A P.length cap, .slice A2 n2 cap2, .int .i64 s], .pointer (some ⟨gc, 0, none⟩), .int .i64 g] w
      fun e w' => EnterPost P g gl n cl wt gc w e w' := by
  have HA := Lib.hid hA
  have HC := Lib.hid hc
  have hgz := hc.lt
  clear hA hc
  go_enter Try.func62, Try.ntmps62
  go_wp2_with fail
  have hW : Below w.heap.size w (w.alloc (.cells #[.slice A P.length cap, .slice A2 n2 cap2, .int .i64 s] 26)) := (Below.refl _ _).alloc (Nat.le_refl _) _
  have hBJ : Hid (Box (w.alloc (.cells #[.slice A P.length cap, .slice A2 n2 cap2, .int .i64 s] 26)) w.heap.size 26 #[.slice A P.length cap, .slice A2 n2 cap2, .int .i64 s]) := Box.new _ _ _
  have hWz : (w.alloc (.cells #[.slice A P.length cap, .slice A2 n2 cap2, .int .i64 s] 26)).heap.size = w.heap.size + 1 := World.size_alloc _ _
  generalize (w.alloc (.cells #[.slice A P.length cap, .slice A2 n2 cap2, .int .i64 s] 26)) = W at hW hBJ hWz ⊢
  have hWH := Lib.hid hW
  have hWz1 : w.heap.size + 1 ≤ W.heap.size := by omega
  have hWz2 : W.heap.size ≤ w.heap.size + 1 := by omega
  obtain ⟨i0, hi0, hz0, hz10, hz20⟩ := info_parts int_info
  clear hW hWz
  go_loopw [6, 8] (fun v6 v8 wr => ∃ (k : Nat) (N : List Int), k ≤ 2 ∧ v8 = .int .i64 k ∧ N.length = k ∧ wr.ownsRow (w.heap.size + 1) 3 1 v6 N.length (N.map (Value.int .i64)) ∧ (∀ i : Nat, i < N.length → AfterOk P i g (N.getD i 0)) ∧ Below (w.heap.size + 1) W wr) (fun _ v8 _ => 2 - (intOf v8).toNat)
  case atStart => exact ⟨0, [], by omega, rfl, rfl, World.ownsRow_nil _ _ _ _, by simp, Below.refl _ _⟩
  case round =>
    obtain ⟨k, N, hk, rfl, hNl, hown, hok, hb⟩ := hrel
    have hownH := Lib.hid hown
    have hokH := Lib.hid hok
    have hNlH := Lib.hid hNl
    have hbH := Lib.hid hb
    have hz := hb.size
    clear hown hok hNl hb
    by_cases hk2 : k < 2
    · have hki : (k : Int) < 2 := by omega
      have hbx := hBJ.out.below hbH.out (by omega)
      have j0 := hbx.cell 0
      have j1 := hbx.cell 1
      have j2 := hbx.cell 2
      simp at j0 j1 j2
      have jz := hbx.lt
      clear hbx
      go_wp2_with fail
      have hPr : Hid (Phs wr wr.heap.size A P) := Lib.hid ((HA.out.below (hWH.out.trans (hbH.out.mono (by omega)))).more (by omega))
      refine (after_any A A2 cap n2 cap2 P s k g (-1) wr hPr.out hm).mono ?_; rintro e w2 ⟨v, rfl, hv, hb2⟩
      have hvH := Lib.hid hv
      have hb2H : Hid (Below (w.heap.size + 1) W w2) := hbH.out.trans (hb2.mono (by omega))
      have hown2 : Hid (w2.ownsRow (w.heap.size + 1) 3 1 _ N.length (N.map (Value.int .i64))) := Lib.hid (own_below hownH.out hb2)
      have hz2 := hb2.size
      have hN1 : N.length < 2 := by have := hNlH.out; omega
      clear hv hb2 j0 j1 j2 jz hownH
      have hnews : ∀ (W2 : World) (M : Nat), W2.heap.size = M → ∀ j u, [Value.int .i64 v][j]? = some u → (W2.alloc (.cells #[.int .i64 v] 3)).cell? ((⟨M, 0, none⟩ : Addr).add j) = some u := by
        intro W2 M e j u hu
        subst e
        exact news_new W2 [.int .i64 v] 3 j u hu
      have hnewsH := Lib.hid hnews
      clear hnews
      go_wp2_with (at_builtin; refine wpList_append_own _ rfl (.tmp 11) (.tmp 16) 22 rfl (w.heap.size + 1) 3 i0 (.int .i64 0) 1 8 Try.underlying22 hi0 hz0 hz10 hz20 rfl (by decide) _ _ _ rfl (hown2.out.alloc _) ⟨w2.heap.size, 0, none⟩ 1 1 [.int .i64 v] rfl rfl ?c1 ?c2 ?c3 ?c4 ?c5 ?_)
      case c1 => exact hnewsH.out _ _ rfl
      case c2 => intro u hu; simp at hu; subst hu; rfl
      case c3 => unfold maxLen; omega
      case c4 => omega
      case c5 => simp; omega
      intro v2 w5 hown5 hg5 _
      have hbG : Hid (Below (w.heap.size + 1) W w5) := Below.grown (hb2H.out.alloc (by omega) _) hg5 (by simp; omega) (fun q hq => (hown2.out.lt q hq).1)
      have hown5H : Hid (w5.ownsRow (w.heap.size + 1) 3 1 v2 (N ++ [v]).length ((N ++ [v]).map (Value.int .i64))) := Lib.hid (by rw [List.length_append, List.map_append]; exact hown5)
      clear hown5 hg5
      go_wp2_with fail
      go_roundw
      case rel =>
        refine ⟨k + 1, N ++ [v], by omega, by go_num, by rw [List.length_append, hNlH.out]; rfl, hown5H.out, fun i hi => ?_, hbG.out⟩
        rw [List.length_append] at hi
        by_cases h : i < N.length
        · have := hokH.out i h
          rw [show (N ++ [v]).getD i 0 = N.getD i 0 by simp only [List.getD, List.getElem?_append_left h]]
          exact this
        · obtain rfl : i = N.length := by simp at hi; omega
          rw [show (N ++ [v]).getD N.length 0 = v by simp [List.getD]]
          rw [hNlH.out]
          exact hvH.out
      case measure => simp [intOf]; omega
    · have hki : ¬ (k : Int) < 2 := by omega
      obtain rfl : k = 2 := by omega
      obtain ⟨gn, cn', hv⟩ := Joins.ownsRow_form hownH.out (by rw [hNlH.out]; omega)
      subst hv
      have hgn := (hownH.out.lt gn rfl)
      have hcap : Hid (2 ≤ cn') := Lib.hid (by have := own_cap hownH.out; rw [hNlH.out] at this; exact this)
      have hRI : Hid (RowI wr gn N) := Lib.hid (rowI_of_own hownH.out rfl)
      obtain ⟨na, nb, rfl⟩ : ∃ a b, N = [a, b] := by
        have := hNlH.out
        match N, this with
        | [a, b], _ => exact ⟨a, b, rfl⟩
      have hNOk : Hid (NextOk P g [na, nb]) := Lib.hid ⟨rfl, hokH.out 0 (by simp), hokH.out 1 (by simp)⟩
      have hCr : Hid (Box wr gc 35 _) := Lib.hid ((HC.out.below hWH.out hgz).below hbH.out (by omega))
      have f1 := hCr.out.frozen 1
      have f2 := hCr.out.frozen 2
      have z1 := hCr.out.cell 1
      have z2 := hCr.out.cell 2
      have z3 := hCr.out.lt
      simp at z1 z2
      have hbF : Hid (Below w.heap.size w wr) := hWH.out.trans (hbH.out.mono (by omega))
      have hne : gn ≠ gc := by omega
      go_wp2_with fail
      refine bodyPost_end (results_none rfl _ _ _) rfl ?_
      exact ⟨rfl, gn, cn', [na, nb], (hCr.out.put 1 _).put_eq (i := 2) (by simp), (hRI.out.far hne _).far hne _, hNOk.out, by omega, hcap.out, only_put (only_put ⟨hbF.out.os, hbF.out.tape, hbF.out.output, hbF.out.size, fun q hq _ => hbF.out.block q hq⟩ 1 _) 2 _⟩

end Go.Proofs.Ytepodpdcillkmaa
