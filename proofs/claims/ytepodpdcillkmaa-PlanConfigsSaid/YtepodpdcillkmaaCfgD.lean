/- Opening a raw configuration and a raw agency. -/
import Derived.Test.YtepodpdcillkmaaCfgB
import Derived.Test.YtepodpdcillkmaaRawJ
namespace Go.Proofs.Ytepodpdcillkmaa
open Go.RowKit Go.ChangeShapes Go.WideShapes
set_option linter.unusedVariables false
set_option linter.unusedSimpArgs false

theorem flatRange_at {g : Nat → List Value} {k n : Nat} (hk : ∀ i, i < n → (g i).length = k) : ((List.range n).flatMap g).length = n * k ∧ ∀ i r, i < n → r < k → ((List.range n).flatMap g)[i * k + r]? = (g i)[r]? := by
  induction n with
  | zero => exact ⟨by simp, fun i r hi _ => by omega⟩
  | succ n ih =>
    obtain ⟨h1, h2⟩ := ih fun i hi => hk i (by omega)
    rw [List.range_succ, List.flatMap_append]
    have e : List.flatMap g [n] = g n := by simp
    rw [e]
    refine ⟨by rw [List.length_append, h1, hk n (by omega), Nat.succ_mul], fun i r hi hr => ?_⟩
    by_cases hin : i < n
    · have : i * k + r < n * k := by
        have : (i + 1) * k ≤ n * k := Nat.mul_le_mul_right k hin
        rw [Nat.succ_mul] at this; omega
      rw [List.getElem?_append_left (by omega), h2 i r hin hr]
    · obtain rfl : i = n := by omega
      rw [List.getElem?_append_right (by omega), h1]
      congr 1; omega
theorem rowE_range {δ : Type} {E : List Value → δ → Prop} {g : Nat → List Value} {h : Nat → δ} : ∀ (l : List Nat), (∀ i, i ∈ l → E (g i) (h i)) → RowE E (l.map h) (l.flatMap g)
  | [], _ => rfl
  | i :: l, hh => ⟨g i, l.flatMap g, by simp, hh i (by simp), rowE_range l fun j hj => hh j (by simp [hj])⟩

section
variable {H : Type} {enc : TypeId × Value → H} {w : World} {base : Nat} {spare : Nat → Bool} {held : Bool}
/-- A slice whose elements read as E's. -/
theorem open_sl {δ : Type} [Inhabited δ] {E : World → Nat → List Value → δ → Prop} {t e : TypeId} {k : Nat} (hu : Try.prog.underlying t = some (.slice e)) (hc : Try.prog.cellsOf e = k) (hk0 : 0 < k)
    (hE : ∀ (n : Nat) (cs : List Value) (y : DataW H × List MemPlace), DataW.trod enc Try.prog w base spare held n e cs = some y → cs.length = k → ∃ d, E w w.heap.size cs d)
    {n : Nat} {c : Value} {y : DataW H × List MemPlace} (h : DataW.trod enc Try.prog w base spare held n t [c] = some y) :
    ∃ ds : List δ, SlE E w w.heap.size c ds ∧ ds.length ≤ 9223372036854775807 := by
  rcases Deep.open_slice hu h with ⟨h0, _⟩ | ⟨a, len, cap, m, n', D, Pl, hcs, hb, hl, hm, hmm, _, hx⟩
  · simp at h0
    subst h0
    exact ⟨[], ⟨none, 0, [], rfl, rfl, fun _ => ⟨rfl, rfl⟩, (fun ad ha => by cases ha)⟩, by simp⟩
  · simp at hcs
    subst hcs
    have hlm : len ≤ m := by rw [hmm]; split <;> omega
    have each : ∀ i, i < len → ∃ p : List Value × δ, p.1.length = k ∧ E w w.heap.size p.1 p.2 ∧ ∀ j, j < k → w.cell? (a.add (i * k + j)) = p.1[j]? := by
      intro i hi
      obtain ⟨cs', h1, h2⟩ := hx i (by omega)
      rw [hc] at h1
      obtain ⟨_, hlen, hcell⟩ := World.cells?_some h1
      obtain ⟨d, hd⟩ := hE _ _ _ h2 hlen
      refine ⟨(cs', d), hlen, hd, fun j hj => ?_⟩
      have := hcell j hj
      simpa only [Deep.add_add] using this
    obtain ⟨f, hf⟩ := Deep.choose_lt each
    obtain ⟨q1, q2⟩ := flatRange_at (g := fun i => (f i).1) (k := k) (n := len) fun i hi => (hf i hi).1
    have hdl : ((List.range len).map fun i => (f i).2).length = len := by simp
    have hml : maxLen = 9223372036854775807 := rfl
    refine ⟨(List.range len).map fun i => (f i).2, ⟨some a, cap, (List.range len).flatMap fun i => (f i).1, by rw [hdl], rowE_range _ fun i hi => (hf i (List.mem_range.1 hi)).2.1, (fun e => by cases e), fun ad ha j u hu => ?_⟩, by rw [hdl]; omega⟩
    injection ha with ha
    subst ha
    obtain ⟨hj, _⟩ := List.getElem?_eq_some_iff.1 hu
    rw [q1] at hj
    have hi : j / k < len := (Nat.div_lt_iff_lt_mul hk0).2 hj
    have hr : j % k < k := Nat.mod_lt _ hk0
    have hjk : j / k * k + j % k = j := by rw [Nat.mul_comm]; exact Nat.div_add_mod j k
    have e1 := q2 (j / k) (j % k) hi hr
    rw [hjk] at e1
    have e2 := (hf _ hi).2.2 (j % k) hr
    rw [hjk] at e2
    have e3 : w.cell? (a.add j) = some u := by rw [e2, ← e1, hu]
    refine ⟨?_, e3⟩
    have hlt := World.block_lt_of_cell? w _ e3
    have hbk : (a.add j).block = a.block := by unfold Addr.add; split <;> rfl
    rw [hbk] at hlt
    exact hlt
instance : Inhabited Jd := ⟨⟨[], [], 0⟩⟩
instance : Inhabited Ad := ⟨⟨0, 0, 0, [], 0, 0, 0, 0⟩⟩
theorem cells_sl24 : Try.prog.cellsOf 24 = 1 := by kernel_rfl
theorem cells_sl22 : Try.prog.cellsOf 22 = 1 := by kernel_rfl
theorem cells_sl64 : Try.prog.cellsOf 64 = 1 := by kernel_rfl
theorem cells_jn : Try.prog.cellsOf 26 = 3 := by kernel_rfl
theorem cells_ag : Try.prog.cellsOf 66 = 8 := by kernel_rfl
theorem slice_len_le {t e : TypeId} (hu : Try.prog.underlying t = some (.slice e)) {n : Nat} {c : Value} {y : DataW H × List MemPlace} (h : DataW.trod enc Try.prog w base spare held n t [c] = some y) : ∃ (A : Option Addr) (l cap : Nat), c = .slice A l cap ∧ l ≤ 9223372036854775807 := by
  rcases Deep.open_slice hu h with ⟨h0, _⟩ | ⟨a, len, cap, m, n', D, Pl, hcs, hb, hl, hm, hmm, _, hx⟩
  · simp at h0
    subst h0
    exact ⟨none, 0, 0, rfl, by simp⟩
  · simp at hcs
    subst hcs
    have hlm : len ≤ m := by rw [hmm]; split <;> omega
    have hml : maxLen = 9223372036854775807 := rfl
    exact ⟨_, _, _, rfl, by omega⟩
theorem open_phs_le {n : Nat} {c : Value} {y : DataW H × List MemPlace} (h : DataW.trod enc Try.prog w base spare held n 24 [c] = some y) :
    ∃ (A : Option Addr) (l cap : Nat) (P : List Ph), c = .slice A l cap ∧ P.length = l ∧ Phs w w.heap.size A P ∧ P.length ≤ 9223372036854775807 := by
  obtain ⟨A, l, cap, P, e, h1, h2⟩ := open_phs h
  obtain ⟨A', l', cap', e', h3⟩ := slice_len_le Try.underlying24 h
  rw [e] at e'
  injection e' with _ e' _
  exact ⟨A, l, cap, P, e, h1, h2, by omega⟩
theorem open_row_le {n : Nat} {c : Value} {y : DataW H × List MemPlace} (h : DataW.trod enc Try.prog w base spare held n 22 [c] = some y) :
    ∃ (A : Option Addr) (l cap : Nat) (C : List Int), c = .slice A l cap ∧ C.length = l ∧ Ints w w.heap.size A C ∧ C.length ≤ 9223372036854775807 := by
  obtain ⟨A, l, cap, P, e, h1, h2⟩ := open_row h
  obtain ⟨A', l', cap', e', h3⟩ := slice_len_le Try.underlying22 h
  rw [e] at e'
  injection e' with _ e' _
  exact ⟨A, l, cap, P, e, h1, h2, by omega⟩
theorem trod_jn (n : Nat) (cs : List Value) (y : DataW H × List MemPlace) (h : DataW.trod enc Try.prog w base spare held n 26 cs = some y) (hl : cs.length = 3) : ∃ d, JElem 9223372036854775807 w w.heap.size cs d := by
  obtain ⟨xs, k, rfl, _, hlen, hxl, hf⟩ := DataW.trod_struct Try.underlying26 h
  match cs, hl with
  | [c0, c1, c2], _ =>
    match xs, hxl with
    | [x0, x1, x2], _ =>
      have g0 := hf 0 _ rfl
      have g1 := hf 1 _ rfl
      have g2 := hf 2 _ rfl
      simp only [cells_int, cells_sl24, cells_sl22, List.drop_succ_cons, List.drop_zero, List.take_succ_cons, List.take_zero, List.getElem?_cons_zero, List.getElem?_cons_succ] at g0 g1 g2
      obtain ⟨A, l, cap, P, rfl, hPl, hP, hl1⟩ := open_phs_le g0
      obtain ⟨A2, l2, cap2, C, rfl, hCl, hC, hl2⟩ := open_row_le g1
      obtain ⟨s, e2, _⟩ := DataW.trod_int Try.underlying3 g2
      simp [cells_int] at e2
      subst e2 hPl hCl
      exact ⟨⟨P, C, s⟩, A, cap, A2, cap2, rfl, hP, hC, hl1, hl2⟩
theorem trod_ag (n : Nat) (cs : List Value) (y : DataW H × List MemPlace) (h : DataW.trod enc Try.prog w base spare held n 66 cs = some y) (hl : cs.length = 8) : ∃ d, AElem 9223372036854775807 w w.heap.size cs d := by
  obtain ⟨xs, k, rfl, _, hlen, hxl, hf⟩ := DataW.trod_struct Try.underlying66 h
  match cs, hl with
  | [c0, c1, c2, c3, c4, c5, c6, c7], _ =>
    match xs, hxl with
    | [x0, x1, x2, x3, x4, x5, x6, x7], _ =>
      have g0 := hf 0 _ rfl
      have g1 := hf 1 _ rfl
      have g2 := hf 2 _ rfl
      have g3 := hf 3 _ rfl
      have g4 := hf 4 _ rfl
      have g5 := hf 5 _ rfl
      have g6 := hf 6 _ rfl
      have g7 := hf 7 _ rfl
      simp only [cells_int, cells_sl64, cells_sl22, List.drop_succ_cons, List.drop_zero, List.take_succ_cons, List.take_zero, List.getElem?_cons_zero, List.getElem?_cons_succ] at g0 g1 g2 g3 g4 g5 g6 g7
      obtain ⟨A, l, cap, rfl, hl1⟩ := slice_len_le Try.underlying64 g0
      obtain ⟨A2, l2, cap2, C, rfl, hCl, hC, hl2⟩ := open_row_le g3
      obtain ⟨n1, e1, _⟩ := DataW.trod_int Try.underlying3 g1
      obtain ⟨n2, e2, _⟩ := DataW.trod_int Try.underlying3 g2
      obtain ⟨n4, e4, _⟩ := DataW.trod_int Try.underlying3 g4
      obtain ⟨n5, e5, _⟩ := DataW.trod_int Try.underlying3 g5
      obtain ⟨n6, e6, _⟩ := DataW.trod_int Try.underlying3 g6
      obtain ⟨n7, e7, _⟩ := DataW.trod_int Try.underlying3 g7
      simp [cells_int] at e1 e2 e4 e5 e6 e7
      subst e1 e2 e4 e5 e6 e7 hCl
      exact ⟨⟨l, n1, n2, C, n4, n5, n6, n7⟩, A, cap, A2, cap2, rfl, hC, hl2, hl1⟩
end
/-- A raw agency. -/
theorem raw_ag {w : World} {v : Value} (h : Raw w 66 v) : ∃ c d, v = .agg (List.toArray c) ∧ AElem 9223372036854775807 w w.heap.size c d := by
  obtain ⟨H, enc, base, d, p, hv, n, ht⟩ := h
  obtain ⟨cs, rfl, hsz⟩ := okWide_struct Try.underlying66 hv
  obtain ⟨l⟩ := cs
  rw [cells_ag] at hsz
  obtain ⟨d', hd⟩ := trod_ag n l (d, p) (by simpa [Value.cells] using ht) (by simpa using hsz)
  exact ⟨l, d', rfl, hd⟩
/-- A raw configuration. -/
theorem raw_cfg {w : World} {v : Value} (h : Raw w 63 v) : ∃ (vJ vA : Value) (Js : List Jd) (Ags : List Ad) (per cap hold lock : Int), v = .agg #[vJ, vA, .int .i64 per, .int .i64 cap, .int .i64 hold, .int .i64 lock] ∧
    SlE (JElem 9223372036854775807) w w.heap.size vJ Js ∧ Js.length ≤ 9223372036854775807 ∧ SlE (AElem 9223372036854775807) w w.heap.size vA Ags ∧ Ags.length ≤ 9223372036854775807 := by
  obtain ⟨H, enc, base, d, p, hv, n, ht⟩ := h
  obtain ⟨cs, rfl, hsz⟩ := okWide_struct Try.underlying63 hv
  obtain ⟨l⟩ := cs
  have hc6 : Try.prog.cellsOf 63 = 6 := by kernel_rfl
  have hcJ : Try.prog.cellsOf 57 = 1 := by kernel_rfl
  have hcA : Try.prog.cellsOf 61 = 1 := by kernel_rfl
  rw [hc6] at hsz
  have hl6 : l.length = 6 := by simpa using hsz
  have ht' : DataW.trod enc Try.prog w 0 (fun _ => true) true n 63 l = some (d, p) := by simpa [Value.cells] using ht
  obtain ⟨xs, k, hk, _, hlen, hxl, hf⟩ := DataW.trod_struct Try.underlying63 ht'
  match l, hl6 with
  | [c0, c1, c2, c3, c4, c5], _ =>
    match xs, hxl with
    | [x0, x1, x2, x3, x4, x5], _ =>
      have g0 := hf 0 _ rfl
      have g1 := hf 1 _ rfl
      have g2 := hf 2 _ rfl
      have g3 := hf 3 _ rfl
      have g4 := hf 4 _ rfl
      have g5 := hf 5 _ rfl
      simp only [cells_int, hcJ, hcA, List.drop_succ_cons, List.drop_zero, List.take_succ_cons, List.take_zero, List.getElem?_cons_zero, List.getElem?_cons_succ] at g0 g1 g2 g3 g4 g5
      obtain ⟨Js, hJ, hJl⟩ := open_sl (E := JElem 9223372036854775807) Try.underlying57 cells_jn (by decide) trod_jn g0
      obtain ⟨Ags, hA, hAl⟩ := open_sl (E := AElem 9223372036854775807) Try.underlying61 cells_ag (by decide) trod_ag g1
      obtain ⟨n2, e2, _⟩ := DataW.trod_int Try.underlying3 g2
      obtain ⟨n3, e3, _⟩ := DataW.trod_int Try.underlying3 g3
      obtain ⟨n4, e4, _⟩ := DataW.trod_int Try.underlying3 g4
      obtain ⟨n5, e5, _⟩ := DataW.trod_int Try.underlying3 g5
      simp [cells_int] at e2 e3 e4 e5
      subst e2 e3 e4 e5
      exact ⟨c0, c1, Js, Ags, n2, n3, n4, n5, rfl, hJ, hJl, hA, hAl⟩

end Go.Proofs.Ytepodpdcillkmaa
