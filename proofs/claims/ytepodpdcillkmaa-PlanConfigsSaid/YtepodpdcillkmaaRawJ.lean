/- Opening a raw junction. -/
import Derived.Test.YtepodpdcillkmaaJuncs
import Derived.Deep.Slices
import Derived.Lib.SmallJoins
import Derived.ProofKit
import Derived.OpenShut
namespace Go.Proofs.Ytepodpdcillkmaa
open Go.RowKit Go.ChangeShapes Go.WideShapes
set_option linter.unusedVariables false
set_option linter.unusedSimpArgs false

theorem cells_ph : Try.prog.cellsOf 55 = 8 := by kernel_rfl
theorem cells_int : Try.prog.cellsOf 3 = 1 := by kernel_rfl

section
variable {H : Type} {enc : TypeId × Value → H} {w : World} {base : Nat} {spare : Nat → Bool} {held : Bool}
theorem trod_ph {n : Nat} {cs : List Value} {y : DataW H × List MemPlace} (h : DataW.trod enc Try.prog w base spare held n 55 cs = some y) : ∃ p : Ph, cs = p.cells := by
  obtain ⟨xs, k, rfl, _, hlen, hxl, hf⟩ := DataW.trod_struct Try.underlying55 h
  rw [cells_ph] at hlen
  match cs, hlen with
  | [c0, c1, c2, c3, c4, c5, c6, c7], _ =>
    match xs, hxl with
    | [x0, x1, x2, x3, x4, x5, x6, x7], _ =>
      have g0 := hf 0 _ rfl
      have g1 := hf 1 _ rfl
      have g2 := hf 2 _ rfl
      have g3 := hf 3 _ rfl
      have g4 := hf 4 _ rfl
      have g5 := hf 5 _ rfl
      have g6 := hf 6 _ rfl
      have g7 := hf 7 _ rfl
      simp only [cells_int, List.drop_succ_cons, List.drop_zero, List.take_succ_cons, List.take_zero, List.getElem?_cons_zero, List.getElem?_cons_succ] at g0 g1 g2 g3 g4 g5 g6 g7
      obtain ⟨n0, e0, _⟩ := DataW.trod_int Try.underlying3 g0
      obtain ⟨n1, e1, _⟩ := DataW.trod_int Try.underlying3 g1
      obtain ⟨n2, e2, _⟩ := DataW.trod_int Try.underlying3 g2
      obtain ⟨n3, e3, _⟩ := DataW.trod_int Try.underlying3 g3
      obtain ⟨n4, e4, _⟩ := DataW.trod_int Try.underlying3 g4
      obtain ⟨n5, e5, _⟩ := DataW.trod_int Try.underlying3 g5
      obtain ⟨n6, e6, _⟩ := DataW.trod_int Try.underlying3 g6
      obtain ⟨n7, e7, _⟩ := DataW.trod_int Try.underlying3 g7
      simp [cells_int] at e0 e1 e2 e3 e4 e5 e6 e7
      subst e0 e1 e2 e3 e4 e5 e6 e7
      exact ⟨⟨n0, n1, n2, n3, n4, n5, n6, n7⟩, rfl⟩
instance : Inhabited Ph := ⟨pz⟩
theorem open_phs {n : Nat} {c : Value} {y : DataW H × List MemPlace} (h : DataW.trod enc Try.prog w base spare held n 24 [c] = some y) :
    ∃ (A : Option Addr) (l cap : Nat) (P : List Ph), c = .slice A l cap ∧ P.length = l ∧ Phs w w.heap.size A P := by
  rcases Deep.open_slice Try.underlying24 h with ⟨h0, _⟩ | ⟨a, len, cap, m, n', D, Pl, hcs, hb, hl, hm, hmm, _, hx⟩
  · simp at h0
    subst h0
    exact ⟨none, 0, 0, [], rfl, rfl, fun i hi => by simp at hi⟩
  · simp at hcs
    subst hcs
    have hlm : len ≤ m := by rw [hmm]; split <;> omega
    obtain ⟨b, off, spot⟩ := a
    have hsp : 0 < len → spot = none := by
      intro h0
      obtain ⟨cs', h1, h2⟩ := hx 0 (by omega)
      rw [cells_ph] at h1
      obtain ⟨_, hlen, hcell⟩ := World.cells?_some h1
      have g0 := hcell 0 (by omega)
      rw [List.getElem?_eq_getElem (by omega)] at g0
      simp only [Deep.add_add, Nat.zero_mul, Nat.add_zero] at g0
      have e : (⟨b, off, spot⟩ : Addr).add 0 = ⟨b, off, spot⟩ := by simp [Addr.add]
      rw [e] at g0
      exact World.cell?_spot g0
    have each : ∀ i, i < len → ∃ p : Ph, b < w.heap.size ∧ spot = none ∧ PhAt w b (off + i * 8) p := by
      intro i hi
      obtain ⟨cs', h1, h2⟩ := hx i (by omega)
      rw [cells_ph] at h1
      obtain ⟨_, hlen, hcell⟩ := World.cells?_some h1
      obtain ⟨p, rfl⟩ := trod_ph h2
      have g := fun j (hj : j < 8) => hcell j hj
      simp only [Deep.add_add] at g
      have g0 := g 0 (by omega)
      have hspot : spot = none := hsp (by omega)
      subst hspot
      refine ⟨p, ?_, rfl, ?_⟩
      · have := World.block_lt_of_cell? w _ (show _ = some _ from g0)
        simpa [Addr.add_lit] using this
      · have g' := fun j (hj : j < 8) => g j hj
        simp only [Addr.add_lit, ← Nat.add_assoc] at g'
        exact ⟨g' 0 (by omega), g' 1 (by omega), g' 2 (by omega), g' 3 (by omega), g' 4 (by omega), g' 5 (by omega), g' 6 (by omega), g' 7 (by omega)⟩
    obtain ⟨f, hf⟩ := Deep.choose_lt each
    refine ⟨some ⟨b, off, spot⟩, len, cap, (List.range len).map f, rfl, by simp, fun i hi => ?_⟩
    have hi' : i < len := by simpa using hi
    obtain ⟨hb', hs, hp⟩ := hf i hi'
    subst hs
    refine ⟨b, off, rfl, hb', ?_⟩
    have e : ((List.range len).map f).getD i pz = f i := by simp [List.getD, hi']
    rw [e]; exact hp
theorem open_row {n : Nat} {c : Value} {y : DataW H × List MemPlace} (h : DataW.trod enc Try.prog w base spare held n 22 [c] = some y) :
    ∃ (A : Option Addr) (l cap : Nat) (C : List Int), c = .slice A l cap ∧ C.length = l ∧ Ints w w.heap.size A C := by
  rcases Deep.open_slice Try.underlying22 h with ⟨h0, _⟩ | ⟨a, len, cap, m, n', D, Pl, hcs, hb, hl, hm, hmm, _, hx⟩
  · simp at h0
    subst h0
    exact ⟨none, 0, 0, [], rfl, rfl, fun i hi => by simp at hi⟩
  · simp at hcs
    subst hcs
    have hlm : len ≤ m := by rw [hmm]; split <;> omega
    obtain ⟨b, off, spot⟩ := a
    have hsp : 0 < len → spot = none := by
      intro h0
      obtain ⟨cs', h1, h2⟩ := hx 0 (by omega)
      rw [cells_int] at h1
      obtain ⟨_, hlen, hcell⟩ := World.cells?_some h1
      have g0 := hcell 0 (by omega)
      rw [List.getElem?_eq_getElem (by omega)] at g0
      simp only [Deep.add_add, Nat.zero_mul, Nat.add_zero] at g0
      have e : (⟨b, off, spot⟩ : Addr).add 0 = ⟨b, off, spot⟩ := by simp [Addr.add]
      rw [e] at g0
      exact World.cell?_spot g0
    have each : ∀ i, i < len → ∃ z : Int, b < w.heap.size ∧ spot = none ∧ w.cell? ⟨b, off + i, none⟩ = some (.int .i64 z) := by
      intro i hi
      obtain ⟨cs', h1, h2⟩ := hx i (by omega)
      rw [cells_int] at h1
      obtain ⟨_, hlen, hcell⟩ := World.cells?_some h1
      obtain ⟨z, rfl, _⟩ := DataW.trod_int Try.underlying3 h2
      have g0 := hcell 0 (by omega)
      simp only [Deep.add_add, Nat.mul_one, Nat.add_zero] at g0
      have hspot : spot = none := hsp (by omega)
      subst hspot
      refine ⟨z, ?_, rfl, ?_⟩
      · have := World.block_lt_of_cell? w _ (show _ = some _ from g0)
        simpa [Addr.add_lit] using this
      · rw [Addr.add_lit] at g0; exact g0
    obtain ⟨f, hf⟩ := Deep.choose_lt each
    refine ⟨some ⟨b, off, spot⟩, len, cap, (List.range len).map f, rfl, by simp, fun i hi => ?_⟩
    have hi' : i < len := by simpa using hi
    obtain ⟨hb', hs, hp⟩ := hf i hi'
    subst hs
    refine ⟨b, off, rfl, hb', ?_⟩
    have e : ((List.range len).map f).getD i 0 = f i := by simp [List.getD, hi']
    rw [e]; exact hp
end

/-- A raw junction is three values that can be read. -/
theorem raw_junction {w : World} {v : Value} (h : Raw w 26 v) :
    ∃ A l cap A2 l2 cap2 s, v = .agg #[.slice A l cap, .slice A2 l2 cap2, .int .i64 s] ∧ ∀ n, l ≤ n → l2 ≤ n → JOut n A l cap A2 l2 cap2 s w := by
  obtain ⟨H, enc, base, d, p, hv, ht⟩ := h
  obtain ⟨c0, c1, c2, y0, y1, y2, m, rfl, rfl, rfl, h0, h1, h2⟩ := Joins.open_agg3 Try.underlying26 (by kernel_rfl) (by kernel_rfl) hv ht
  obtain ⟨A, l, cap, P, rfl, hPl, hP⟩ := open_phs h0
  obtain ⟨A2, l2, cap2, C, rfl, hCl, hC⟩ := open_row h1
  obtain ⟨s, e2, _⟩ := DataW.trod_int Try.underlying3 h2
  simp at e2
  subst e2
  exact ⟨A, l, cap, A2, l2, cap2, s, rfl, fun n a b => ⟨P, C, hPl, hCl, a, b, hP, hC⟩⟩

theorem juncs_walk (v : Value) (A : Option Addr) (len cap : Nat) (zs : List Int) (which byv : Int) (w : World) (h : Raw w 26 v) (hA : IsRow w A len cap zs) (_ : (Lit.int .i64 which).wf = true) (_ : (Lit.int .i64 byv).wf = true) :
    Calls Try.prog 10 #[v, .slice A len cap, .int .i64 which, .int .i64 byv] w fun e w' => e = .returned (.bool true) ∧ Below w.heap.size w w' := by
  obtain ⟨R, l, rcap, R2, l2, rcap2, s, rfl, hj⟩ := raw_junction h
  refine juncs_core R l rcap R2 l2 rcap2 s A len cap zs which byv w ?_ (fun a b => hj 12 a b) hA
  by_cases h1 : l ≤ 12
  · by_cases h2 : l2 ≤ 12
    · exact .inl (hj 1000000 (by omega) (by omega))
    · exact .inr (.inr (by omega))
  · exact .inr (.inl (by omega))

end Go.Proofs.Ytepodpdcillkmaa
