/- Small lemmas on worlds: a block that is known whole, what is kept below a block number. -/
import Derived.Test.YtepodpdcillkmaaRows
import Derived.WalkKit
import Derived.WalkSpells
import Derived.WalkLawsBesides
import Derived.Lib.Hide
import Derived.Handy
import Derived.Deep.Light
import Derived.Deep.RegionHeld3
import Derived.OpenShut
namespace Go.Proofs.Ytepodpdcillkmaa
open Go.RowKit

/-- Block g of w is the row cs of cells of type t; nothing of it is frozen. -/
def Box (w : World) (g : Nat) (t : TypeId) (cs : Array Value) : Prop := w.heap[g]? = some (.cells cs t (0, 0))

section
variable {w w' : World} {g : Nat} {t : TypeId} {cs : Array Value}
theorem Box.lt (h : Box w g t cs) : g < w.heap.size := by
  apply Classical.byContradiction
  intro hge
  unfold Box at h
  rw [Array.getElem?_eq_none (by omega)] at h
  cases h
theorem Box.cell (h : Box w g t cs) (i : Nat) : w.cell? ⟨g, i, none⟩ = cs[i]? := cell_of_row w g i cs t (0, 0) h
theorem Box.frozen (h : Box w g t cs) (i : Nat) : w.frozen? ⟨g, i, none⟩ = false := by
  unfold Box at h
  simp [World.frozen?, h]
theorem Box.new (w : World) (t : TypeId) (cs : Array Value) : Box (w.alloc (.cells cs t)) w.heap.size t cs := heap_alloc_new w _
theorem Box.drew (h : Box w g t cs) : Box w.drew g t cs := h
theorem Box.alloc (h : Box w g t cs) (o : Obj) : Box (w.alloc o) g t cs := (Below.heap_alloc w o g h.lt).trans h
theorem boxNew2 (w : World) (o : Obj) (t : TypeId) (cs : Array Value) : Box ((w.alloc o).alloc (.cells cs t)) (w.heap.size + 1) t cs := by
  have h := Box.new (w.alloc o) t cs
  rw [World.size_alloc] at h
  exact h
theorem Box.put (h : Box w g t cs) (i : Nat) (u : Value) : Box (w.setCell ⟨g, i, none⟩ u) g t (cs.setIfInBounds i u) := by
  unfold Box at h ⊢
  simp [World.setCell, Array.getElem?_modify, h]
theorem Box.put_eq {i : Nat} {u : Value} {cs' : Array Value} (h : Box w g t cs) (e : cs.setIfInBounds i u = cs') : Box (w.setCell ⟨g, i, none⟩ u) g t cs' := e ▸ h.put i u
theorem Box.far (h : Box w g t cs) {p : Addr} (hp : g ≠ p.block) (u : Value) : Box (w.setCell p u) g t cs := (Below.heap_setCell w p u g hp).trans h
theorem Box.below {B : Nat} (h : Box w g t cs) (hb : Below B w w') (hg : g < B) : Box w' g t cs := (hb.block g hg).trans h
theorem Box.grown {row : Option Nat} (h : Box w g t cs) (hb : w.grownBy w' row) (hg : some g ≠ row) : Box w' g t cs := (hb.block g h.lt hg).trans h
end

theorem wf_bd {n : Int} (h : (Lit.int .i64 n).wf = true) : -9223372036854775808 ≤ n ∧ n ≤ 9223372036854775807 := by
  exact bounds_i64 h
/-- What is known of a slice of ints that came in. -/
def IsRow (w : World) (a : Option Addr) (len cap : Nat) (zs : List Int) : Prop :=
  (a = none ∧ len = 0 ∧ cap = 0 ∧ zs = []) ∨
  ∃ x, a = some x ∧ len ≤ cap ∧ cap ≤ maxLen ∧ zs.length = cap ∧ (∀ i, i < zs.length → w.cell? (x.add i) = some (.int .i64 (zs.getD i 0))) ∧ ∀ n ∈ zs, (Lit.int .i64 n).wf = true

theorem IsRow.at_ {w : World} {a : Option Addr} {len cap : Nat} {zs : List Int} (h : IsRow w a len cap zs) (i : Nat) (hi : i < len) :
    ∃ b off, a = some ⟨b, off, none⟩ ∧ b < w.heap.size ∧ w.cell? ⟨b, off + i, none⟩ = some (.int .i64 (zs.getD i 0)) := by
  rcases h with ⟨_, rfl, _, _⟩ | ⟨x, rfl, hl, hm, hz, hc, hw⟩
  · omega
  · obtain ⟨b, off, spot⟩ := x
    have h0 := hc i (by omega)
    have h00 := hc 0 (by omega)
    have hspot : spot = none := by simpa [Addr.add] using World.cell?_spot h00
    subst hspot
    have h1 : w.cell? ⟨b, off + i, none⟩ = some (.int .i64 (zs.getD i 0)) := by rw [Addr.add_lit] at h0; exact h0
    exact ⟨b, off, rfl, World.block_lt_of_cell? w _ h1, h1⟩
theorem IsRow.bd {w : World} {a : Option Addr} {len cap : Nat} {zs : List Int} (h : IsRow w a len cap zs) (i : Nat) :
    -9223372036854775808 ≤ zs.getD i 0 ∧ zs.getD i 0 ≤ 9223372036854775807 := by
  rcases h with ⟨_, _, _, rfl⟩ | ⟨x, rfl, hl, hm, hz, hc, hw⟩
  · simp
  · by_cases hi : i < zs.length
    · have := hw (zs.getD i 0) (by rw [List.getD, List.getElem?_eq_getElem hi]; exact List.getElem_mem _)
      exact wf_bd this
    · rw [List.getD, List.getElem?_eq_none (by omega)]; simp
theorem IsRow.len_le {w : World} {a : Option Addr} {len cap : Nat} {zs : List Int} (h : IsRow w a len cap zs) : len ≤ maxLen := by
  rcases h with ⟨_, rfl, _, _⟩ | ⟨x, rfl, hl, hm, hz, hc, hw⟩
  · exact Nat.zero_le _
  · omega

/-- What is known of an argument of whatever type: it reads as a datum. -/
def Raw (w : World) (t : TypeId) (v : Value) : Prop :=
  ∃ (H : Type) (enc : TypeId × Value → H) (base : Nat) (d : DataW H) (p : List MemPlace), Value.okWide Try.prog w .any base t v ∧ DataW.Trod enc Try.prog w 0 (fun _ => true) true t v d p

theorem own_below {w w' : World} {base : Nat} {e : TypeId} {size : Nat} {v : Value} {n : Nat} {xs : List Value} (h : w.ownsRow base e size v n xs) (hb : Below w.heap.size w w') : w'.ownsRow base e size v n xs := by
  obtain ⟨h1, h2⟩ := h
  refine ⟨h1, ?_⟩
  rcases h2 with h2 | ⟨g, cap, cur, hv, hg, hh, r⟩
  · exact Or.inl h2
  · have hlt : g < w.heap.size := by
      apply Classical.byContradiction
      intro hge
      rw [Array.getElem?_eq_none (by omega)] at hh
      cases hh
    exact Or.inr ⟨g, cap, cur, hv, hg, (hb.block g hlt).trans hh, r⟩

theorem below_drewN {B : Nat} {a w : World} (h : Below B a w) (n : Nat) : Below B a (w.drewN n) := ⟨h.os, h.tape, h.output, h.size, h.block⟩

/-- The condition for a region that draws its order, all of whose calls make new blocks alone: what stood at its start stands. -/
theorem held_start (w : World) : Below w.heap.size w w.drew ∧ ∀ b o, b < w.heap.size → w.drew.cell? ⟨b, o, none⟩ = w.cell? ⟨b, o, none⟩ := ⟨(Below.refl _ _).drew, fun _ _ _ => rfl⟩
theorem held_step {w0 w' w1 : World} (h : Below w0.heap.size w0 w' ∧ ∀ b o, b < w0.heap.size → w'.cell? ⟨b, o, none⟩ = w0.cell? ⟨b, o, none⟩) (hb : Below w'.heap.size w' w1) :
    Below w0.heap.size w0 w1 ∧ ∀ b o, b < w0.heap.size → w1.cell? ⟨b, o, none⟩ = w0.cell? ⟨b, o, none⟩ := by
  have k := h.1.trans (hb.mono h.1.size)
  exact ⟨k, fun b o hlt => k.cell (p := ⟨b, o, none⟩) hlt⟩

/-- The slice value '.slice A xs.length cap' reads as the ints xs, below block B. -/
def Ints (w : World) (B : Nat) (A : Option Addr) (xs : List Int) : Prop :=
  ∀ i, i < xs.length → ∃ b off, A = some ⟨b, off, none⟩ ∧ b < B ∧ w.cell? ⟨b, off + i, none⟩ = some (.int .i64 (xs.getD i 0))
theorem Ints.below {w w' : World} {B : Nat} {A : Option Addr} {xs : List Int} (h : Ints w B A xs) (hb : Below B w w') : Ints w' B A xs := fun i hi => by
  obtain ⟨b, off, e, hlt, hc⟩ := h i hi
  exact ⟨b, off, e, hlt, (hb.cell (p := ⟨b, off + i, none⟩) hlt).trans hc⟩
theorem Ints.more {w : World} {B B' : Nat} {A : Option Addr} {xs : List Int} (h : Ints w B A xs) (hB : B ≤ B') : Ints w B' A xs := fun i hi => by
  obtain ⟨b, off, e, hlt, hc⟩ := h i hi
  exact ⟨b, off, e, by omega, hc⟩

theorem ret_i64 {a b : Int} (h : a = b) : Ending.returned (.int .i64 a) = .returned (.int .i64 b) := by rw [h]
theorem ret_bool {a b : Bool} (h : a = b) : Ending.returned (.bool a) = .returned (.bool b) := by rw [h]

end Go.Proofs.Ytepodpdcillkmaa
