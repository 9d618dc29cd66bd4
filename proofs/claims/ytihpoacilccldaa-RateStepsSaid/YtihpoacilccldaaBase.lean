/- Small lemmas on worlds: a block that is known whole, what is kept below a block number. -/
import Derived.Test.YtihpoacilccldaaRows
import Derived.WalkKit
import Derived.WalkSpells
import Derived.WalkLawsBesides
import Derived.Lib.Hide
import Derived.Handy
import Derived.Deep.Light
import Derived.Deep.RegionHeld3
namespace Go.Proofs.Ytihpoacilccldaa
open Go.RowKit

/-- Block g of w is the row cs of cells of type t; nothing of it is frozen. -/
def Box (w : World) (g : Nat) (t : TypeId) (cs : Array Value) : Prop := w.heap[g]? = some (.cells cs t (0, 0))

section
variable {w w' : World} {g : Nat} {t : TypeId} {cs : Array Value}
theorem Box.lt (h : Box w g t cs) : g < w.heap.size := by
  apply Classical.byContradiction
  intro hge
  unfold Box at h
  rw [Array.getElem?_eq_none (by omega)] at h
  cases h
theorem Box.cell (h : Box w g t cs) (i : Nat) : w.cell? ⟨g, i, none⟩ = cs[i]? := cell_of_row w g i cs t (0, 0) h
theorem Box.frozen (h : Box w g t cs) (i : Nat) : w.frozen? ⟨g, i, none⟩ = false := by
  unfold Box at h
  simp [World.frozen?, h]
theorem Box.new (w : World) (t : TypeId) (cs : Array Value) : Box (w.alloc (.cells cs t)) w.heap.size t cs := heap_alloc_new w _
theorem Box.drew (h : Box w g t cs) : Box w.drew g t cs := h
theorem Box.alloc (h : Box w g t cs) (o : Obj) : Box (w.alloc o) g t cs := (Below.heap_alloc w o g h.lt).trans h
theorem boxNew2 (w : World) (o : Obj) (t : TypeId) (cs : Array Value) : Box ((w.alloc o).alloc (.cells cs t)) (w.heap.size + 1) t cs := by
  have h := Box.new (w.alloc o) t cs
  rw [World.size_alloc] at h
  exact h
theorem Box.put (h : Box w g t cs) (i : Nat) (u : Value) : Box (w.setCell ⟨g, i, none⟩ u) g t (cs.setIfInBounds i u) := by
  unfold Box at h ⊢
  simp [World.setCell, Array.getElem?_modify, h]
theorem Box.put_eq {i : Nat} {u : Value} {cs' : Array Value} (h : Box w g t cs) (e : cs.setIfInBounds i u = cs') : Box (w.setCell ⟨g, i, none⟩ u) g t cs' := e ▸ h.put i u
theorem Box.far (h : Box w g t cs) {p : Addr} (hp : g ≠ p.block) (u : Value) : Box (w.setCell p u) g t cs := (Below.heap_setCell w p u g hp).trans h
theorem Box.below {B : Nat} (h : Box w g t cs) (hb : Below B w w') (hg : g < B) : Box w' g t cs := (hb.block g hg).trans h
theorem Box.grown {row : Option Nat} (h : Box w g t cs) (hb : w.grownBy w' row) (hg : some g ≠ row) : Box w' g t cs := (hb.block g h.lt hg).trans h
end

/-- What is known of a slice of ints that came in. -/
def IsRow (w : World) (a : Option Addr) (len cap : Nat) (zs : List Int) : Prop :=
  (a = none ∧ len = 0 ∧ cap = 0 ∧ zs = []) ∨
  ∃ x, a = some x ∧ len ≤ cap ∧ cap ≤ maxLen ∧ zs.length = cap ∧ (∀ i, i < zs.length → w.cell? (x.add i) = some (.int .i64 (zs.getD i 0))) ∧ ∀ n ∈ zs, (Lit.int .i64 n).wf = true

/-- What is known of an argument of whatever type: it reads as a datum. -/
def Raw (w : World) (t : TypeId) (v : Value) : Prop :=
  ∃ (H : Type) (enc : TypeId × Value → H) (base : Nat) (d : DataW H) (p : List MemPlace), Value.okWide Try.prog w .any base t v ∧ DataW.Trod enc Try.prog w 0 (fun _ => true) true t v d p

/-- The condition for a region that draws its order, all of whose calls make new blocks alone: what stood at its start stands. -/
theorem held_start (w : World) : Below w.heap.size w w.drew ∧ ∀ b o, b < w.heap.size → w.drew.cell? ⟨b, o, none⟩ = w.cell? ⟨b, o, none⟩ := ⟨(Below.refl _ _).drew, fun _ _ _ => rfl⟩
theorem held_step {w0 w' w1 : World} (h : Below w0.heap.size w0 w' ∧ ∀ b o, b < w0.heap.size → w'.cell? ⟨b, o, none⟩ = w0.cell? ⟨b, o, none⟩) (hb : Below w'.heap.size w' w1) :
    Below w0.heap.size w0 w1 ∧ ∀ b o, b < w0.heap.size → w1.cell? ⟨b, o, none⟩ = w0.cell? ⟨b, o, none⟩ := by
  have k := h.1.trans (hb.mono h.1.size)
  exact ⟨k, fun b o hlt => k.cell (p := ⟨b, o, none⟩) hlt⟩

theorem ret_i64 {a b : Int} (h : a = b) : Ending.returned (.int .i64 a) = .returned (.int .i64 b) := by rw [h]
theorem ret_bool {a b : Bool} (h : a = b) : Ending.returned (.bool a) = .returned (.bool b) := by rw [h]

end Go.Proofs.Ytihpoacilccldaa
