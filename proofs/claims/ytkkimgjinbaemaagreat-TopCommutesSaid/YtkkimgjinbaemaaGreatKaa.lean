/- The walk. -/
import Derived.Test.YtkkimgjinbaemaaGreatRows
import Derived.WalkKit
import Derived.WalkSpells
import Derived.WalkLawsBesides
import Derived.Lib.Hide
import Derived.Handy
import Derived.Deep.Light
import Derived.Deep.RegionHeld3
import Derived.OpenShut
import Derived.Laws.OwnMore
import Derived.Laws.CopyRow
import Derived.Laws.Tables
import Derived.Laws.MakeOwn
import Derived.Laws.Append
import Derived.ArgAppend
import Derived.Laws.CopyOwn
import Derived.Laws.Entries
import Derived.Laws.Slices
import Derived.Laws.Strings
import Derived.Laws.BytesString
import Derived.TacticsIn
import Derived.OrdersIn
import Derived.RangeFuncLeaves
import Derived.RangeFuncNested
import Derived.Orders
import Derived.RangeFuncCalls
import Derived.Scope
import Derived.Lib.AppendZeros
import Derived.Shelf.Spec.SlicesInsertGrow
namespace Go.Proofs.YtkkimgjinbaemaaGreat
open Go.RowKit
set_option linter.unusedVariables false
set_option linter.unusedSimpArgs false
set_option maxRecDepth 100000
set_option maxHeartbeats 4000000
abbrev Aa := @List.getElem?_eq_getElem
abbrev Ab := @List.getElem?_eq_some_iff
abbrev Ac := @List.mem_of_getElem?
abbrev Ad := @List.getD_eq_getElem?_getD
abbrev Ae := @Nat.zero_le
abbrev Af := @Nat.add_assoc
abbrev Ag := @List.getElem?_take_of_lt
abbrev Ah := @Bool.and_eq_true
abbrev Ai := @Option.map_some
abbrev Aj := @Nat.le_refl
abbrev Ak := @Nat.le_trans
abbrev Al := @Array.getElem?_eq_getElem
abbrev Am := @List.all_eq_true
abbrev An := @List.mem_singleton
abbrev Ao := @List.getElem?_append_right
abbrev Ap := @List.getElem?_map
abbrev Aq := @List.mem_of_mem_take
abbrev Ar := @List.getElem?_eq_none
abbrev Au := @List.getElem?_append_left
abbrev Av := @Array.getD_eq_getD_getElem?
abbrev Aw := @Array.getElem?_eq_some_iff
abbrev Ax := @And.intro
abbrev Ay := @List.mem_of_mem_drop
abbrev Az := @List.length_filter_le
abbrev A0 := @List.mem_append
abbrev A1 := @Nat.mul_le_mul_right
abbrev A2 := @List.length_map
abbrev A3 := @List.mem_iff_getElem?
abbrev A4 := @List.mem_map
abbrev A5 := @List.length_take
abbrev A6 := @List.length_cons
abbrev A7 := @Nat.add_left_comm
abbrev A8 := @List.not_mem_nil
abbrev A9 := @List.getElem?_set_ne
abbrev Ba := @Nat.add_comm
abbrev Bb := @List.getElem?_cons_succ
abbrev Bc := @List.length_drop
abbrev Bd := @List.getElem?_drop
abbrev Be := @Nat.add_mul
abbrev Bf := @List.take_of_length_le
abbrev Bg := @List.getElem?_set_self
abbrev Bh := @Option.getD_some
abbrev Bi := @List.mem_or_eq_of_mem_set
abbrev Bj := @List.mem_append_left
abbrev Bk := @Array.getElem?_append_left
abbrev Bl := @Bool.false_eq_true
abbrev Bm := @Nat.zero_add
abbrev Bn := @List.mem_filter
abbrev Bo := @List.length_append
def Box (w : World) (g : Nat) (t : TypeId) (cs : Array Value) : Prop := w.heap[g]? = some (.cells cs t (0, 0))
section
variable {w w' : World} {g : Nat} {t : TypeId} {cs : Array Value}
theorem Box.lt (h : Box w g t cs) : g < w.heap.size := by
 apply Classical.byContradiction
 intro hge
 unfold Box at h
 rw [Array.getElem?_eq_none (by omega)] at h
 cases h
theorem Box.cell (h : Box w g t cs) (i : Nat) : w.cell? ⟨g, i, none⟩ = cs[i]? := cell_of_row w g i cs t (0, 0) h
theorem Box.frozen (h : Box w g t cs) (i : Nat) : w.frozen? ⟨g, i, none⟩ = false := by
 unfold Box at h
 simp [World.frozen?, h]
theorem Box.new (w : World) (t : TypeId) (cs : Array Value) : Box (w.alloc (.cells cs t)) w.heap.size t cs := heap_alloc_new w _
theorem Box.drew (h : Box w g t cs) : Box w.drew g t cs := h
theorem Box.alloc (h : Box w g t cs) (o : Obj) : Box (w.alloc o) g t cs := (Below.heap_alloc w o g h.lt).trans h
theorem Box.put (h : Box w g t cs) (i : Nat) (u : Value) : Box (w.setCell ⟨g, i, none⟩ u) g t (cs.setIfInBounds i u) := by
 unfold Box at h ⊢
 simp [World.setCell, Array.getElem?_modify, h]
end
def Ahu (w : World) (a : Option Addr) (len cap : Nat) (zs : List Int) : Prop :=
 (a = none /\ len = 0 /\ cap = 0 /\ zs = []) \/
 ∃ x, a = some x /\ len <= cap /\ cap <= maxLen /\ zs.length = cap /\ (∀ i, i < zs.length -> w.cell? (x.add i) = some (.int .i64 (zs.getD i 0))) /\ ∀ n ∈ zs, (Lit.int .i64 n).wf = true
theorem Ahu.at_ {w : World} {a : Option Addr} {len cap : Nat} {zs : List Int} (h : Ahu w a len cap zs) (i : Nat) (hi : i < len) :
 ∃ b off, a = some ⟨b, off, none⟩ /\ b < w.heap.size /\ w.cell? ⟨b, off + i, none⟩ = some (.int .i64 (zs.getD i 0)) := by
 rcases h with ⟨_, rfl, _, _⟩ | ⟨x, rfl, hl, hm, hz, hc, hw⟩
 ·omega
 obtain ⟨b, off, spot⟩ := x
 have h0 := hc i (by omega)
 have h00 := hc 0 (by omega)
 have hspot : spot = none := by simpa [Addr.add] using World.cell?_spot h00
 subst hspot
 have h1 : w.cell? ⟨b, off + i, none⟩ = some (.int .i64 (zs.getD i 0)) := by rw [Addr.add_lit] at h0; exact h0
 exact ⟨b, off, rfl, World.block_lt_of_cell? w _ h1, h1⟩
theorem Ahk {B : Nat} {a w : World} (h : Below B a w) (n : Nat) : Below B a (w.drewN n) := ⟨h.os, h.tape, h.output, h.size, h.block⟩
def Arh (w : World) (B : Nat) (A : Option Addr) (xs : List Int) : Prop :=
 ∀ i, i < xs.length -> ∃ b off, A = some ⟨b, off, none⟩ /\ b < B /\ w.cell? ⟨b, off + i, none⟩ = some (.int .i64 (xs.getD i 0))
theorem Arh.more {w : World} {B B' : Nat} {A : Option Addr} {xs : List Int} (h : Arh w B A xs) (hB : B <= B') : Arh w B' A xs := fun i hi => by
 obtain ⟨b, off, e, hlt, hc⟩ := h i hi
 exact ⟨b, off, e, by omega, hc⟩
inductive T where
  | lit (v : Value)
  | sl (k : Nat) (es : List (List T))
  | fn (f : FuncId) (cs : List T) (off : Nat)
inductive AV where
  | any
  | lit (v : Value)
  | nil (k : Nat)
  | imm (fr : Bool) (k : Nat) (es : List (List T))
  | own (id n : Nat)
  | sub (id n lo m : Nat)
  | ptr (id off : Nat)
  | rptr (id n i off : Nat)
  | bsl (id n : Nat)
  | iptr (fr : Bool) (cs : List T) (off : Nat)
  | agg (cs : List AV)
  | tup (vs : List AV)
  | fn (f : FuncId) (caps : List AV)
  | gd (t : Bool) (v : AV)
inductive Ob where
  | gone
  | box (ty : TypeId) (cs : List AV)
  | row (ty k : Nat) (fr fz : Bool) (es : List (List T))
def Ob.live : Ob -> Prop
 | .gone => False
 | .box _ _ => True
 | .row _ _ _ fz _ => fz = false
inductive Do (h : Array Obj) (S : Nat -> Prop) : T -> Value -> Prop
  | lit (v : Value) : v.oneCell' = true -> Do h S (.lit v) v
  | nil (k : Nat) (A : Option Addr) (c : Nat) : Do h S (.sl k []) (.slice A 0 c)
  | sl (k : Nat) (es : List (List T)) (b off c : Nat) (cur : Array Value) (ty : TypeId) (fz : Nat × Nat) (us : Nat -> Nat -> Value) :
      h[b]? = some (.cells cur ty fz) -> S b -> es.length <= c -> (∀ (i : Nat) (e : List T), es[i]? = some e -> e.length = k) ->
      (∀ (i : Nat) (e : List T) (j : Nat) (x : T), es[i]? = some e -> e[j]? = some x -> cur[off + i * k + j]? = some (us i j)) ->
      (∀ (i : Nat) (e : List T) (j : Nat) (x : T), es[i]? = some e -> e[j]? = some x -> Do h S x (us i j)) -> Do h S (.sl k es) (.slice (some ⟨b, off, none⟩) es.length c)
  | fn (f : FuncId) (cs : List T) (off b o : Nat) (cur : Array Value) (ty : TypeId) (fz : Nat × Nat) (us : Nat -> Value) : h[b]? = some (.cells cur ty fz) -> S b -> (∀ (j : Nat) (x : T), cs[j]? = some x -> cur[o + j]? = some (us j)) ->
      (∀ (j : Nat) (x : T), cs[j]? = some x -> Do h S x (us j)) -> Do h S (.fn f cs off) (.func (.func f) #[] #[.pointer (some ⟨b, o + off, none⟩)])
theorem Do.keepC {h h' : Array Obj} {S S' : Nat -> Prop} {t : T} {u : Value} (r : Do h S t u) (hk : ∀ b cur ty fz, S b -> h[b]? = some (.cells cur ty fz) -> h'[b]? = some (.cells cur ty fz)) (hS : ∀ b, S b -> S' b) : Do h' S' t u := by
 induction r with
 | lit v h1 => exact .lit v h1
 | nil k A c => exact .nil k A c
 | sl k es b off c cur ty fz us h1 h2 h3 h4 h5 _ ih => exact .sl k es b off c cur ty fz us (hk b cur ty fz h2 h1) (hS b h2) h3 h4 h5 ih
 | fn f cs off b o cur ty fz us h1 h2 h3 _ ih => exact .fn f cs off b o cur ty fz us (hk b cur ty fz h2 h1) (hS b h2) h3 ih
theorem Do.keep {h h' : Array Obj} {S S' : Nat -> Prop} {t : T} {u : Value} (r : Do h S t u) (hk : ∀ b, S b -> h'[b]? = h[b]?) (hS : ∀ b, S b -> S' b) : Do h' S' t u :=
 r.keepC (fun b cur ty fz h1 h2 => (hk b h1).trans h2) hS
theorem Do.one {h : Array Obj} {S : Nat -> Prop} {t : T} {u : Value} (r : Do h S t u) : u.oneCell' = true := by
 cases r <;> first | assumption | rfl
structure VC where
  h : Array Obj
  ob : Nat -> Ob
  β : Nat -> Option Nat
  B : Nat
  M : Nat -> Prop
  im : Nat -> Prop
  fr : Nat -> Prop
def VC.lives (C : VC) (b : Nat) : Prop := ∃ id, C.β id = some b /\ (C.ob id).live
def VC.S (C : VC) (f : Bool) (b : Nat) : Prop := b < C.h.size /\ ¬ C.lives b /\ (C.B <= b \/ C.M b \/ (C.im b /\ (f = true -> C.fr b)))
def Aa7 (C : VC) (id n : Nat) (u : Value) : Prop :=
 u.oneCell' = true /\ ∃ ty k fr fz es, C.ob id = .row ty k fr fz es /\ n <= es.length /\ (n = es.length ->
  match C.β id with
  | none => ∃ A, u = .slice A 0 0
  | some b => ∃ c cur, C.h[b]? = some (.cells cur ty (0, 0)) /\ cur.size = c * k /\ u = .slice (some ⟨b, 0, none⟩) n c)
def Asz (C : VC) (id n lo m : Nat) (u : Value) : Prop :=
 u.oneCell' = true /\ ∃ ty k fr fz es, C.ob id = .row ty k fr fz es /\ n <= es.length /\ (n = es.length -> lo + m <= es.length /\ ∃ A c, u = .slice A m c /\ m <= c /\ es.length <= lo + c /\ (c = 0 \/ ∃ b, C.β id = some b /\ A = some ⟨b, lo * k, none⟩))
def As0 (C : VC) (id n i off : Nat) (u : Value) : Prop :=
 u.oneCell' = true /\ ∃ ty k fr fz es, C.ob id = .row ty k fr fz es /\ n <= es.length /\ (n = es.length -> ∃ b, C.β id = some b /\ u = .pointer (some ⟨b, i * k + off, none⟩))
def Aub (C : VC) (id off : Nat) (u : Value) : Prop := ∃ ty cs b, C.ob id = .box ty cs /\ C.β id = some b /\ u = .pointer (some ⟨b, off, none⟩)
def Aue (C : VC) (id n : Nat) (u : Value) : Prop := ∃ ty cs b c, C.ob id = .box ty cs /\ C.β id = some b /\ u = .slice (some ⟨b, 0, none⟩) n c /\ n <= c
inductive Br (C : VC) : AV -> Value -> Prop
  | any (u : Value) : Br C .any u
  | lit (v : Value) : Br C (.lit v) v
  | nil (k : Nat) (A : Option Addr) : Br C (.nil k) (.slice A 0 0)
  | imm (fr : Bool) (k : Nat) (es : List (List T)) (u : Value) : Do C.h (C.S fr) (.sl k es) u -> Br C (.imm fr k es) u
  | own (id n : Nat) (u : Value) : Aa7 C id n u -> Br C (.own id n) u
  | sub (id n lo m : Nat) (u : Value) : Asz C id n lo m u -> Br C (.sub id n lo m) u
  | ptr (id off : Nat) (u : Value) : Aub C id off u -> Br C (.ptr id off) u
  | rptr (id n i off : Nat) (u : Value) : As0 C id n i off u -> Br C (.rptr id n i off) u
  | bsl (id n : Nat) (u : Value) : Aue C id n u -> Br C (.bsl id n) u
  | iptr (fr : Bool) (cs : List T) (off b o : Nat) (cur : Array Value) (ty : TypeId) (fz : Nat × Nat) (us : Nat -> Value) : C.h[b]? = some (.cells cur ty fz) -> C.S fr b ->
      (∀ (j : Nat) (x : T), cs[j]? = some x -> cur[o + j]? = some (us j) /\ Do C.h (C.S fr) x (us j)) -> Br C (.iptr fr cs off) (.pointer (some ⟨b, o + off, none⟩))
  | agg (cs : List AV) (us : Array Value) : cs.length = us.size -> (∀ (i : Nat) (c : AV) (u : Value), cs[i]? = some c -> us[i]? = some u -> Br C c u) -> Br C (.agg cs) (.agg us)
  | tup (cs : List AV) (us : Array Value) : cs.length = us.size -> (∀ (i : Nat) (c : AV) (u : Value), cs[i]? = some c -> us[i]? = some u -> Br C c u) -> Br C (.tup cs) (.tuple us)
  | fn (f : FuncId) (cs : List AV) (us : Array Value) : cs.length = us.size -> (∀ (i : Nat) (c : AV) (u : Value), cs[i]? = some c -> us[i]? = some u -> Br C c u) -> Br C (.fn f cs) (.func (.func f) #[] us)
  | gd (t : Bool) (v : AV) (u : Value) : (t = true -> Br C v u) -> (t = false -> u = undef) -> Br C (.gd t v) u
def Hi (C : VC) (id : Nat) : Ob -> Prop
 | .gone => True
 | .box ty cs => ∃ b cur, C.β id = some b /\ C.h[b]? = some (.cells cur ty (0, 0)) /\ cs.length <= cur.size /\ ∀ (j : Nat) (c : AV) (u : Value), cs[j]? = some c -> cur[j]? = some u -> Br C c u /\ u.oneCell' = true
 | .row ty k fr fz es => (0 < k /\ ∀ (i : Nat) (e : List T), es[i]? = some e -> e.length = k) /\
  match C.β id with
  | none => es = []
  | some b => ∃ cur c, C.h[b]? = some (.cells cur ty (0, 0)) /\ cur.size = c * k /\ es.length <= c /\ c <= maxLen /\
   ∀ (i : Nat) (e : List T) (j : Nat) (x : T), es[i]? = some e -> e[j]? = some x -> ∃ u, cur[i * k + j]? = some u /\ Do C.h (C.S fr) x u
structure Ks (C C' : VC) : Prop where
  B : C'.B = C.B
  M : ∀ b, C.M b -> C'.M b
  im : ∀ b, C.im b -> C'.im b
  fr : ∀ b, C.fr b -> C'.fr b
  size : C.h.size <= C'.h.size
  live : ∀ b, b < C.h.size -> C'.lives b -> C.lives b
  keep : ∀ b, b < C.h.size -> ¬ C.lives b -> C'.h[b]? = C.h[b]?
  box : ∀ id ty cs, C.ob id = .box ty cs -> (∃ cs', C'.ob id = .box ty cs') /\ C'.β id = C.β id
  row : ∀ id ty k fr fz es, C.ob id = .row ty k fr fz es -> ∃ fr' fz' es', C'.ob id = .row ty k fr' fz' es' /\ es.length <= es'.length /\ (es.length = es'.length ->
    C'.β id = C.β id /\ ∀ b cur, C.β id = some b -> C.h[b]? = some (.cells cur ty (0, 0)) -> ∃ cur' : Array Value, C'.h[b]? = some (.cells cur' ty (0, 0)) /\ cur'.size = cur.size)
structure Sl (C C' : VC) : Prop where
  B : C'.B = C.B
  M : ∀ b, C.M b -> C'.M b
  im : ∀ b, C.im b -> C'.im b
  fr : ∀ b, C.fr b -> C'.fr b
  size : C.h.size <= C'.h.size
  live : ∀ b, b < C.h.size -> C'.lives b -> C.lives b
  keep : ∀ b cur ty fz, b < C.h.size -> ¬ C.lives b -> C.h[b]? = some (.cells cur ty fz) -> C'.h[b]? = some (.cells cur ty fz)
  box : ∀ id ty cs, C.ob id = .box ty cs -> (∃ cs', C'.ob id = .box ty cs') /\ C'.β id = C.β id
  row : ∀ id ty k fr fz es, C.ob id = .row ty k fr fz es -> ∃ fr' fz' es', C'.ob id = .row ty k fr' fz' es' /\ es.length <= es'.length /\ (es.length = es'.length ->
    C'.β id = C.β id /\ ∀ b cur, C.β id = some b -> C.h[b]? = some (.cells cur ty (0, 0)) -> ∃ cur' : Array Value, C'.h[b]? = some (.cells cur' ty (0, 0)) /\ cur'.size = cur.size)
theorem Ks.toW {C C' : VC} (s : Ks C C') : Sl C C' := ⟨s.B, s.M, s.im, s.fr, s.size, s.live, fun b cur ty fz h1 h2 h3 => (s.keep b h1 h2).trans h3, s.box, s.row⟩
theorem Sl.S {C C' : VC} (s : Sl C C') {f : Bool} {b : Nat} (h : C.S f b) : C'.S f b := by
 obtain ⟨h1, h2, h3⟩ := h
 refine ⟨Nat.lt_of_lt_of_le h1 s.size, fun hl => h2 (s.live b h1 hl), ?_⟩
 rcases h3 with h3 | h3 | ⟨h3, h4⟩
 ·exact .inl (by rw [s.B]; exact h3)
 ·exact .inr (.inl (s.M b h3))
 exact .inr (.inr ⟨s.im b h3, fun e => s.fr b (h4 e)⟩)
theorem Sl.T {C C' : VC} (s : Sl C C') {f : Bool} {t : T} {u : Value} (h : Do C.h (C.S f) t u) : Do C'.h (C'.S f) t u :=
 h.keepC (fun b cur ty fz hb hc => s.keep b cur ty fz hb.1 hb.2.1 hc) fun b hb => s.S hb
theorem Ks.S {C C' : VC} (s : Ks C C') {f : Bool} {b : Nat} (h : C.S f b) : C'.S f b := s.toW.S h
theorem Ks.T {C C' : VC} (s : Ks C C') {f : Bool} {t : T} {u : Value} (h : Do C.h (C.S f) t u) : Do C'.h (C'.S f) t u := s.toW.T h
theorem VC.S_weak {C : VC} {f : Bool} {b : Nat} (h : C.S f b) : C.S false b := by
 obtain ⟨h1, h2, h3⟩ := h
 refine ⟨h1, h2, ?_⟩
 rcases h3 with h3 | h3 | ⟨h3, _⟩
 ·exact .inl h3
 ·exact .inr (.inl h3)
 exact .inr (.inr ⟨h3, fun e => by cases e⟩)
theorem VC.T_weak {C : VC} {f g : Bool} {t : T} {u : Value} (h : Do C.h (C.S f) t u) (hg : g = true -> f = true) : Do C.h (C.S g) t u := by
 cases g
 ·exact h.keep (fun _ _ => rfl) fun b hb => VC.S_weak hb
 rw [hg rfl] at h; exact h
theorem Br.stepW {C C' : VC} (s : Sl C C') {c : AV} {u : Value} (r : Br C c u) : Br C' c u := by
 induction r with
 | any u => exact .any u
 | lit v => exact .lit v
 | nil k A => exact .nil k A
 | imm fr k es u h => exact .imm fr k es u (s.T h)
 | own id n u h =>
  refine .own id n u ?_
  obtain ⟨h0, ty, k, fr, fz, es, ho, hn, h1⟩ := h
  obtain ⟨fr', fz', es', ho', hle, h2⟩ := s.row id ty k fr fz es ho
  refine ⟨h0, ty, k, fr', fz', es', ho', by omega, fun e => ?_⟩
  obtain ⟨h3, h4⟩ := h2 (by omega)
  have h5 := h1 (by omega)
  rw [h3]
  cases hb : C.β id with
  | none => rw [hb] at h5; exact h5
  | some b =>
   rw [hb] at h5
   obtain ⟨c, cur, h6, h7, h8⟩ := h5
   obtain ⟨cur', h9, h10⟩ := h4 b cur hb h6
   exact ⟨c, cur', h9, by rw [h10, h7], h8⟩
 | sub id n lo m u h =>
  refine .sub id n lo m u ?_
  obtain ⟨h0, ty, k, fr, fz, es, ho, hn, h1⟩ := h
  obtain ⟨fr', fz', es', ho', hle, h2⟩ := s.row id ty k fr fz es ho
  refine ⟨h0, ty, k, fr', fz', es', ho', by omega, fun e => ?_⟩
  obtain ⟨h3, _⟩ := h2 (by omega)
  obtain ⟨h4, A, c, h5, h6, h6', h7⟩ := h1 (by omega)
  refine ⟨by omega, A, c, h5, h6, by omega, ?_⟩
  rw [h3]
  exact h7
 | ptr id off u h =>
  obtain ⟨ty, cs, b, ho, hb, hu⟩ := h
  obtain ⟨⟨cs', ho'⟩, hβ⟩ := s.box id ty cs ho
  exact .ptr id off u ⟨ty, cs', b, ho', by rw [hβ]; exact hb, hu⟩
 | bsl id n u h =>
  obtain ⟨ty, cs, b, c, ho, hb, hu⟩ := h
  obtain ⟨⟨cs', ho'⟩, hβ⟩ := s.box id ty cs ho
  exact .bsl id n u ⟨ty, cs', b, c, ho', by rw [hβ]; exact hb, hu⟩
 | rptr id n i off u h =>
  refine .rptr id n i off u ?_
  obtain ⟨h0, ty, k, fr, fz, es, ho, hn, h1⟩ := h
  obtain ⟨fr', fz', es', ho', hle, h2⟩ := s.row id ty k fr fz es ho
  refine ⟨h0, ty, k, fr', fz', es', ho', by omega, fun e => ?_⟩
  obtain ⟨h3, _⟩ := h2 (by omega)
  rw [h3]
  exact h1 (by omega)
 | iptr fr cs off b o cur ty fz us h1 h2 h3 =>
  exact .iptr fr cs off b o cur ty fz us (s.keep b cur ty fz h2.1 h2.2.1 h1) (s.S h2) fun j x hx => ⟨(h3 j x hx).1, s.T (h3 j x hx).2⟩
 | agg cs us h1 _ ih => exact .agg cs us h1 ih
 | tup cs us h1 _ ih => exact .tup cs us h1 ih
 | fn f cs us h1 _ ih => exact .fn f cs us h1 ih
 | gd t v u _ h2 ih => exact .gd t v u ih h2
theorem Br.step {C C' : VC} (s : Ks C C') {c : AV} {u : Value} (r : Br C c u) : Br C' c u := r.stepW s.toW
theorem Hi.stepW {C C' : VC} (s : Sl C C') {id : Nat} {o : Ob} (r : Hi C id o) (hβ : C'.β id = C.β id) (hb : ∀ b, C.β id = some b -> C'.h[b]? = C.h[b]?) : Hi C' id o := by
 cases o with
 | gone => trivial
 | box ty cs =>
  obtain ⟨b, cur, h1, h2, h3, h4⟩ := r
  exact ⟨b, cur, by rw [hβ]; exact h1, (hb b h1).trans h2, h3, fun j c u hc hu => ⟨(h4 j c u hc hu).1.stepW s, (h4 j c u hc hu).2⟩⟩
 | row ty k fr fz es =>
  refine ⟨r.1, ?_⟩
  have h1 := r.2
  rw [hβ]
  cases hb' : C.β id with
  | none => rw [hb'] at h1; exact h1
  | some b =>
   rw [hb'] at h1
   obtain ⟨cur, c, h2, h3, h4, h5, h6⟩ := h1
   refine ⟨cur, c, (hb b hb').trans h2, h3, h4, h5, fun i e j x he hx => ?_⟩
   obtain ⟨u, h7, h8⟩ := h6 i e j x he hx
   exact ⟨u, h7, s.T h8⟩
theorem Hi.step {C C' : VC} (s : Ks C C') {id : Nat} {o : Ob} (r : Hi C id o) (hβ : C'.β id = C.β id) (hb : ∀ b, C.β id = some b -> C'.h[b]? = C.h[b]?) : Hi C' id o := r.stepW s.toW hβ hb
def Uh : Obj -> Bool
 | .cells _ _ _ => true
 | _ => false
structure Ent where
  w0 : World
  o0 : Nat -> Ob
  β0 : Nat -> Option Nat
  im : Nat -> Prop
  fr : Nat -> Prop
  n : Nat
  ds : List Nat
  kb : Nat -> Option Obj
def dmk (D : Nat) : Deferred := { target := .collected D, args := #[] }
def Ent.M (E : Ent) (b : Nat) : Prop := ∃ id, E.o0 id ≠ .gone /\ E.β0 id = some b
structure Ahw (h0 : Array Obj) (o0 : Nat -> Ob) (β0 : Nat -> Option Nat) (C : VC) : Prop where
  box : ∀ id ty cs, o0 id = .box ty cs -> (∃ cs', C.ob id = .box ty cs') /\ C.β id = β0 id
  row : ∀ id ty k fr fz es, o0 id = .row ty k fr fz es -> ∃ fr' fz' es', C.ob id = .row ty k fr' fz' es' /\ es.length <= es'.length /\ (es.length = es'.length ->
    C.β id = β0 id /\ ∀ b cur, β0 id = some b -> h0[b]? = some (.cells cur ty (0, 0)) -> ∃ cur' : Array Value, C.h[b]? = some (.cells cur' ty (0, 0)) /\ cur'.size = cur.size)
theorem Ahw.stepW {h0 : Array Obj} {o0 : Nat -> Ob} {β0 : Nat -> Option Nat} {C C' : VC} (c : Ahw h0 o0 β0 C) (s : Sl C C') : Ahw h0 o0 β0 C' := by
 refine ⟨fun id ty cs h => ?_, fun id ty k fr fz es h => ?_⟩
 ·obtain ⟨⟨cs', h1⟩, h2⟩ := c.box id ty cs h
  obtain ⟨h3, h4⟩ := s.box id ty cs' h1
  exact ⟨h3, h4.trans h2⟩
 obtain ⟨fr', fz', es', h1, h2, h3⟩ := c.row id ty k fr fz es h
 obtain ⟨fr2, fz2, es2, h4, h5, h6⟩ := s.row id ty k fr' fz' es' h1
 refine ⟨fr2, fz2, es2, h4, by omega, fun e => ?_⟩
 obtain ⟨h7, h8⟩ := h3 (by omega)
 obtain ⟨h9, h10⟩ := h6 (by omega)
 refine ⟨h9.trans h7, fun b cur hb hc => ?_⟩
 obtain ⟨cur', q1, q2⟩ := h8 b cur hb hc
 obtain ⟨cur2, q3, q4⟩ := h10 b cur' (h7.trans hb) q1
 exact ⟨cur2, q3, q4.trans q2⟩
theorem Ahw.step {h0 : Array Obj} {o0 : Nat -> Ob} {β0 : Nat -> Option Nat} {C C' : VC} (c : Ahw h0 o0 β0 C) (s : Ks C C') : Ahw h0 o0 β0 C' := c.stepW s.toW
def Ce : List (Nat × AV) -> Nat -> AV
 | [], _ => .any
 | p :: l, t => bif p.1 == t then p.2 else Ce l t
structure St where
  sl : List (Nat × AV)
  ob : List Ob
def St.o (s : St) (id : Nat) : Ob := s.ob.getD id .gone
def Ent.C (E : Ent) (β : Nat -> Option Nat) (s : St) (w : World) : VC := ⟨w.heap, s.o, β, E.w0.heap.size, E.M, E.im, E.fr⟩
structure Kp (M : Nat -> Prop) (w w' : World) : Prop where
  os : w'.os = w.os
  tape : w'.tape = w.tape
  output : w'.output = w.output
  size : w.heap.size <= w'.heap.size
  block : ∀ b, b < w.heap.size -> ¬ M b -> w'.heap[b]? = w.heap[b]?
structure Rel (E : Ent) (β : Nat -> Option Nat) (st : St) (a : Act) (w : World) : Prop where
  sz : a.tmps.size = E.n
  sl : ∀ (t : Nat), Br (E.C β st w) (Ce st.sl t) (a.tmps.getD t undef)
  df : a.defers = E.ds.map dmk
  ob : ∀ id, Hi (E.C β st w) id (st.o id)
  inj : ∀ i j b, st.o i ≠ .gone -> st.o j ≠ .gone -> β i = some b -> β j = some b -> i = j
  rng : ∀ i b, st.o i ≠ .gone -> β i = some b -> b < w.heap.size /\ (E.w0.heap.size <= b \/ E.M b)
  kp : Kp E.M E.w0 w
  ct : Ahw E.w0.heap E.o0 E.β0 (E.C β st w)
  kb : ∀ b o, E.kb b = some o -> w.heap[b]? = some o /\ Uh o = false
  dk : E.ds.Nodup /\ ∀ D ∈ E.ds, E.kb D = some (.deferred (some [])) /\ E.w0.heap.size <= D

end Go.Proofs.YtkkimgjinbaemaaGreat
