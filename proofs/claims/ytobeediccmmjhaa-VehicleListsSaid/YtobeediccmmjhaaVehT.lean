/- The contracts of VehicleLists in one form, and opening its raw arguments. -/
import Derived.Test.YtobeediccmmjhaaVehS
import Derived.Deep.SlicePairs
import Derived.Lib.SmallJoins
import Derived.ProofKit
import Derived.OpenShut
namespace Go.Proofs.Ytobeediccmmjhaa
open Go.RowKit Go.ChangeShapes Go.WideShapes
set_option linter.unusedVariables false
set_option linter.unusedSimpArgs false

theorem rregister_vl (v : Value) (vs : List Veh) (acl : Int) (L : Option Addr) (lc : Nat) (lims : List Int) (id cl : Int) (w : World) (hv : VL v vs w) (hm : vs.length ≤ 1000) (hll : lims.length = 4) (hL : Ints w w.heap.size L lims) (hacl : acl ≤ 3) :
    Calls Try.prog 22 #[v, .agg #[.slice none 0 0, .int .i64 0, .int .i64 acl, .slice L 4 lc, .int .i64 0, .int .i64 0, .int .i64 0, .int .i64 0], .agg #[.int .i64 id, .int .i64 cl], .int .i64 3] w
      fun e w' => ∃ u, e = .returned (.tuple #[u, .int .i64 (regE vs acl lims id cl)]) ∧ VL u (regL vs acl lims id cl) w' ∧ Below w.heap.size w w' := by
  obtain ⟨A, cap, rfl, hS, hV⟩ := hv
  exact (rregister_any A cap vs none 0 0 0 acl L lc lims 0 0 0 0 id cl w hV hm hL hll hacl hS).mono fun e w' hp => vl_new hp
theorem rremove_vl (v : Value) (vs : List Veh) (id : Int) (w : World) (hv : VL v vs w) (hm : vs.length ≤ 1000) :
    Calls Try.prog 23 #[v, .int .i64 id] w fun e w' => ∃ u, e = .returned (.tuple #[u, .int .i64 (remE vs id)]) ∧ VL u (remL vs id) w' ∧ Below w.heap.size w w' := by
  obtain ⟨A, cap, rfl, hS, hV⟩ := hv
  exact (rremove_any A cap vs id w hV (by omega)).mono fun e w' hp => vl_new hp
theorem rfind_vl (v : Value) (vs : List Veh) (id : Int) (w : World) (hv : VL v vs w) (hm : vs.length ≤ 1000) :
    Calls Try.prog 20 #[v, .int .i64 id] w fun e w' => e = .returned (foundV vs id) ∧ Below w.heap.size w w' := by
  obtain ⟨A, cap, rfl, hS, hV⟩ := hv
  exact rfind_any A cap vs id w hV (by omega)
theorem rvalid_vl (v : Value) (vs : List Veh) (w : World) (hv : VL v vs w) (hm : vs.length ≤ 1000) :
    Calls Try.prog 18 #[v] w fun e w' => e = .returned (.bool (validV vs)) ∧ Below w.heap.size w w' := by
  obtain ⟨A, cap, rfl, hS, hV⟩ := hv
  exact rvalid_any A cap vs w hV (by omega)
theorem count_vl (v : Value) (vs : List Veh) (c : Int) (w : World) (hv : VL v vs w) (hm : vs.length ≤ 1000) :
    Calls Try.prog 14 #[v, .int .i64 c] w fun e w' => e = .returned (.int .i64 (countTo vs c vs.length)) ∧ Below w.heap.size w w' := by
  obtain ⟨A, cap, rfl, hS, hV⟩ := hv
  exact count_any A cap vs c w hV (by omega)
theorem rcount_vl (v : Value) (vs : List Veh) (c : Int) (w : World) (hv : VL v vs w) (hm : vs.length ≤ 1000) :
    Calls Try.prog 21 #[v, .int .i64 c] w fun e w' => e = .returned (.int .i64 (countTo vs c vs.length)) ∧ Below w.heap.size w w' := by
  obtain ⟨A, cap, rfl, hS, hV⟩ := hv
  exact rcount_any A cap vs c w hV (by omega)
theorem regL_len (vs : List Veh) (acl : Int) (lims : List Int) (id cl : Int) : (regL vs acl lims id cl).length ≤ vs.length + 1 := by
  unfold regL
  split
  · rw [ins_length _ _ _ (placeTo_le _ _)]; omega
  · simp
theorem remL_len (vs : List Veh) (id : Int) : (remL vs id).length ≤ vs.length := by
  unfold remL
  split
  · simp; omega
  · simp

/-- append to a row of the call's own, whatever is appended. -/
theorem wpList_append_any {P : Program} (w : World) {ops : Array Oper} {rest : List Oper} {o : Oper} {a : Act} {Q : Exit → Act → World → Prop} (hgd : o.guard = none) (s x : Operand) (t : TypeId)
    (ho : o.op = .call { callee := .builtin .append, args := #[s, x], argTypes := #[t, t] })
    (base : Nat) (e : TypeId) (i : TypeInfo) (z : Value) (size bytes : Nat) (ht : P.underlying t = some (.slice e)) (hi : P.info? e = some i) (hz : i.zero = some z)
    (hsize : i.size = size) (hby : i.bytes = bytes) (hzs : z.cells.size = size) (hsz : 0 < size)
    (v : Value) (n : Nat) (xs : List Value) (hs : a.eval s = v) (hown : w.ownsRow base e size v n xs)
    (X : Option Addr) (m c : Nat) (news : List Value) (hx : a.eval x = .slice X m c) (hX : X = none → m = 0 ∧ c = 0) (hl : news.length = m * size) (hnews : ∀ ad, X = some ad → ∀ j u, news[j]? = some u → w.cell? (ad.add j) = some u) (h1 : ∀ u ∈ news, u.oneCell' = true)
    (h63 : n + m ≤ maxLen) (hbytes : (n + m) * bytes ≤ 140737488355328) (hbase : base ≤ w.heap.size)
    (h : ∀ v' w', w'.ownsRow base e size v' (n + m) (xs ++ news) → w.grownBy w' v.ownBlock → wpList P ops Q rest (a.put o.dst v') w') : wpList P ops Q (o :: rest) a w := by
  refine wpList_plain hgd fun K hK => ?_
  cases X with
  | some ad => exact wp_append_own w s x t ho base e i z size bytes ht hi hz hsize hby hzs hsz v n xs hs hown ad m c news hx hl (hnews ad rfl) h1 h63 hbytes hbase fun v' w' h2 h3 _ => hK _ _ (h v' w' h2 h3)
  | none =>
    obtain ⟨rfl, rfl⟩ := hX rfl
    have hn0 : news = [] := List.eq_nil_of_length_eq_zero (by omega)
    subst hn0
    have hrun := run_append_owned_none (P := P) (w := w) base t o.type e i size ht hi v n xs hown
    unfold Oper.wp
    simp [execOp, ho, resolve, invoke, builtin, hs, hx, hrun, Result.andThen]
    exact hK _ _ (h v w (by simpa using hown) ⟨rfl, rfl, rfl, Nat.le_refl _, fun _ _ _ => rfl⟩)

/-- What a list that a slot holds gives an append. -/
theorem VL.src {v : Value} {vs : List Veh} {w : World} (h : VL v vs w) : ∃ (A : Option Addr) (cap : Nat), v = .slice A vs.length cap ∧ (A = none → vs.length = 0 ∧ cap = 0) ∧ ∀ W', Below w.heap.size w W' → ∀ ad, A = some ad → ∀ j u, (vcells vs)[j]? = some u → W'.cell? (ad.add j) = some u := by
  obtain ⟨A, cap, rfl, hS, hV⟩ := h
  refine ⟨A, cap, rfl, ?_, ?_⟩
  · intro e
    rcases hS with ⟨_, a, b⟩ | ⟨_, _, e2, _⟩
    · exact ⟨a, b⟩
    · rw [e] at e2; cases e2
  · intro W' hb ad e j u hu
    rcases hS with ⟨e2, _⟩ | ⟨b, off, e2, _⟩
    · rw [e] at e2; cases e2
    · rw [e] at e2; injection e2 with e2
      subst e2
      rw [e] at hV
      have := vehs_take (hV.below hb) vs.length j u
      rw [List.take_length] at this
      exact this hu

theorem three_vehs (W : World) (N : Nat) (h : W.heap.size = N) (a0 a1 b0 b1 c0 c1 : Int) : Vehs (W.alloc (.cells #[.int .i64 a0, .int .i64 a1, .int .i64 b0, .int .i64 b1, .int .i64 c0, .int .i64 c1] 38)) (N + 1) (some ⟨N, 0, none⟩) [⟨a0, a1⟩, ⟨b0, b1⟩, ⟨c0, c1⟩] := by
  subst h
  have hb := (Box.new W 38 #[.int .i64 a0, .int .i64 a1, .int .i64 b0, .int .i64 b1, .int .i64 c0, .int .i64 c1])
  intro i hi
  refine ⟨W.heap.size, 0, rfl, by omega, ?_, ?_⟩
  · rw [hb.cell]
    match i, hi with
    | 0, _ => rfl
    | 1, _ => rfl
    | 2, _ => rfl
  · rw [hb.cell]
    match i, hi with
    | 0, _ => rfl
    | 1, _ => rfl
    | 2, _ => rfl

instance : Inhabited Veh := ⟨vz⟩
/-- A raw list of vehicles. -/
theorem raw_list {w : World} {v : Value} (h : Raw w 31 v) : ∃ vs : List Veh, VL v vs w ∧ vs.length ≤ 9223372036854775807 := by
  obtain ⟨H, enc, base, d, p, hv, n, ht⟩ := h
  have hc1 : Try.prog.cellsOf 3 = 1 := by kernel_rfl
  have hc2 : Try.prog.cellsOf 38 = 2 := by kernel_rfl
  have hspot : ∀ a len cap, v = .slice (some a) len cap → a.spot = none := by
    rintro a len cap rfl
    unfold Value.okWide Cell.okWide Cell.ok at hv
    simp only [Try.underlying31] at hv
    exact hv.2.2.2.1
  have hflat : ∀ u, v.cells.toList = [u] → (∀ cs, v ≠ .agg cs) → v = u := by
    intro u hu hn
    cases v <;> simp [Value.cells] at hu <;> first | exact hu | exact absurd rfl (hn _)
  have hn : ∀ cs, v ≠ .agg cs := by
    rintro cs rfl
    unfold Value.okWide Cell.okWide Cell.ok at hv
    simp only [Try.underlying31] at hv
  rcases Deep.open_slice_pairs Try.underlying31 Try.underlying38 hc2 rfl rfl hc1 hc1 ht with ⟨h0, _⟩ | ⟨a, len, cap, m, n', V0, V1, D0, D1, P0, P1, hcs, hb, hl, hm, hmm, _, hx⟩
  · obtain rfl := hflat _ h0 hn
    exact ⟨[], VL.nil w, by simp⟩
  · obtain rfl := hflat _ hcs hn
    have hlm : len ≤ m := by rw [hmm]; split <;> omega
    obtain ⟨b, off, spot⟩ := a
    obtain rfl : spot = none := hspot _ _ _ rfl
    have each : ∀ i, i < len → ∃ p : Veh, b < w.heap.size ∧ w.cell? ⟨b, off + i * 2, none⟩ = some (.int .i64 p.id) ∧ w.cell? ⟨b, off + i * 2 + 1, none⟩ = some (.int .i64 p.cl) := by
      intro i hi
      obtain ⟨g0, g1, t0, t1⟩ := hx i (by omega)
      obtain ⟨z0, e0, _⟩ := DataW.trod_int Try.underlying3 t0
      obtain ⟨z1, e1, _⟩ := DataW.trod_int Try.underlying3 t1
      simp at e0 e1
      rw [e0, Addr.add_lit] at g0
      rw [e1, Addr.add_lit] at g1
      exact ⟨⟨z0, z1⟩, World.block_lt_of_cell? w _ g0, g0, by rw [Nat.add_assoc]; exact g1⟩
    obtain ⟨f, hf⟩ := Deep.choose_lt each
    have hlen : ((List.range len).map f).length = len := by simp
    have hml : maxLen = 9223372036854775807 := rfl
    refine ⟨(List.range len).map f, ⟨some ⟨b, off, none⟩, cap, by rw [hlen], by rw [hlen]; exact .inr ⟨b, off, rfl, hl⟩, fun i hi => ?_⟩, by rw [hlen]; omega⟩
    rw [hlen] at hi
    obtain ⟨hb', h0, h1⟩ := hf i hi
    have e : ((List.range len).map f).getD i vz = f i := by simp [List.getD, hi]
    exact ⟨b, off, rfl, hb', by rw [e]; exact h0, by rw [e]; exact h1⟩
/-- A raw vehicle. -/
theorem raw_veh {w : World} {v : Value} (h : Raw w 38 v) : ∃ a b : Int, v = .agg #[.int .i64 a, .int .i64 b] := by
  obtain ⟨H, enc, base, d, p, hv, ht⟩ := h
  obtain ⟨c0, c1, y0, y1, m, rfl, rfl, rfl, h0, h1⟩ := Joins.open_agg2 Try.underlying38 (by kernel_rfl) (by kernel_rfl) hv ht
  obtain ⟨a, e0, _⟩ := DataW.trod_int Try.underlying3 h0
  obtain ⟨b, e1, _⟩ := DataW.trod_int Try.underlying3 h1
  simp at e0 e1
  subst e0 e1
  exact ⟨a, b, rfl⟩

end Go.Proofs.Ytobeediccmmjhaa
