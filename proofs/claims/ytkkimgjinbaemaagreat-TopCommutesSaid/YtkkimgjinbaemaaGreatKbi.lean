/- The walk. -/
import Derived.Test.YtkkimgjinbaemaaGreatKbh
namespace Go.Proofs.YtkkimgjinbaemaaGreat
open Go.RowKit
set_option linter.unusedVariables false
set_option linter.unusedSimpArgs false
set_option maxRecDepth 100000
set_option maxHeartbeats 4000000
theorem Br.lit_eq {C : VC} {v u : Value} (h : Br C (.lit v) u) : u = v := by
 cases h
 rfl
theorem Br.nil_eq {C : VC} {k : Nat} {u : Value} (h : Br C (.nil k) u) : ∃ A, u = .slice A 0 0 := by
 cases h
 exact ⟨_, rfl⟩
theorem Ak4 {P : Program} {f : FuncId} (hc : Aa9 P f) (args : List AV) (ty k : Nat) (hk : 0 < k)
 (hraw : ∀ (C : VC) (us : Array Value) (w : World), us.size = args.length -> (∀ t, Br C (Ce (E8 0 args) t) (us.getD t undef)) -> Calls P f us w fun e w' => ∃ v, e = .returned v /\ (w'.ownsRow w.heap.size ty k v 0 [] \/ ∃ A, v = .slice A 0 0) /\ Below w.heap.size w w') : B8 P f [] args [.row ty k true false []] (.own 0 0) := by
 refine ⟨hc, fun E β us hn ho hβ r => ?_⟩
 have hsz : us.size = args.length := by
  have := r.sz
  rw [hn] at this
  exact this
 refine (hraw _ us E.w0 hsz r.sl).mono ?_
 rintro e w' ⟨v, rfl, hown, hb⟩
 have hkp : Kp (fun _ => False) E.w0 w' := ⟨hb.os, hb.tape, hb.output, hb.size, fun b hb' _ => hb.block b hb'⟩
 have r1 := r.grow hkp
 have hgone : ∀ id, (St.mk (E8 0 args) []).o id = .gone := fun id => by simp [St.o]
 have ho0 : ∀ id, E.o0 id = .gone := fun id => by rw [ho]; simp [St.o]
 have hct : ∀ C : VC, Ahw E.w0.heap E.o0 E.β0 C := fun C => ⟨fun id ty cs h => (by rw [ho0] at h; cases h), fun id ty k fr fz es h => (by rw [ho0] at h; cases h)⟩
 have hst : ∀ id, (St.mk [(0, AV.own 0 0)] [Ob.row ty k true false []]).o id = if id = 0 then .row ty k true false [] else .gone := fun id => by
  cases id with
  | zero => rfl
  | succ n => simp [St.o]
 have hds := r1.df
 have fin : ∀ β' : Nat -> Option Nat, (∀ b, β' 0 = some b -> b < w'.heap.size /\ E.w0.heap.size <= b) -> Br (({ E with n := 1 } : Ent).C β' ⟨[(0, .own 0 0)], [.row ty k true false []]⟩ w') (.own 0 0) v -> Hi (({ E with n := 1 } : Ent).C β' ⟨[(0, .own 0 0)], [.row ty k true false []]⟩ w') 0 (.row ty k true false []) ->
  Rel { E with n := 1 } β' ⟨[(0, .own 0 0)], [.row ty k true false []]⟩ ⟨#[v], []⟩ w' := fun β' h1 h2 h3 => by
  refine ⟨rfl, fun t => ?_, hds, fun id => ?_, fun i j b hi hj _ _ => ?_, fun i b hi hb' => ?_, r1.kp, hct _, r1.kb, r1.dk⟩
  ·cases t with
   | zero => exact h2
   | succ t => simp [Ce]; exact .any _
  ·rw [hst]
   by_cases e : id = 0
   ·subst e; exact h3
   rw [if_neg e]; trivial
  ·rw [hst] at hi hj
   have e1 : i = 0 := by
    by_cases e : i = 0
    ·exact e
    rw [if_neg e] at hi; exact absurd rfl hi
   have e2 : j = 0 := by
    by_cases e : j = 0
    ·exact e
    rw [if_neg e] at hj; exact absurd rfl hj
   rw [e1, e2]
  rw [hst] at hi
  have e1 : i = 0 := by
   by_cases e : i = 0
   ·exact e
   rw [if_neg e] at hi; exact absurd rfl hi
  subst e1
  have := h1 b hb'
  exact ⟨this.1, .inl this.2⟩
 have h2 : (∃ A, v = .slice A 0 0) \/ ∃ g cap cur, v = .slice (some ⟨g, 0, none⟩) 0 cap /\ E.w0.heap.size <= g /\ w'.heap[g]? = some (.cells cur ty (0, 0)) /\ cap <= maxLen /\ cur.size = cap * k := by
  rcases hown with ⟨_, ⟨rfl, _⟩ | ⟨g, cap, cur, h1, h2, h3, _, h5, h6, _⟩⟩ | hA
  ·exact .inl ⟨_, rfl⟩
  ·exact .inr ⟨g, cap, cur, h1, h2, h3, h5, h6⟩
  exact .inl hA
 rcases h2 with ⟨A, rfl⟩ | ⟨g, cap, cur, rfl, hg, hh, hml, hcs⟩
 ·refine ⟨_, fun _ => none, rfl, fin _ (fun b h => by cases h) (.own _ _ _ ⟨rfl, ty, k, true, false, [], rfl, Aj _, fun _ => ?_⟩) ⟨⟨hk, fun i e he => by simp at he⟩, ?_⟩⟩
  ·exact ⟨A, rfl⟩
  show ([] : List (List T)) = []
  rfl
 refine ⟨_, fun _ => some g, rfl, fin _ (fun b h => ?_) (.own _ _ _ ⟨rfl, ty, k, true, false, [], rfl, Aj _, fun _ => ?_⟩) ⟨⟨hk, fun i e he => by simp at he⟩, ?_⟩⟩
 ·injection h with h
  subst h
  exact ⟨(Aw.1 hh).1, hg⟩
 ·exact ⟨cap, cur, hh, hcs, rfl⟩
 exact ⟨cur, cap, hh, hcs, Ae _, hml, fun i e j x he => by simp at he⟩
theorem U4 {P : Program} (A : Option Addr) (w : World) (t tn ty e : TypeId) (i : TypeInfo) (z : Value) (k kn : IntKind) (ht : P.underlying t = some (.slice e)) (htn : P.underlying tn = some (.int kn)) (hi : P.info? e = some i) (hz : i.zero = some z)
 (n : Nat) (h0 : 0 < n) (hs : 0 < i.size) (h63 : (n : Int) <= 9223372036854775807) (h48 : n * i.bytes <= 281474976710656) :
  (Builtin.append_ #[t, tn] ty #[.slice A 0 0, .int k n]).run P w =
   .ok (.slice (some ⟨w.heap.size, 0, none⟩) n (grownCap w n 0 e)) (w.drew.alloc (.cells (Builtin.zeroCells z.cells n ++ Builtin.zeroCells z.cells (grownCap w n 0 e - n)) e)) := by
 have hn : n ≠ 0 := by omega
 have hw : IntKind.i64.wrap (n : Int) = n := by rw [IntKind.wrap_i64]; omega
 have h63' : ¬ (9223372036854775807 < (n : Int)) := by omega
 have h48' : ¬ (281474976710656 < Builtin.nextslicecap n 0 * i.bytes) := by rw [nextslicecap_zero h0]; omega
 have h48i : ¬ (281474976710656 < (n : Int) * (i.bytes : Int)) := by
  rw [<- Int.natCast_mul]
  omega
 have hneg : ¬ ((n : Int) < 0) := by omega
 have hns : ¬ (n * i.size = 0) := Nat.mul_ne_zero hn (by omega)
 have hf : ∀ w1 : World, (Builtin.firstCells i.size 0 (.slice A 0 0)).run P w1 = .ok #[] w1 := fun w1 => by
  cases A with
  | none => exact run_firstCells_none ..
  | some a => simp [Builtin.firstCells, loadCells, loadCellsFrom]
 simp [Builtin.append_, run_underlying ht, run_underlying htn, sizeOf, typeInfo, zeroValue, hi, hz, asInt, asIntOf, hw, hn, hneg, hns, h63', h48', h48i, Question.forced, hf, newRow, grownCap]
theorem As8 : (Tryz.prog.info? 216).map (fun i => (i.zero, i.size, i.bytes)) = some (some (.agg #[.int .i64 0, .int .i64 0]), 2, 16) := by kernel_rfl
theorem Z0 (z : Array Value) (n : Nat) : (Builtin.zeroCells z n).size = n * z.size := by simp [Builtin.zeroCells]
theorem Alk (A : Option Addr) (n : Nat) (hn : n <= 100000) (w : World) :
 Calls Tryz.prog 278 #[.slice A 0 0, .int .i64 (n : Int)] w fun e w' => ∃ v, e = .returned v /\ (w'.ownsRow w.heap.size 216 2 v 0 [] \/ ∃ A, v = .slice A 0 0) /\ Below w.heap.size w w' := by
 go_enter Tryz.func278, Tryz.ntmps278
 by_cases h0 : n = 0
 ·subst h0
  go_wp2_with fail
  go_ret
  exact ⟨_, rfl, .inr ⟨A, rfl⟩, Below.refl _ _⟩
 have h1 : (0 : Int) < (n : Int) := by omega
 obtain ⟨i, hi, hzz⟩ := Option.map_eq_some_iff.1 As8
 simp only [Prod.mk.injEq] at hzz
 obtain ⟨hz, hs, hb⟩ := hzz
 have hrun := U4 A (P := Tryz.prog) w 62 3 62 216 i (.agg #[.int .i64 0, .int .i64 0]) .i64 .i64 Tryz.underlying62 Tryz.underlying3 hi hz n (by omega) (by omega) (by omega) (by rw [hb]; omega)
 have hge := grownCap_ge w n 0 216
 have hle := grownCap_le_maxLen w n 0 216 (by unfold maxLen; omega)
 generalize grownCap w n 0 216 = cap2 at hrun hge hle
 generalize hZ : (Builtin.zeroCells (Value.agg #[.int .i64 0, .int .i64 0]).cells n ++ Builtin.zeroCells (Value.agg #[.int .i64 0, .int .i64 0]).cells (cap2 - n)) = Z at hrun
 have hZs : Hid (Z.size = cap2 * 2) := Lib.hid (by
  rw [<- hZ, Array.size_append, Z0, Z0]
  have : (Value.agg #[.int .i64 0, .int .i64 0]).cells.size = 2 := rfl
  rw [this]; omega)
 have hleH := Lib.hid hle
 have hrunH := Lib.hid hrun
 clear hZ hle hrun
 go_wp2_with (at_builtin; refine Lib.wpList_append_run _ rfl _ _ _ _ rfl _ _ rfl rfl _ _ hrunH.out ?_)
 go_ret
 exact ⟨_, rfl, .inl ⟨rfl, .inr ⟨w.heap.size, cap2, Z, rfl, Aj _, heap_alloc_new _ _, Ae _, hleH.out, hZs.out, rfl⟩⟩, Ahk ((Below.refl _ _).alloc (Aj _) _) 1⟩
theorem Zt (n : Nat) (hn : n <= 100000) : PP 278 [] [.nil 0, .li (n : Int)] [.row 216 2 true false []] (.own 0 0) := by
 refine Ak4 ⟨_, Tryz.func278, rfl, rfl⟩ [.nil 0, .li (n : Int)] 216 2 (by decide) fun C us w hsz hus => ?_
 obtain ⟨A, h0⟩ := Br.nil_eq (hus 0)
 have h1 := Br.lit_eq (hus 1)
 have e : us = #[.slice A 0 0, .int .i64 (n : Int)] := by
  obtain ⟨l⟩ := us
  match l, hsz with
  | [a, b], _ =>
   simp at h0 h1
   rw [h0, h1]
 rw [e]
 exact Alk A n hn w
abbrev Ack (l : List (List Eg)) : List (List T) := l.map fun x => [.sl 2 (Yi x)]
theorem Aib (n : Int) (h0 : 0 <= n) (hn : n <= 100000) : PP 278 [] [.nil 0, .li n] [.row 216 2 true false []] (.own 0 0) := by
 have := Zt n.toNat (by omega)
 rwa [Int.toNat_of_nonneg h0] at this
theorem Ji (ls : List (List Eg)) (hl : ls.length <= 10) (hs : ∀ x ∈ ls, x.length <= 1000) : ∃ d : List Eg, PP 261 [] [.imm false 1 (Ack ls)] [.row 216 2 false false (Yi d)] (.own 0 d.length) /\ (d.length = (ls.map List.length).sum) := by
 refine Km (D := List Eg) (F := fun d => .own 0 d.length) (S := fun d => [.row 216 2 false false (Yi d)]) (Q := fun d => d.length = (ls.map List.length).sum) Tryz.func261 rfl rfl rfl (by simp [Tryz.ntmps261]) ?_
 refine VX.R ?_
 refine VX.R <| .seq ?_
 refine VX.R <| .block ?_
 refine VX.rangeE ls.length (fun i1 (y1 : Int) => ⟨[(0, .imm false 1 (Ack ls)), (3, .li y1), (9, .imm false 1 (Ack ls)), (10, .li ls.length), (11, .li i1)], []⟩) (fun i1 y1 => 0 <= y1 /\ y1 <= 1000 * i1) (0) (wk ok0 []) (by omega) fun i1 y1 hi1 hy1 => ?_
 refine VX.R <| .seq ?_
 refine VX.C ?_ ?_ <;> intro h12 <;> simp [go_sem] at h12
 ·refine VX.skip <| .seq <| .block ?_
  obtain ⟨e1, H1⟩ := gx ls i1
  refine VX.H H1 ?_
  have hb := hs e1 (Ac H1)
  have hw2 := Bq (y1 + e1.length : Int)
  refine VX.H (cj2 H1 hw2) ?_
  refine VX.H (cj2 H1 hw2) ?_
  refine VX.C ?_ ?_ <;> intro h20 <;> simp [go_sem] at h20
  ·exfalso; omega
  refine VX.skip <| .H1 (cj2 H1 hw2) ?_
  refine ⟨by omega, ((y1 + e1.length)), ?_, wk (cj3 (Bq ((i1 : Int) + 1)) H1 hw2) []⟩
  omega
 refine VX.exit <| .S (fun K kk => by simp [go_sem]; refine .by (Aib y1 hy1.1 (by omega)) (LeL.refl _) (by simp) ?_; simp [go_sem]; exact kk) <| .seq ?_
 refine VX.R <| .block ?_
 refine VX.rangeE ls.length (fun i2 (y2 : (List Eg)) => ⟨[(6, .own 0 y2.length), (25, .imm false 1 (Ack ls)), (26, .li ls.length), (27, .li i2)], [.row 216 2 false false (Yi y2)]⟩) (fun i2 y2 => y2.length = ((ls.take i2).map List.length).sum /\ y2.length <= 1000 * i2) ([]) (wk ok0 [0]) (by simp) fun i2 y2 hi2 hy2 => ?_
 refine VX.R <| .seq ?_
 refine VX.C ?_ ?_ <;> intro h28 <;> simp [go_sem] at h28
 ·refine VX.skip <| .seq <| .block ?_
  obtain ⟨e3, H3⟩ := gx ls i2
  refine VX.H H3 ?_
  have hb := hs e3 (Ac H3)
  refine VX.H1 H3 ?_
  refine VX.H1 H3 ?_
  exact ⟨by omega, (y2 ++ e3), ⟨by rw [List.take_add_one, H3]; simp [hy2.1], by simp; omega⟩, wk (cj2 (Bq ((i2 : Int) + 1)) H3) [0]⟩
 refine VX.exit <| .R ?_
 exact .ret ⟨y2, rW ok0 [0], (by dsimp only; rw [hy2.1, Bf (by omega)])⟩
noncomputable def Fv (ls : List (List Eg)) (hl : ls.length <= 10) (hs : ∀ x ∈ ls, x.length <= 1000) : List Eg := (Ji ls hl hs).choose
theorem T8 (ls : List (List Eg)) (hl : ls.length <= 10) (hs : ∀ x ∈ ls, x.length <= 1000) : PP 261 [] [.imm false 1 (Ack ls)] [.row 216 2 false false (Yi (Fv ls hl hs))] (.own 0 (Fv ls hl hs).length) := (Ji ls hl hs).choose_spec.1
theorem Io (ls : List (List Eg)) (hl : ls.length <= 10) (hs : ∀ x ∈ ls, x.length <= 1000) : (Fv ls hl hs).length = (ls.map List.length).sum := (Ji ls hl hs).choose_spec.2
theorem B8.fresh {P : Program} {f : FuncId} {σa : List Ob} {args : List AV} {ty k : Nat} {fr fz : Bool} {es : List (List T)} {res : AV} (h : B8 P f σa args [.row ty k fr fz es] res) (hp : es.all (fun e => e.all T.plain) = true) : B8 P f σa args [.row ty k true fz es] res :=
 ⟨h.1, fun E β us hn ho hβ r => (h.2 E β us hn ho hβ r).mono fun e w' ⟨v, β', he, r'⟩ => ⟨v, β', he, (r'.flag (id := 0) rfl (fun _ => .inr hp) (fun h => h)).1⟩⟩
theorem T7 (ls : List (List Eg)) (hl : ls.length <= 10) (hs : ∀ x ∈ ls, x.length <= 1000) : PP 261 [] [.imm false 1 (Ack ls)] [] (.imm true 2 (Yi (Fv ls hl hs))) := by
 have h := (T8 ls hl hs).fresh (by simp [T.plain, Eg.t])
 refine B8.froz (es := Yi (Fv ls hl hs)) (fz := false) (ty := 216) ?_
 simpa using h
theorem Amd {l : List Eg} {p : Nat} (hl : l.length <= 1000) : ∀ x ∈ [l.take p, l.drop (p + 1)], x.length <= 1000 := by
 intro x hx
 simp only [List.mem_cons, A8, or_false] at hx
 rcases hx with rfl | rfl
 ·rw [A5]; omega
 rw [Bc]; omega
theorem Vt (l : List Eg) (id : Int) (hl : l.length <= 1000) : Ct 237 [.mVeh l, .li id] (fun d : List Eg × Int => .tup [.mVeh d.1, .li d.2]) (fun d => d.1.length <= l.length) := by
 refine Cb Tryz.func237 ?_
 have hlM : l.length <= 1000000 := by omega
 have hq := Ym l id hlM
 have hv12 := Xz l id hlM
 obtain ⟨p, hp⟩ : ∃ p : Nat, Jd l id hlM = p := ⟨_, (Int.toNat_of_nonneg hq.1).symm⟩
 rw [hp] at hv12 hq
 refine VX.R <| .seq ?_
 refine VX.S (fun K kk => by simp [go_sem]; refine .l (X0 l hlM) ?_; simp [go_sem]; exact kk) ?_
 refine VX.C ?_ ?_ <;> intro h9 <;> simp [go_sem] at h9
 ·refine VX.R ?_
  refine VX.ret (Co ?_); simp [go_sem]
  exact ⟨([], 1), by first | rfl | simp [go_sem], (by first | (dsimp only; exact Ae _) | (dsimp only; rw [Io]; simp only [List.map_cons, List.map_nil, List.sum_cons, List.sum_nil, A5, Bc]; omega))⟩
 refine VX.skip <| .S (fun K kk => by simp [go_sem]; refine .l (hv12) ?_; simp [go_sem]; exact kk) <| .seq ?_
 by_cases hc4 : p < l.length
 ·obtain ⟨e1, H1⟩ := gx l ((p : Int).toNat)
  refine VX.S (fun K kk => by simp [go_sem, hc4, H1]; repeat first | exact kk | refine aK ?_) ?_
  refine VX.C ?_ ?_ <;> intro h25 <;> simp [go_sem] at h25
  ·refine VX.S (fun K kk => by simp [go_sem, hc4, H1]; exact kk) ?_
   refine VX.ret (Co ?_); simp [go_sem, hc4, H1]
   exact ⟨([], 12), by first | rfl | simp [go_sem], (by first | (dsimp only; exact Ae _) | (dsimp only; rw [Io]; simp only [List.map_cons, List.map_nil, List.sum_cons, List.sum_nil, A5, Bc]; omega))⟩
  refine VX.skip ?_
  have hw2 := Bq ((p : Int) + 1 : Int)
  refine VX.E (fun K kk => by simp [go_sem, hc4, H1, hw2]; (repeat refine aK ?_); refine .lo (T7 [l.take p, l.drop (p + 1)] (by simp) (Amd hl)) (by simp [AV.low, Gk, List.map_take, List.map_drop]) (by simp [AV.cln, Cp]) ?_; simp [go_sem, hc4, H1, hw2]; exact kk) ?_
  refine VX.ret (Co ?_); simp [go_sem, hc4, H1, hw2]
  exact ⟨((Fv [l.take p, l.drop (p + 1)] (by simp) (Amd hl)), 0), by first | rfl | simp [go_sem], (by first | (dsimp only; exact Ae _) | (dsimp only; rw [Io]; simp only [List.map_cons, List.map_nil, List.sum_cons, List.sum_nil, A5, Bc]; omega))⟩
 have hpe : (p : Int) = (l.length : Int) := by omega
 refine VX.S (fun K kk => by simp [go_sem, hc4, hpe]; repeat first | exact kk | refine aK ?_) ?_
 refine VX.C ?_ ?_ <;> intro h25 <;> simp [go_sem] at h25
 refine VX.S (fun K kk => by simp [go_sem, hc4, hpe]; exact kk) ?_
 refine VX.ret (Co ?_); simp [go_sem, hc4, hpe]
 exact ⟨([], 12), by first | rfl | simp [go_sem], (by first | (dsimp only; exact Ae _) | (dsimp only; rw [Io]; simp only [List.map_cons, List.map_nil, List.sum_cons, List.sum_nil, A5, Bc]; omega))⟩
theorem Zw {l : List Dc} {s : Int} (h : Ee l s = true) : 0 <= s /\ s < l.length := by
 unfold Ee at h
 simp only [Ah, decide_eq_true_eq] at h
 cases hl : l[s.toNat]? with
 | none => rw [hl] at h; exact Bool.noConfusion h.2
 | some t => have := (Ab.1 hl).1; omega
theorem Aii : Rd ⟨0, ⟨[], 0, 0, [], 0, 0, 0, 0⟩, [], [], ⟨0, 0, 0⟩⟩ := by constructor <;> simp
def E4 (m : B3) : Prop := m.tok.length <= 2000 /\ m.args.length <= 2000 /\ m.data.length <= 2000
theorem Arb {m : B3} {h : 1 <= m.args.length} {h2 : m.args.length <= 1000000} : E4 (Er m h h2) := by
 have := Aad m h h2
 unfold E4
 rw [this.2.1, this.2.2.1, this.2.2.2]
 simp
theorem Tb (r : I4) (m : B3) (slot : Int) (now : Int) (sec : List Int) (hb : Rd r) (hv9 : r.vehs.length <= 9) (h1 : m.tok.length <= 2000) (h2 : m.args.length <= 2000) (h3 : m.data.length <= 2000) (a2 : m.kind = 2 -> 3 <= m.args.length) (a1 : m.kind = 3 \/ m.kind = 4 \/ m.kind = 5 -> 1 <= m.args.length) (a4 : m.kind = 4 -> 2 <= m.args.length) (hs : sec.length <= 1000) : Ct 210 [r.g, m.g, .li slot, .li now, .mY sec] (fun d : I4 × B3 × Bool × Int => .tup [d.1.g, d.2.1.g, .lb d.2.2.1, .li d.2.2.2]) (fun d => Rd d.1 /\ d.1.vehs.length <= 9 /\ (d.2.2.2 = 0 -> d.1.num = r.num /\ d.1.ag = r.ag) /\ E4 d.2.1) := by
 refine Cb Tryz.func210 ?_
 have h2M : m.args.length <= 1000000 := by omega
 have hv : r.vehs.length <= 1000 := by omega
 refine VX.R <| .seq ?_
 refine VX.region_seq (by rfl) fun K1 hK1 => ?_
 simp [go_sem]
 obtain ⟨Y1, cY1, qY1⟩ := got (V3 r hb)
 refine .l cY1 ?_
 simp [go_sem]
 refine Bz (by simp [go_sem]) (by simp [go_sem]) ?_
 simp [go_sem]
 obtain ⟨Y2, cY2, qY2⟩ := got (I7 m (by omega) (by omega) (by omega))
 first | refine .lo cY2 rfl (by simp [AV.cln, Cp]) ?_ | refine .skip ?_
 simp [go_sem]
 refine Bz (by simp [go_sem]) (by simp [go_sem]) ?_
 simp [go_sem]
 first | refine .lo (X5 r.toks slot) rfl (by simp [AV.cln, Cp]) ?_ | refine .skip ?_
 simp [go_sem]
 refine hK1 _ ?_; clear hK1
 refine VX.C ?_ ?_ <;> intro h31 <;> simp [go_sem] at h31
 ·refine VX.R ?_
  exact .ret (fin ok0 (⟨0, ⟨[], 0, 0, [], 0, 0, 0, 0⟩, [], [], ⟨0, 0, 0⟩⟩, ⟨0, [], [], []⟩, false, 1) ⟨Aii, Ae _, fun h => absurd h (by decide), by simp [E4]⟩)
 have hu := Zw (l := r.toks) (s := slot) (by first | exact h31.2 | exact h31.2.2 | (simp at h31; exact h31.2))
 refine VX.skip <| .seq <| .R ?_
 refine VX.C ?_ ?_ <;> intro h41 <;> simp [go_sem] at h41
 ·refine VX.R ?_
  exact .ret (fin ok0 (⟨0, ⟨[], 0, 0, [], 0, 0, 0, 0⟩, [], [], ⟨0, 0, 0⟩⟩, ⟨0, [], [], []⟩, false, 1) ⟨Aii, Ae _, fun h => absurd h (by decide), by simp [E4]⟩)
 refine VX.skip <| .L ok0 (K9 r hb) ?_
 refine VX.R ?_
 refine VX.R <| .seq ?_
 refine VX.R <| .block ?_
 refine VX.R ?_
 refine VX.C ?_ ?_ <;> intro h49 <;> simp [go_sem] at h49
 ·obtain ⟨Y3, cY3, qY3⟩ := S0 r m.args slot now sec hb (a2 h49) hs
  refine VX.S1 (fun K kk => by simp [go_sem]; refine .o [4] cY3 ?_; simp [go_sem]; exact kk) <| .seq ?_
  refine VX.R ?_
  refine VX.C ?_ ?_ <;> intro h104 <;> simp [go_sem] at h104
  ·refine VX.R ?_
   exact .ret (fin ok0 (⟨0, ⟨[], 0, 0, [], 0, 0, 0, 0⟩, [], [], ⟨0, 0, 0⟩⟩, ⟨0, [], [], []⟩, false, Y3.2.1) ⟨Aii, Ae _, fun h => absurd h (by first | exact h104 | decide), by simp [E4]⟩)
  refine VX.skip <| .D ?_
  exact .ret (fin ok0 (Y3.2.2, Y3.1, ((m.kind : Int) == 2), 0) ⟨qY3.1, by dsimp only; rw [qY3.2.2.2.1]; exact hv9, fun _ => ⟨qY3.2.1, qY3.2.2.1⟩, (by have hd := qY3; refine ⟨by dsimp only; rw [hd.2.2.2.2.2.1]; exact Ae _, by dsimp only; omega, by dsimp only; omega⟩)⟩)
 refine VX.R ?_
 refine VX.C ?_ ?_ <;> intro h60 <;> simp [go_sem] at h60
 ·have ha := a1 (.inl h60)
  obtain ⟨e1, H1⟩ := gx m.args 0
  obtain ⟨Y4, cY4, qY4⟩ := got (Zf r.toks e1 hb.toks hb.tsec)
  refine VX.M H1 cY4 ?_
  refine VX.L1 H1 (Nc m ha h2M) <| .seq ?_
  refine VX.H H1 ?_
  refine VX.C ?_ ?_ <;> intro h104 <;> simp [go_sem] at h104
  ·refine VX.H H1 ?_
   exact .ret (fin H1 (⟨0, ⟨[], 0, 0, [], 0, 0, 0, 0⟩, [], [], ⟨0, 0, 0⟩⟩, ⟨0, [], [], []⟩, false, Y4.2) ⟨Aii, Ae _, fun h => absurd h (by first | exact h104 | decide), by simp [E4]⟩)
  refine VX.skip <| .G H1 ?_
  exact .ret (fin H1 (⟨r.num, r.ag, Y4.1, r.vehs, r.bk⟩, (Er m ha h2M), ((m.kind : Int) == 2), 0) ⟨⟨hb.sec, hb.lims, Ak qY4.1 hb.toks, qY4.2, hb.vehs⟩, hv9, fun _ => ⟨rfl, rfl⟩, Arb (h := ha) (h2 := h2M)⟩)
 refine VX.R ?_
 refine VX.C ?_ ?_ <;> intro h75 <;> simp [go_sem] at h75
 ·have ha := a1 (.inr (.inl h75))
  obtain ⟨Y5, cY5, qY5⟩ := got (Sz r m.args slot hb (a4 h75) h2M hu.1 hu.2)
  refine VX.L ok0 cY5 ?_
  refine VX.L1 ok0 (Nc m ha h2M) <| .seq ?_
  refine VX.R ?_
  refine VX.C ?_ ?_ <;> intro h104 <;> simp [go_sem] at h104
  ·refine VX.R ?_
   exact .ret (fin ok0 (⟨0, ⟨[], 0, 0, [], 0, 0, 0, 0⟩, [], [], ⟨0, 0, 0⟩⟩, ⟨0, [], [], []⟩, false, Y5.2) ⟨Aii, Ae _, fun h => absurd h (by first | exact h104 | decide), by simp [E4]⟩)
  refine VX.skip <| .D ?_
  exact .ret (fin ok0 (⟨r.num, r.ag, r.toks, Y5.1, r.bk⟩, (Er m ha h2M), ((m.kind : Int) == 2), 0) ⟨⟨hb.sec, hb.lims, hb.toks, hb.tsec, by have := qY5; dsimp only; omega⟩, qY5, fun _ => ⟨rfl, rfl⟩, Arb (h := ha) (h2 := h2M)⟩)
 refine VX.R ?_
 refine VX.C ?_ ?_ <;> intro h88 <;> simp [go_sem] at h88
 ·have ha := a1 (.inr (.inr h88))
  obtain ⟨e2, H2⟩ := gx m.args 0
  obtain ⟨Y6, cY6, qY6⟩ := got (Vt r.vehs e2 hv)
  refine VX.M H2 cY6 ?_
  refine VX.L1 H2 (Nc m ha h2M) <| .seq ?_
  refine VX.H H2 ?_
  refine VX.C ?_ ?_ <;> intro h104 <;> simp [go_sem] at h104
  ·refine VX.H H2 ?_
   exact .ret (fin H2 (⟨0, ⟨[], 0, 0, [], 0, 0, 0, 0⟩, [], [], ⟨0, 0, 0⟩⟩, ⟨0, [], [], []⟩, false, Y6.2) ⟨Aii, Ae _, fun h => absurd h (by first | exact h104 | decide), by simp [E4]⟩)
  refine VX.skip <| .G H2 ?_
  exact .ret (fin H2 (⟨r.num, r.ag, r.toks, Y6.1, r.bk⟩, (Er m ha h2M), ((m.kind : Int) == 2), 0) ⟨⟨hb.sec, hb.lims, hb.toks, hb.tsec, by have := qY6; dsimp only; omega⟩, Ak qY6 hv9, fun _ => ⟨rfl, rfl⟩, Arb (h := ha) (h2 := h2M)⟩)
 refine VX.skip <| .seq <| .R ?_
 refine VX.C ?_ ?_ <;> intro h104 <;> simp [go_sem] at h104
 refine VX.R ?_
 exact .ret (fin ok0 (⟨0, ⟨[], 0, 0, [], 0, 0, 0, 0⟩, [], [], ⟨0, 0, 0⟩⟩, ⟨0, [], [], []⟩, false, 1) ⟨Aii, Ae _, fun h => absurd h (by first | exact h104 | decide), by simp [E4]⟩)
theorem E4.v {m : B3} (h : E4 m) : m.tok.length <= 10000 /\ m.args.length <= 10000 /\ m.data.length <= 10000 := ⟨Ak h.1 (by decide), Ak h.2.1 (by decide), Ak h.2.2 (by decide)⟩
open Classical in
noncomputable def Nn (m : B3) : Bool := if h : E4 m then !Je m h.v.1 h.v.2.1 h.v.2.2 else true
theorem X8 (m : B3) (h : E4 m) : PP 133 [] [m.g] [] (.lb (Nn m)) := by
 have hb : Nn m = !Je m h.v.1 h.v.2.1 h.v.2.2 := by unfold Nn; rw [dif_pos h]
 rw [hb]
 refine B0 Tryz.func133 ?_
 refine VW.R ?_
 refine VW.L ok0 (X9 m h.v.1 h.v.2.1 h.v.2.2) ?_
 exact .ret (rL ok0)
theorem Ge (l : List B3) (hl : l.length <= 1000000) (hm : ∀ t ∈ l, E4 t) :
 ∃ R : List (List T), PP 100 [.row 56 4 false false (Nw l)] [.own 0 l.length] [.row 56 4 false true R] (.mMsg (l.filter fun t => !Nn t)) /\ True := by
 obtain ⟨R, hR, _⟩ := Ru l 133 [] Nn hl ⟨fun _ => rfl, fun _ => rfl, fun _ => trivial, rfl, rfl⟩ fun t ht => X8 t (hm t ht)
 refine Y8 (D := List (List T)) (F := fun d => .mMsg (l.filter fun t => !Nn t)) (S := fun d => [.row 56 4 false true d]) (Q := fun d => True) Tryz.func100 rfl rfl rfl (by simp [Tryz.ntmps100]) ?_
 refine VX.R ?_
 refine VX.S (fun K kk => by simp [go_sem]; refine .o [0] hR ?_; simp [go_sem]; exact kk) ?_
 exact .ret ⟨R, rW ok0 [0], trivial⟩
end Go.Proofs.YtkkimgjinbaemaaGreat
