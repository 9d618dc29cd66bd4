/- The walk. -/
import Derived.Test.YtkkimgjinbaemaaGreatKaz
namespace Go.Proofs.YtkkimgjinbaemaaGreat
open Go.RowKit
set_option linter.unusedVariables false
set_option linter.unusedSimpArgs false
set_option maxRecDepth 100000
set_option maxHeartbeats 4000000
theorem F9 (k : Int) : Ct 74 [.li k] (fun d : F0 × Bool => .tup [d.1.g, .lb d.2]) (fun d => (0 <= d.1.tok /\ (k = 17 -> d = (⟨0, 1, 0, 0, 0, -1⟩, true))) /\ d.1.tok <= 10 /\ 0 <= d.1.fix /\ d.1.fix <= 4 /\ 0 <= d.1.grp /\ d.1.grp <= 4 /\ 0 <= d.1.lea /\ d.1.mos <= 100 /\ (k = 2 -> d.1.fix = 3) /\ (k = 4 -> d.1.fix = 2) /\ (k = 6 -> d.1.fix = 3) /\ ((k = 3 \/ k = 5 \/ k = 7 \/ k = 8 \/ k = 10 \/ k = 11) -> d.1.fix = 1)) := by
 refine Cb Tryz.func74 ?_
 refine VX.R <| .seq ?_
 refine VX.R <| .block ?_
 refine VX.orcases2 (by rfl) fun K1 hK1 => ?_
 simp [go_sem]
 refine hK1 _ ⟨_, _, _, _, _, _, _, _, rfl, .more (by decide) rfl rfl (.one (by decide) rfl rfl), by decide, rfl, by simp [go_sem]; rfl, by simp [go_sem]; rfl, by simp [go_sem], ?_⟩; clear hK1
 refine VX.C ?_ ?_ <;> intro h5 <;> simp [go_sem] at h5
 ·refine VX.R ?_
  exact .ret (fin ok0 (⟨10, 0, 0, 0, 0, 0⟩, true) ⟨⟨by (try dsimp only); omega, by first | (intro _; rfl) | (intro h; omega)⟩, by (try dsimp only); omega⟩)
 refine VX.R ?_
 refine VX.C ?_ ?_ <;> intro h10 <;> simp [go_sem] at h10
 ·refine VX.R ?_
  exact .ret (fin ok0 (⟨10, 3, 0, 0, 0, 0⟩, true) ⟨⟨by (try dsimp only); omega, by first | (intro _; rfl) | (intro h; omega)⟩, by (try dsimp only); omega⟩)
 refine VX.orcases2 (by rfl) fun K1 hK1 => ?_
 simp [go_sem]
 refine hK1 _ ⟨_, _, _, _, _, _, _, _, rfl, .more (by decide) rfl rfl (.more (by decide) rfl rfl (.more (by decide) rfl rfl (.one (by decide) rfl rfl))), by decide, rfl, by simp [go_sem]; rfl, by simp [go_sem]; rfl, by simp [go_sem], ?_⟩; clear hK1
 refine VX.C ?_ ?_ <;> intro h13 <;> simp [go_sem] at h13
 ·refine VX.R ?_
  exact .ret (fin ok0 (⟨10, 1, 0, 0, 0, 0⟩, true) ⟨⟨by (try dsimp only); omega, by first | (intro _; rfl) | (intro h; omega)⟩, by (try dsimp only); omega⟩)
 refine VX.R ?_
 refine VX.C ?_ ?_ <;> intro h20 <;> simp [go_sem] at h20
 ·refine VX.R ?_
  exact .ret (fin ok0 (⟨10, 2, 0, 0, 0, 0⟩, true) ⟨⟨by (try dsimp only); omega, by first | (intro _; rfl) | (intro h; omega)⟩, by (try dsimp only); omega⟩)
 refine VX.R ?_
 refine VX.C ?_ ?_ <;> intro h23 <;> simp [go_sem] at h23
 ·refine VX.R ?_
  exact .ret (fin ok0 (⟨10, 3, 4, 1, 3, 0⟩, true) ⟨⟨by (try dsimp only); omega, by first | (intro _; rfl) | (intro h; omega)⟩, by (try dsimp only); omega⟩)
 refine VX.R ?_
 refine VX.C ?_ ?_ <;> intro h26 <;> simp [go_sem] at h26
 ·refine VX.R ?_
  exact .ret (fin ok0 (⟨10, 1, 2, 1, 3, 0⟩, true) ⟨⟨by (try dsimp only); omega, by first | (intro _; rfl) | (intro h; omega)⟩, by (try dsimp only); omega⟩)
 refine VX.orcases2 (by rfl) fun K1 hK1 => ?_
 simp [go_sem]
 refine hK1 _ ⟨_, _, _, _, _, _, _, _, rfl, .more (by decide) rfl rfl (.one (by decide) rfl rfl), by decide, rfl, by simp [go_sem]; rfl, by simp [go_sem]; rfl, by simp [go_sem], ?_⟩; clear hK1
 refine VX.C ?_ ?_ <;> intro h29 <;> simp [go_sem] at h29
 ·refine VX.R ?_
  exact .ret (fin ok0 (⟨0, 2, 0, 0, 0, 0⟩, true) ⟨⟨by (try dsimp only); omega, by first | (intro _; rfl) | (intro h; omega)⟩, by (try dsimp only); omega⟩)
 refine VX.R ?_
 refine VX.C ?_ ?_ <;> intro h34 <;> simp [go_sem] at h34
 ·refine VX.R ?_
  exact .ret (fin ok0 (⟨0, 1, 0, 0, 0, 10⟩, true) ⟨⟨by (try dsimp only); omega, by first | (intro _; rfl) | (intro h; omega)⟩, by (try dsimp only); omega⟩)
 refine VX.orcases2 (by rfl) fun K1 hK1 => ?_
 simp [go_sem]
 refine hK1 _ ⟨_, _, _, _, _, _, _, _, rfl, .one (by decide) rfl rfl, by decide, rfl, by simp [go_sem]; rfl, by simp [go_sem]; rfl, by simp [go_sem], ?_⟩; clear hK1
 refine VX.C ?_ ?_ <;> intro h37 <;> simp [go_sem] at h37
 ·refine VX.R ?_
  exact .ret (fin ok0 (⟨0, 1, 0, 0, 0, (-1)⟩, true) ⟨⟨by (try dsimp only); omega, by first | (intro _; rfl) | (intro h; omega)⟩, by (try dsimp only); omega⟩)
 refine VX.R ?_
 refine VX.C ?_ ?_ <;> intro h41 <;> simp [go_sem] at h41
 ·refine VX.R ?_
  exact .ret (fin ok0 (⟨0, 1, 3, 0, 16, 0⟩, true) ⟨⟨by (try dsimp only); omega, by first | (intro _; rfl) | (intro h; omega)⟩, by (try dsimp only); omega⟩)
 refine VX.R ?_
 refine VX.C ?_ ?_ <;> intro h44 <;> simp [go_sem] at h44
 ·refine VX.R ?_
  exact .ret (fin ok0 (⟨0, 0, 2, 0, 4, 0⟩, true) ⟨⟨by (try dsimp only); omega, by first | (intro _; rfl) | (intro h; omega)⟩, by (try dsimp only); omega⟩)
 refine VX.R ?_
 refine VX.C ?_ ?_ <;> intro h47 <;> simp [go_sem] at h47
 ·refine VX.R ?_
  exact .ret (fin ok0 (⟨0, 4, 0, 0, 0, 0⟩, true) ⟨⟨by (try dsimp only); omega, by first | (intro _; rfl) | (intro h; omega)⟩, by (try dsimp only); omega⟩)
 refine VX.R ?_
 refine VX.C ?_ ?_ <;> intro h50 <;> simp [go_sem] at h50
 ·refine VX.R ?_
  exact .ret (fin ok0 (⟨0, 1, 0, 0, 0, 0⟩, true) ⟨⟨by (try dsimp only); omega, by first | (intro _; rfl) | (intro h; omega)⟩, by (try dsimp only); omega⟩)
 refine VX.skip <| .R ?_
 exact .ret (fin ok0 (⟨0, 0, 0, 0, 0, 0⟩, false) ⟨⟨by (try dsimp only); omega, by first | (intro _; rfl) | (intro h; omega)⟩, by (try dsimp only); omega⟩)
noncomputable def B5 (k : Int) : F0 × Bool := (got (F9 k)).choose
theorem Ut (k : Int) : PP 74 [] [.li k] [] (.tup [.agg ((B5 k).1.a false), .lit (.bool (B5 k).2)]) := (got (F9 k)).choose_spec.1
theorem Od (k : Int) : (0 <= (B5 k).1.tok /\ (k = 17 -> (B5 k) = (⟨0, 1, 0, 0, 0, -1⟩, true))) /\ (B5 k).1.tok <= 10 /\ 0 <= (B5 k).1.fix /\ (B5 k).1.fix <= 4 /\ 0 <= (B5 k).1.grp /\ (B5 k).1.grp <= 4 /\ 0 <= (B5 k).1.lea /\ (B5 k).1.mos <= 100 /\ (k = 2 -> (B5 k).1.fix = 3) /\ (k = 4 -> (B5 k).1.fix = 2) /\ (k = 6 -> (B5 k).1.fix = 3) /\ ((k = 3 \/ k = 5 \/ k = 7 \/ k = 8 \/ k = 10 \/ k = 11) -> (B5 k).1.fix = 1) := (got (F9 k)).choose_spec.2
theorem M9 (l : List Cz) (st : Int) (hl : l.length <= 1000000) : Ct 176 [.mLight l, .li st] (fun d : List Int => .mI d) (fun d => d.length = l.length) := by
 refine Cb Tryz.func176 ?_
 refine VX.R ?_
 refine VX.H ok0 <| .seq ?_
 refine VX.R <| .block ?_
 refine VX.rangeE l.length (fun i1 (y1 : (List Int)) => ⟨[(1, .li st), (5, .own 0 y1.length), (11, .mLight l), (12, .li l.length), (13, .li i1)], [.row 3 1 false false (tI y1)]⟩) (fun i1 y1 => y1.length = l.length) (List.replicate l.length 0) (wk ok0 [0]) (by simp) fun i1 y1 hi1 hy1 => ?_
 refine VX.R <| .seq ?_
 refine VX.C ?_ ?_ <;> intro h14 <;> simp [go_sem] at h14
 ·refine VX.skip <| .seq <| .block ?_
  obtain ⟨e1, H1⟩ := gx l i1
  refine VX.H H1 ?_
  obtain ⟨e2, H2⟩ := gx y1 i1
  refine VX.H (cj2 H1 H2) ?_
  refine VX.gen 0 rfl (by simp) (fun x : Int => [T.lit (Value.int IntKind.i64 x)]) l.length ?_ fun R hR => ?_
  ·apply G7
   ·repeat' first | exact Ii | exact Ih | exact Ig (x := 0) rfl | apply G3 | apply G5 | apply G4 | apply Ij | apply (fun h => Ie (x := _) h rfl) | apply (fun h => G6 (x := _) rfl h)
   first | rfl | omega | simp | (simp; omega)
  simp [go_sem, -Prod.exists]
  refine VX.H (cj3 H1 H2 hR) ?_
  refine VX.C ?_ ?_ <;> intro h25 <;> simp [go_sem] at h25
  ·obtain ⟨e3, H3⟩ := gx R i1
   refine VX.H1 (cj4 H1 H2 hR H3) ?_
   refine VX.H1 (cj4 H1 H2 hR H3) ?_
   refine ⟨by omega, ((R).set i1 1), ?_, wk (cj6 (Bq ((i1 : Int) + 1)) H1 H2 hR H3 hy1) [0]⟩
   first | omega | (simp; omega)
  refine VX.skip <| .H1 (cj3 H1 H2 hR) ?_
  refine ⟨by omega, (R), ?_, wk (cj5 (Bq ((i1 : Int) + 1)) H1 H2 hR hy1) [0]⟩
  first | omega | (simp; omega)
 refine VX.exit <| .R ?_
 refine VX.Z ok0 0 ?_
 exact .ret (fin ok0 y1 (by first | omega | (simp; omega)))
noncomputable def Ki (l : List Cz) (st : Int) (hl : l.length <= 1000000) : List Int := (got (M9 l st hl)).choose
theorem Zq (l : List Cz) (st : Int) (hl : l.length <= 1000000) : PP 176 [] [.mLight l, .li st] [] (.mI (Ki l st hl)) := (got (M9 l st hl)).choose_spec.1
theorem Aaf (l : List Cz) (st : Int) (hl : l.length <= 1000000) : (Ki l st hl).length = l.length := (got (M9 l st hl)).choose_spec.2
theorem Aeb {α β : Type} (f : α -> β) (l : List α) : List.take l.length (l.map f) = l.map f := by rw [Bf (by simp)]
attribute [go_sem] Aeb
theorem Ajw (l : List Int) : ∀ (f : Nat) (n : Int) (i : Nat), (S4 l f n i).2.2 = 0 -> 0 <= (S4 l f n i).2.1 /\ (S4 l f n i).2.1 <= l.length
 | 0, n, i, h => by simp [S4] at h
 | f + 1, n, i, h => by
  cases hx : l[i]? with
  | none => simp [S4, hx] at h
  | some x =>
   have hi := (Ab.1 hx).1
   rw [Adt hx] at h ⊢
   split at h
   ·simp at h
   rename_i h1
   rw [if_neg h1]
   split at h
   ·rename_i h2
    rw [if_pos h2]
    exact Ajw l f _ _ h
   rename_i h2
   rw [if_neg h2]
   split at h
   ·simp at h
   rename_i h3
   rw [if_neg h3]
   simp
   omega
theorem Amb {l : List Int} (h : (Td l).2.2 = 0) : 0 <= (Td l).2.1 /\ (Td l).2.1 <= l.length := Ajw l 6 0 0 h
theorem Aq9 (x : Int) : 0 <= Cm .and .u8 x 127 /\ Cm .and .u8 x 127 <= 127 := by
 have h : (BitVec.ofInt 8 x &&& BitVec.ofInt 8 127).toNat <= 127 := by
  rw [BitVec.toNat_and]
  exact Ak Nat.and_le_right (by decide)
 show 0 <= IntKind.u8.wrap (((BitVec.ofInt 8 x &&& BitVec.ofInt 8 127).toNat : Nat) : Int) /\ IntKind.u8.wrap (((BitVec.ofInt 8 x &&& BitVec.ofInt 8 127).toNat : Nat) : Int) <= 127
 generalize (BitVec.ofInt 8 x &&& BitVec.ofInt 8 127).toNat = y at h
 have : IntKind.u8.wrap (y : Int) = y := by
  simp [IntKind.wrap, IntKind.signed, IntKind.bits]
  omega
 rw [this]
 omega
theorem Ajv (l : List Int) : ∀ (f : Nat) (n : Int) (i : Nat), 0 <= n -> n < 34359738368 -> i <= 5 -> 0 <= (S4 l f n i).1
 | 0, n, i, _, _, _ => by simp [S4]
 | f + 1, n, i, h1, h2, h3 => by
  cases hx : l[i]? with
  | none => simp [S4, hx]
  | some x =>
   rw [Adt hx]
   split
   ·simp
   rename_i h5
   obtain ⟨ha, hb⟩ := Aq9 x
   generalize Cm .and .u8 x 127 = y at ha hb
   have hz : 0 <= IntKind.i64.wrap (IntKind.i64.wrap y * 2 ^ min (7 * (i : Int)).toNat 64) /\ IntKind.i64.wrap (IntKind.i64.wrap y * 2 ^ min (7 * (i : Int)).toNat 64) < 34359738368 := by
    rw [Bq y]
    obtain rfl | rfl | rfl | rfl | rfl : i = 0 \/ i = 1 \/ i = 2 \/ i = 3 \/ i = 4 := by omega
    all_goals
     first | rw [show (2 : Int) ^ min (7 * ((0 : Nat) : Int)).toNat 64 = 1 from rfl] | rw [show (2 : Int) ^ min (7 * ((1 : Nat) : Int)).toNat 64 = 128 from rfl] | rw [show (2 : Int) ^ min (7 * ((2 : Nat) : Int)).toNat 64 = 16384 from rfl] | rw [show (2 : Int) ^ min (7 * ((3 : Nat) : Int)).toNat 64 = 2097152 from rfl] | rw [show (2 : Int) ^ min (7 * ((4 : Nat) : Int)).toNat 64 = 268435456 from rfl]
     rw [Bq _]
     omega
   generalize IntKind.i64.wrap (IntKind.i64.wrap y * 2 ^ min (7 * (i : Int)).toNat 64) = z at hz
   have hn := Anj h1 (by omega) hz.1 (by omega)
   have hlt : n.toNat ||| z.toNat < 2 ^ 35 := Nat.or_lt_two_pow (by omega) (by omega)
   rw [hn]
   split
   ·exact Ajv l f _ _ (by omega) (by omega) (by omega)
   split
   ·simp
   simp
theorem Aqy {l : List Int} {x : Int} (h : ∀ a ∈ l, 0 <= a) (hx : 0 <= x) : ∀ a ∈ l ++ [x], 0 <= a := fun a ha => by
 rcases A0.1 ha with ha | ha
 ·exact h a ha
 rw [An.1 ha]; exact hx
theorem Ama (l : List Int) : 0 <= (Td l).1 := Ajv l 6 0 0 (by omega) (by omega) (by omega)
theorem Iw (b : List Int) (n : Int) (hb : b.length <= 1000000) (hn : 0 <= n) (hn2 : n <= 1000) : ∃ d : List Int × List Int × Bool, PP 75 [] [.mY b, .li n] [.row 3 1 false false (tI d.1)] (.tup [.own 0 d.1.length, .mY d.2.1, .lb d.2.2]) /\ (d.1.length <= n.toNat /\ d.2.1.length <= b.length /\ (d.2.2 = true -> d.1.length = n.toNat) /\ (d.2.2 = false -> d.1 = []) /\ ∀ a ∈ d.1, 0 <= a) := by
 refine Km (D := List Int × List Int × Bool) (F := fun d => .tup [.own 0 d.1.length, .mY d.2.1, .lb d.2.2]) (S := fun d => [.row 3 1 false false (tI d.1)]) (Q := fun d => d.1.length <= n.toNat /\ d.2.1.length <= b.length /\ (d.2.2 = true -> d.1.length = n.toNat) /\ (d.2.2 = false -> d.1 = []) /\ ∀ a ∈ d.1, 0 <= a) Tryz.func75 rfl rfl rfl (by simp [Tryz.ntmps75]) ?_
 refine VX.R ?_
 refine VX.H ok0 <| .seq ?_
 refine VX.R <| .block ?_
 refine VX.rangeE n.toNat (fun i1 (y1 : (List Int) × (List Int)) => ⟨[(0, .mY y1.2), (7, .own 0 y1.1.length), (13, .li n), (14, .li i1)], [.row 3 1 false false (tI y1.1)]⟩) (fun i1 y1 => y1.1.length = i1 /\ y1.2.length <= b.length /\ ∀ a ∈ y1.1, 0 <= a) (List.replicate 0 0, b) (wk ok0 [0]) (⟨rfl, Aj _, fun a h => by cases h⟩) fun i1 y1 hi1 hy1 => ?_
 refine VX.R <| .seq ?_
 refine VX.C ?_ ?_ <;> intro h15 <;> simp [go_sem] at h15
 ·refine VX.skip <| .seq <| .block <| .L ok0 (X1 y1.2 (by omega)) <| .seq ?_
  refine VX.R ?_
  refine VX.C ?_ ?_ <;> intro h23 <;> simp [go_sem] at h23
  ·refine VX.R ?_
   refine VX.own0 4 3 1 (by decide) (k' := 1) (by simp [go_sem]) ?_
   simp [go_sem, -Prod.exists]
   exact .ret ⟨([], [], false), rW ok0 [1], (by first | (refine ⟨?_, ?_, fun _ => ?_, fun h => absurd h (by simp), hy1.2.2⟩ <;> dsimp only <;> omega) | exact ⟨Ae _, Ae _, fun h => absurd h Bool.false_ne_true, fun _ => rfl, fun a h => by cases h⟩)⟩
  have hv := Amb h23
  refine VX.skip <| .H ok0 ?_
  refine VX.H1 ok0 ?_
  refine VX.R1 ?_
  exact ⟨by omega, (y1.1 ++ ([(Td y1.2).1]), y1.2.drop (((Td y1.2).2.1).toNat)), ⟨by simp; omega, by simp; omega, Aqy hy1.2.2 (Ama _)⟩, wk (Bq ((i1 : Int) + 1)) [0]⟩
 refine VX.exit <| .R ?_
 exact .ret ⟨(y1.1, y1.2, true), rW ok0 [0], (by first | (refine ⟨?_, ?_, fun _ => ?_, fun h => absurd h (by simp), hy1.2.2⟩ <;> dsimp only <;> omega) | exact ⟨Ae _, Ae _, fun h => absurd h Bool.false_ne_true, fun _ => rfl, fun a h => by cases h⟩)⟩
theorem Asv {a b : Int} (h1 : 0 <= a) (h2 : a <= 100) (h3 : 0 <= b) (h4 : b <= 4) : 0 <= a * b /\ a * b <= 400 := ⟨Int.mul_nonneg h1 h3, by
 have := Int.mul_le_mul h2 h4 h3 (by omega : (0 : Int) <= 100)
 omega⟩
theorem V5 (k : Int) (b : List Int) (hb : b.length <= 1000000) : Ct 50 [.li k, .mY b] (fun d : B3 × Int => .tup [d.1.g, .li d.2]) (fun d => d.2 = 0 -> d.1.kind = k /\ (B5 k).1.fix <= d.1.args.length /\ d.1.args.length <= 1000 /\ d.1.tok.length <= b.length /\ d.1.data.length <= b.length /\ ∀ a ∈ d.1.args, 0 <= a) := by
 refine Cb Tryz.func50 ?_
 have hv := Ut k
 have hq0 := Od k
 generalize B5 k = S at hv hq0 ⊢
 refine VX.R ?_
 refine VX.L ok0 (hv) <| .seq ?_
 refine VX.R ?_
 refine VX.C ?_ ?_ <;> intro h19 <;> simp [go_sem] at h19
 ·refine VX.R ?_
  exact .ret (fin ok0 (⟨0, [], [], []⟩, 5) (by first | exact fun h => absurd h (by decide) | (have hA := hq1.2.2.1 h107.1; exact fun _ => ⟨rfl, by dsimp only; omega, by dsimp only; omega, by simp; omega, by dsimp only; omega, hq1.2.2.2.2⟩) | (have hA := hq1.2.2.1 h53.1; exact fun _ => ⟨rfl, by simp; omega, by simp; omega, by simp; omega, by dsimp only; omega, fun a ha => (A0.1 ha).elim (hq1.2.2.2.2 a) (hq3.2.2.2.2 a)⟩)))
 refine VX.skip <| .seq <| .R ?_
 refine VX.C ?_ ?_ <;> intro h30 <;> simp [go_sem] at h30
 ·refine VX.R ?_
  exact .ret (fin ok0 (⟨0, [], [], []⟩, 6) (by first | exact fun h => absurd h (by decide) | (have hA := hq1.2.2.1 h107.1; exact fun _ => ⟨rfl, by dsimp only; omega, by dsimp only; omega, by simp; omega, by dsimp only; omega, hq1.2.2.2.2⟩) | (have hA := hq1.2.2.1 h53.1; exact fun _ => ⟨rfl, by simp; omega, by simp; omega, by simp; omega, by dsimp only; omega, fun a ha => (A0.1 ha).elim (hq1.2.2.2.2 a) (hq3.2.2.2.2 a)⟩)))
 refine VX.skip <| .G ok0 ?_
 obtain ⟨N1, hN1, hq1⟩ := Iw (b.drop S.1.tok.toNat) (S.1.fix) (by first | omega | (simp; omega)) (by omega) (by omega)
 simp only [Bc] at hq1
 refine VX.S (fun K kk => by simp [go_sem]; refine .lo (hN1) (by simp [go_sem]) (by simp [AV.cln, Cp]) ?_; simp [go_sem]; exact kk) <| .seq ?_
 refine VX.R ?_
 refine VX.C ?_ ?_ <;> intro h53 <;> simp [go_sem] at h53
 ·refine VX.R ?_
  obtain ⟨N2, hN2, hq2⟩ := Iw N1.2.1 1 (by omega) (by omega) (by omega)
  refine VX.S (fun K kk => by simp [go_sem]; refine .lo (hN2) (by simp [go_sem]) (by simp [AV.cln, Cp]) ?_; simp [go_sem]; exact kk) <| .seq ?_
  by_cases hc11 : N2.2.2 = true
  ·have hln : N2.1.length = 1 := hq2.2.2.1 hc11
   obtain ⟨e1, H1⟩ := gx N2.1 0
   refine VX.G (cj2 hc11 H1) ?_
   refine VX.C ?_ ?_ <;> intro h77 <;> simp [go_sem] at h77
   ·refine VX.H (cj2 hc11 H1) ?_
    exact .ret (fin (cj2 hc11 H1) (⟨0, [], [], []⟩, 6) (by first | exact fun h => absurd h (by decide) | (have hA := hq1.2.2.1 h107.1; exact fun _ => ⟨rfl, by dsimp only; omega, by dsimp only; omega, by simp; omega, by dsimp only; omega, hq1.2.2.2.2⟩) | (have hA := hq1.2.2.1 h53.1; exact fun _ => ⟨rfl, by simp; omega, by simp; omega, by simp; omega, by dsimp only; omega, fun a ha => (A0.1 ha).elim (hq1.2.2.2.2 a) (hq3.2.2.2.2 a)⟩)))
   refine VX.skip ?_
   have hm := Asv (a := e1) (b := S.1.grp) (by omega) (by omega) (by omega) (by omega)
   obtain ⟨N3, hN3, hq3⟩ := Iw N2.2.1 (e1 * S.1.grp) (by omega) (by omega) (by omega)
   have hw2 := Bq (e1 * S.1.grp : Int)
   refine VX.E (fun K kk => by simp [go_sem, hc11, H1, hw2]; (repeat refine aK ?_); refine .lo (hN3) (by simp [go_sem]) (by simp [AV.cln, Cp]) ?_; simp [go_sem, hc11, H1, hw2]; exact kk) ?_
   refine VX.H1 (cj3 hc11 H1 hw2) <| .seq ?_
   refine VX.S (fun K kk => by simp +contextual [go_sem, hc11, H1, hw2]; exact kk) ?_
   refine VX.C ?_ ?_ <;> intro h107 <;> simp [go_sem] at h107
   ·refine VX.H (cj3 hc11 H1 hw2) ?_
    exact .ret (fin (cj3 hc11 H1 hw2) (⟨0, [], [], []⟩, 6) (by first | exact fun h => absurd h (by decide) | (have hA := hq1.2.2.1 h107.1; exact fun _ => ⟨rfl, by dsimp only; omega, by dsimp only; omega, by simp; omega, by dsimp only; omega, hq1.2.2.2.2⟩) | (have hA := hq1.2.2.1 h53.1; exact fun _ => ⟨rfl, by simp; omega, by simp; omega, by simp; omega, by dsimp only; omega, fun a ha => (A0.1 ha).elim (hq1.2.2.2.2 a) (hq3.2.2.2.2 a)⟩)))
   refine VX.skip <| .S (fun K kk => by simp [go_sem, hc11, H1, hw2]; refine .lo (B8.froz (B6 _ (by first | (simp; omega) | (simp; assumption)) (by first | (simp [T.plain]; done) | (rw [Am]; intro e he; repeat (first | replace he := Aq he | replace he := Ay he); obtain ⟨x, _, rfl⟩ := A4.1 he; rfl)))) rfl (by simp [AV.cln, Cp]) ?_; simp [go_sem, hc11, H1, hw2]; refine .lo (B8.froz (B6 _ (by first | (simp; omega) | (simp; assumption)) (by first | (simp [T.plain]; done) | (rw [Am]; intro e he; repeat (first | replace he := Aq he | replace he := Ay he); obtain ⟨x, _, rfl⟩ := A4.1 he; rfl)))) rfl (by simp [AV.cln, Cp]) ?_; simp [go_sem, hc11, H1, hw2]; exact kk) ?_
   refine VX.Z ok0 2 ?_
   exact .ret (fin (cj3 hc11 H1 hw2) (⟨k, b.take S.1.tok.toNat, N1.1 ++ N3.1, N3.2.1⟩, 0) (by first | exact fun h => absurd h (by decide) | (have hA := hq1.2.2.1 h107.1; exact fun _ => ⟨rfl, by dsimp only; omega, by dsimp only; omega, by simp; omega, by dsimp only; omega, hq1.2.2.2.2⟩) | (have hA := hq1.2.2.1 h53.1; exact fun _ => ⟨rfl, by simp; omega, by simp; omega, by simp; omega, by dsimp only; omega, fun a ha => (A0.1 ha).elim (hq1.2.2.2.2 a) (hq3.2.2.2.2 a)⟩)))
  have hz : N2.1[0]? = none := by rw [hq2.2.2.2.1 (by simpa using hc11)]; rfl
  refine VX.G (cj2 hc11 hz) ?_
  refine VX.C ?_ ?_ <;> intro h77 <;> simp [go_sem] at h77
  refine VX.H (cj2 hc11 hz) ?_
  exact .ret (fin (cj2 hc11 hz) (⟨0, [], [], []⟩, 6) (by first | exact fun h => absurd h (by decide) | (have hA := hq1.2.2.1 h107.1; exact fun _ => ⟨rfl, by dsimp only; omega, by dsimp only; omega, by simp; omega, by dsimp only; omega, hq1.2.2.2.2⟩) | (have hA := hq1.2.2.1 h53.1; exact fun _ => ⟨rfl, by simp; omega, by simp; omega, by simp; omega, by dsimp only; omega, fun a ha => (A0.1 ha).elim (hq1.2.2.2.2 a) (hq3.2.2.2.2 a)⟩)))
 refine VX.skip <| .seq <| .S (fun K kk => by simp +contextual [go_sem]; exact kk) ?_
 refine VX.C ?_ ?_ <;> intro h107 <;> simp [go_sem] at h107
 ·refine VX.R ?_
  exact .ret (fin ok0 (⟨0, [], [], []⟩, 6) (by first | exact fun h => absurd h (by decide) | (have hA := hq1.2.2.1 h107.1; exact fun _ => ⟨rfl, by dsimp only; omega, by dsimp only; omega, by simp; omega, by dsimp only; omega, hq1.2.2.2.2⟩) | (have hA := hq1.2.2.1 h53.1; exact fun _ => ⟨rfl, by simp; omega, by simp; omega, by simp; omega, by dsimp only; omega, fun a ha => (A0.1 ha).elim (hq1.2.2.2.2 a) (hq3.2.2.2.2 a)⟩)))
 refine VX.skip <| .S (fun K kk => by simp [go_sem]; refine .lo (B8.froz (B6 _ (by first | (simp; omega) | (simp; assumption)) (by first | (simp [T.plain]; done) | (rw [Am]; intro e he; repeat (first | replace he := Aq he | replace he := Ay he); obtain ⟨x, _, rfl⟩ := A4.1 he; rfl)))) rfl (by simp [AV.cln, Cp]) ?_; simp [go_sem]; refine .lo (B8.froz (B6 _ (by first | (simp; omega) | (simp; assumption)) (by first | (simp [T.plain]; done) | (rw [Am]; intro e he; repeat (first | replace he := Aq he | replace he := Ay he); obtain ⟨x, _, rfl⟩ := A4.1 he; rfl)))) rfl (by simp [AV.cln, Cp]) ?_; simp [go_sem]; exact kk) ?_
 refine VX.Z ok0 2 ?_
 exact .ret (fin ok0 (⟨k, b.take S.1.tok.toNat, N1.1, N1.2.1⟩, 0) (by first | exact fun h => absurd h (by decide) | (have hA := hq1.2.2.1 h107.1; exact fun _ => ⟨rfl, by dsimp only; omega, by dsimp only; omega, by simp; omega, by dsimp only; omega, hq1.2.2.2.2⟩) | (have hA := hq1.2.2.1 h53.1; exact fun _ => ⟨rfl, by simp; omega, by simp; omega, by simp; omega, by dsimp only; omega, fun a ha => (A0.1 ha).elim (hq1.2.2.2.2 a) (hq3.2.2.2.2 a)⟩)))
end Go.Proofs.YtkkimgjinbaemaaGreat
