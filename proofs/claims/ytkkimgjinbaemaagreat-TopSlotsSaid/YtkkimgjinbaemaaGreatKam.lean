/- The walk. -/
import Derived.Test.YtkkimgjinbaemaaGreatKal
namespace Go.Proofs.YtkkimgjinbaemaaGreat
open Go.RowKit
set_option linter.unusedVariables false
set_option linter.unusedSimpArgs false
set_option maxRecDepth 100000
set_option maxHeartbeats 4000000
theorem Im (k : Int) : Ct 74 [.li k] (fun d : Ie × Bool => .tup [d.1.g, .lb d.2]) (fun d => (0 <= d.1.tok /\ (k = 17 -> d = (⟨0, 1, 0, 0, 0, -1⟩, true))) /\ d.1.tok <= 10 /\ 0 <= d.1.fix /\ d.1.fix <= 4 /\ 0 <= d.1.grp /\ d.1.grp <= 4 /\ 0 <= d.1.lea /\ d.1.mos <= 100 /\ (k = 2 -> d.1.fix = 3) /\ (k = 4 -> d.1.fix = 2) /\ (k = 6 -> d.1.fix = 3) /\ ((k = 3 \/ k = 5 \/ k = 7 \/ k = 8 \/ k = 10 \/ k = 11) -> d.1.fix = 1)) := by
 refine Ek Tryz.func74 ?_
 refine Bq <| .seq ?_
 refine Bq <| .block ?_
 refine Cf (by rfl) fun K1 hK1 => ?_
 simp [go_sem]
 refine hK1 _ ⟨_, _, _, _, _, _, _, _, rfl, .more (by decide) rfl rfl (.one (by decide) rfl rfl), by decide, rfl, by simp [go_sem]; rfl, by simp [go_sem]; rfl, by simp [go_sem], ?_⟩; clear hK1
 refine Br ?_ ?_ <;> intro h5
 ·refine Bq ?_
  exact .ret (fin ok0 (⟨10, 0, 0, 0, 0, 0⟩, true) ⟨⟨by (try dsimp only); omega, by first | (intro _; rfl) | (intro h; omega)⟩, by (try dsimp only); omega⟩)
 refine Bq ?_
 refine Br ?_ ?_ <;> intro h10
 ·refine Bq ?_
  exact .ret (fin ok0 (⟨10, 3, 0, 0, 0, 0⟩, true) ⟨⟨by (try dsimp only); omega, by first | (intro _; rfl) | (intro h; omega)⟩, by (try dsimp only); omega⟩)
 refine Cf (by rfl) fun K1 hK1 => ?_
 simp [go_sem]
 refine hK1 _ ⟨_, _, _, _, _, _, _, _, rfl, .more (by decide) rfl rfl (.more (by decide) rfl rfl (.more (by decide) rfl rfl (.one (by decide) rfl rfl))), by decide, rfl, by simp [go_sem]; rfl, by simp [go_sem]; rfl, by simp [go_sem], ?_⟩; clear hK1
 refine Br ?_ ?_ <;> intro h13
 ·refine Bq ?_
  exact .ret (fin ok0 (⟨10, 1, 0, 0, 0, 0⟩, true) ⟨⟨by (try dsimp only); omega, by first | (intro _; rfl) | (intro h; omega)⟩, by (try dsimp only); omega⟩)
 refine Bq ?_
 refine Br ?_ ?_ <;> intro h20
 ·refine Bq ?_
  exact .ret (fin ok0 (⟨10, 2, 0, 0, 0, 0⟩, true) ⟨⟨by (try dsimp only); omega, by first | (intro _; rfl) | (intro h; omega)⟩, by (try dsimp only); omega⟩)
 refine Bq ?_
 refine Br ?_ ?_ <;> intro h23
 ·refine Bq ?_
  exact .ret (fin ok0 (⟨10, 3, 4, 1, 3, 0⟩, true) ⟨⟨by (try dsimp only); omega, by first | (intro _; rfl) | (intro h; omega)⟩, by (try dsimp only); omega⟩)
 refine Bq ?_
 refine Br ?_ ?_ <;> intro h26
 ·refine Bq ?_
  exact .ret (fin ok0 (⟨10, 1, 2, 1, 3, 0⟩, true) ⟨⟨by (try dsimp only); omega, by first | (intro _; rfl) | (intro h; omega)⟩, by (try dsimp only); omega⟩)
 refine Cf (by rfl) fun K1 hK1 => ?_
 simp [go_sem]
 refine hK1 _ ⟨_, _, _, _, _, _, _, _, rfl, .more (by decide) rfl rfl (.one (by decide) rfl rfl), by decide, rfl, by simp [go_sem]; rfl, by simp [go_sem]; rfl, by simp [go_sem], ?_⟩; clear hK1
 refine Br ?_ ?_ <;> intro h29
 ·refine Bq ?_
  exact .ret (fin ok0 (⟨0, 2, 0, 0, 0, 0⟩, true) ⟨⟨by (try dsimp only); omega, by first | (intro _; rfl) | (intro h; omega)⟩, by (try dsimp only); omega⟩)
 refine Bq ?_
 refine Br ?_ ?_ <;> intro h34
 ·refine Bq ?_
  exact .ret (fin ok0 (⟨0, 1, 0, 0, 0, 10⟩, true) ⟨⟨by (try dsimp only); omega, by first | (intro _; rfl) | (intro h; omega)⟩, by (try dsimp only); omega⟩)
 refine Cf (by rfl) fun K1 hK1 => ?_
 simp [go_sem]
 refine hK1 _ ⟨_, _, _, _, _, _, _, _, rfl, .one (by decide) rfl rfl, by decide, rfl, by simp [go_sem]; rfl, by simp [go_sem]; rfl, by simp [go_sem], ?_⟩; clear hK1
 refine Br ?_ ?_ <;> intro h37
 ·refine Bq ?_
  exact .ret (fin ok0 (⟨0, 1, 0, 0, 0, (-1)⟩, true) ⟨⟨by (try dsimp only); omega, by first | (intro _; rfl) | (intro h; omega)⟩, by (try dsimp only); omega⟩)
 refine Bq ?_
 refine Br ?_ ?_ <;> intro h41
 ·refine Bq ?_
  exact .ret (fin ok0 (⟨0, 1, 3, 0, 16, 0⟩, true) ⟨⟨by (try dsimp only); omega, by first | (intro _; rfl) | (intro h; omega)⟩, by (try dsimp only); omega⟩)
 refine Bq ?_
 refine Br ?_ ?_ <;> intro h44
 ·refine Bq ?_
  exact .ret (fin ok0 (⟨0, 0, 2, 0, 4, 0⟩, true) ⟨⟨by (try dsimp only); omega, by first | (intro _; rfl) | (intro h; omega)⟩, by (try dsimp only); omega⟩)
 refine Bq ?_
 refine Br ?_ ?_ <;> intro h47
 ·refine Bq ?_
  exact .ret (fin ok0 (⟨0, 4, 0, 0, 0, 0⟩, true) ⟨⟨by (try dsimp only); omega, by first | (intro _; rfl) | (intro h; omega)⟩, by (try dsimp only); omega⟩)
 refine Bq ?_
 refine Br ?_ ?_ <;> intro h50
 ·refine Bq ?_
  exact .ret (fin ok0 (⟨0, 1, 0, 0, 0, 0⟩, true) ⟨⟨by (try dsimp only); omega, by first | (intro _; rfl) | (intro h; omega)⟩, by (try dsimp only); omega⟩)
 refine Bp <| .R ?_
 exact .ret (fin ok0 (⟨0, 0, 0, 0, 0, 0⟩, false) ⟨⟨by (try dsimp only); omega, by first | (intro _; rfl) | (intro h; omega)⟩, by (try dsimp only); omega⟩)
noncomputable def Ed (k : Int) : Ie × Bool := (got (Im k)).choose
theorem Xe (k : Int) : PP 74 [] [.li k] [] (.tup [.agg ((Ed k).1.a false), .lit (.bool (Ed k).2)]) := (got (Im k)).choose_spec.1
theorem Qk (k : Int) : (0 <= (Ed k).1.tok /\ (k = 17 -> (Ed k) = (⟨0, 1, 0, 0, 0, -1⟩, true))) /\ (Ed k).1.tok <= 10 /\ 0 <= (Ed k).1.fix /\ (Ed k).1.fix <= 4 /\ 0 <= (Ed k).1.grp /\ (Ed k).1.grp <= 4 /\ 0 <= (Ed k).1.lea /\ (Ed k).1.mos <= 100 /\ (k = 2 -> (Ed k).1.fix = 3) /\ (k = 4 -> (Ed k).1.fix = 2) /\ (k = 6 -> (Ed k).1.fix = 3) /\ ((k = 3 \/ k = 5 \/ k = 7 \/ k = 8 \/ k = 10 \/ k = 11) -> (Ed k).1.fix = 1) := (got (Im k)).choose_spec.2
theorem Pj (l : List Fd) (st : Int) (hl : l.length <= 1000000) : Ct 176 [.mLight l, .li st] (fun d : List Int => .mI d) (fun d => d.length = l.length) := by
 refine Ek Tryz.func176 ?_
 refine Bq ?_
 refine Bu ok0 <| .seq ?_
 refine Bq <| .block ?_
 refine Bs l.length (fun i1 (y1 : (List Int)) => ⟨[(1, .li st), (5, .own 0 y1.length), (11, .mLight l), (12, .li l.length), (13, .li i1)], [.row 3 1 false false (tI y1)]⟩) (fun i1 y1 => y1.length = l.length) (List.replicate l.length 0) (wk ok0 [0]) (by simp) fun i1 y1 hi1 hy1 => ?_
 refine Bq <| .seq ?_
 refine Br ?_ ?_ <;> intro h14
 ·refine Bp <| .seq <| .block ?_
  obtain ⟨e1, H1⟩ := gx l i1
  refine Bu H1 ?_
  obtain ⟨e2, H2⟩ := gx y1 i1
  refine Bu (cj2 H1 H2) ?_
  refine Dj 0 rfl (by simp) (fun x : Int => [T.lit (Value.int IntKind.i64 x)]) l.length ?_ fun R hR => ?_
  ·apply Jk
   ·repeat' first | exact Kh | exact Kg | exact Kf (x := 0) rfl | apply Jg | apply Ji | apply Jh | apply Ki | apply (fun h => Ke (x := _) h rfl) | apply (fun h => Jj (x := _) rfl h)
   first | rfl | omega | simp | (simp; omega)
  simp [go_sem, -Prod.exists]
  refine Bu (cj3 H1 H2 hR) ?_
  refine Br ?_ ?_ <;> intro h25
  ·obtain ⟨e3, H3⟩ := gx R i1
   refine B0 (cj4 H1 H2 hR H3) ?_
   refine B0 (cj4 H1 H2 hR H3) ?_
   refine ⟨by omega, ((R).set i1 1), ?_, wk (cj6 (Dt ((i1 : Int) + 1)) H1 H2 hR H3 hy1) [0]⟩
   first | omega | (simp; omega)
  refine Bp <| .H1 (cj3 H1 H2 hR) ?_
  refine ⟨by omega, (R), ?_, wk (cj5 (Dt ((i1 : Int) + 1)) H1 H2 hR hy1) [0]⟩
  first | omega | (simp; omega)
 refine Bt <| .R ?_
 refine B2 ok0 0 ?_
 exact .ret (fin ok0 y1 (by first | omega | (simp; omega)))
noncomputable def Mf (l : List Fd) (st : Int) (hl : l.length <= 1000000) : List Int := (got (Pj l st hl)).choose
theorem Ab8 (l : List Fd) (st : Int) (hl : l.length <= 1000000) : PP 176 [] [.mLight l, .li st] [] (.mI (Mf l st hl)) := (got (Pj l st hl)).choose_spec.1
theorem Ac2 (l : List Fd) (st : Int) (hl : l.length <= 1000000) : (Mf l st hl).length = l.length := (got (Pj l st hl)).choose_spec.2
theorem Ag2 {α β : Type} (f : α -> β) (l : List α) : List.take l.length (l.map f) = l.map f := by rw [Bf (by simp)]
attribute [go_sem] Ag2
theorem Amu (l : List Int) : ∀ (f : Nat) (n : Int) (i : Nat), (Vk l f n i).2.2 = 0 -> 0 <= (Vk l f n i).2.1 /\ (Vk l f n i).2.1 <= l.length
 | 0, n, i, h => by simp [Vk] at h
 | f + 1, n, i, h => by
  cases hx : l[i]? with
  | none => simp [Vk, hx] at h
  | some x =>
   have hi := (Ab.1 hx).1
   rw [Agk hx] at h ⊢
   split at h
   ·simp at h
   rename_i h1
   rw [if_neg h1]
   split at h
   ·rename_i h2
    rw [if_pos h2]
    exact Amu l f _ _ h
   rename_i h2
   rw [if_neg h2]
   split at h
   ·simp at h
   rename_i h3
   rw [if_neg h3]
   simp
   omega
theorem Aph {l : List Int} (h : (Vs l).2.2 = 0) : 0 <= (Vs l).2.1 /\ (Vs l).2.1 <= l.length := Amu l 6 0 0 h
theorem Aul (x : Int) : 0 <= Eu .and .u8 x 127 /\ Eu .and .u8 x 127 <= 127 := by
 have h : (BitVec.ofInt 8 x &&& BitVec.ofInt 8 127).toNat <= 127 := by
  rw [BitVec.toNat_and]
  exact Ak Nat.and_le_right (by decide)
 show 0 <= IntKind.u8.wrap (((BitVec.ofInt 8 x &&& BitVec.ofInt 8 127).toNat : Nat) : Int) /\ IntKind.u8.wrap (((BitVec.ofInt 8 x &&& BitVec.ofInt 8 127).toNat : Nat) : Int) <= 127
 generalize (BitVec.ofInt 8 x &&& BitVec.ofInt 8 127).toNat = y at h
 have : IntKind.u8.wrap (y : Int) = y := by
  simp [IntKind.wrap, IntKind.signed, IntKind.bits]
  omega
 rw [this]
 omega
theorem Amt (l : List Int) : ∀ (f : Nat) (n : Int) (i : Nat), 0 <= n -> n < 34359738368 -> i <= 5 -> 0 <= (Vk l f n i).1
 | 0, n, i, _, _, _ => by simp [Vk]
 | f + 1, n, i, h1, h2, h3 => by
  cases hx : l[i]? with
  | none => simp [Vk, hx]
  | some x =>
   rw [Agk hx]
   split
   ·simp
   rename_i h5
   obtain ⟨ha, hb⟩ := Aul x
   generalize Eu .and .u8 x 127 = y at ha hb
   have hz : 0 <= IntKind.i64.wrap (IntKind.i64.wrap y * 2 ^ min (7 * (i : Int)).toNat 64) /\ IntKind.i64.wrap (IntKind.i64.wrap y * 2 ^ min (7 * (i : Int)).toNat 64) < 34359738368 := by
    rw [Dt y]
    obtain rfl | rfl | rfl | rfl | rfl : i = 0 \/ i = 1 \/ i = 2 \/ i = 3 \/ i = 4 := by omega
    all_goals
     first | rw [show (2 : Int) ^ min (7 * ((0 : Nat) : Int)).toNat 64 = 1 from rfl] | rw [show (2 : Int) ^ min (7 * ((1 : Nat) : Int)).toNat 64 = 128 from rfl] | rw [show (2 : Int) ^ min (7 * ((2 : Nat) : Int)).toNat 64 = 16384 from rfl] | rw [show (2 : Int) ^ min (7 * ((3 : Nat) : Int)).toNat 64 = 2097152 from rfl] | rw [show (2 : Int) ^ min (7 * ((4 : Nat) : Int)).toNat 64 = 268435456 from rfl]
     rw [Dt _]
     omega
   generalize IntKind.i64.wrap (IntKind.i64.wrap y * 2 ^ min (7 * (i : Int)).toNat 64) = z at hz
   have hn := Aqn h1 (by omega) hz.1 (by omega)
   have hlt : n.toNat ||| z.toNat < 2 ^ 35 := Nat.or_lt_two_pow (by omega) (by omega)
   rw [hn]
   split
   ·exact Amt l f _ _ (by omega) (by omega) (by omega)
   split
   ·simp
   simp
theorem Aua {l : List Int} {x : Int} (h : ∀ a ∈ l, 0 <= a) (hx : 0 <= x) : ∀ a ∈ l ++ [x], 0 <= a := fun a ha => by
 rcases A0.1 ha with ha | ha
 ·exact h a ha
 rw [An.1 ha]; exact hx
theorem Apg (l : List Int) : 0 <= (Vs l).1 := Amt l 6 0 0 (by omega) (by omega) (by omega)
theorem Kt (b : List Int) (n : Int) (hb : b.length <= 1000000) (hn : 0 <= n) (hn2 : n <= 1000) : ∃ d : List Int × List Int × Bool, PP 75 [] [.mY b, .li n] [.row 3 1 false false (tI d.1)] (.tup [.own 0 d.1.length, .mY d.2.1, .lb d.2.2]) /\ (d.1.length <= n.toNat /\ d.2.1.length <= b.length /\ (d.2.2 = true -> d.1.length = n.toNat) /\ (d.2.2 = false -> d.1 = []) /\ ∀ a ∈ d.1, 0 <= a) := by
 refine Mi (D := List Int × List Int × Bool) (F := fun d => .tup [.own 0 d.1.length, .mY d.2.1, .lb d.2.2]) (S := fun d => [.row 3 1 false false (tI d.1)]) (Q := fun d => d.1.length <= n.toNat /\ d.2.1.length <= b.length /\ (d.2.2 = true -> d.1.length = n.toNat) /\ (d.2.2 = false -> d.1 = []) /\ ∀ a ∈ d.1, 0 <= a) Tryz.func75 rfl rfl rfl (by simp [Tryz.ntmps75]) ?_
 refine Bq ?_
 refine Bu ok0 <| .seq ?_
 refine Bq <| .block ?_
 refine Bs n.toNat (fun i1 (y1 : (List Int) × (List Int)) => ⟨[(0, .mY y1.2), (7, .own 0 y1.1.length), (13, .li n), (14, .li i1)], [.row 3 1 false false (tI y1.1)]⟩) (fun i1 y1 => y1.1.length = i1 /\ y1.2.length <= b.length /\ ∀ a ∈ y1.1, 0 <= a) (List.replicate 0 0, b) (wk ok0 [0]) (⟨rfl, Aj _, fun a h => by cases h⟩) fun i1 y1 hi1 hy1 => ?_
 refine Bq <| .seq ?_
 refine Br ?_ ?_ <;> intro h15
 ·refine Bp <| .seq <| .block <| .L ok0 (Aaj y1.2 (by omega)) <| .seq ?_
  refine Bq ?_
  refine Br ?_ ?_ <;> intro h23
  ·refine Bq ?_
   refine Cg 4 3 1 (by decide) (k' := 1) (by simp [go_sem]) ?_
   simp [go_sem, -Prod.exists]
   exact .ret ⟨([], [], false), rW ok0 [1], (by first | (refine ⟨?_, ?_, fun _ => ?_, fun h => absurd h (by simp), hy1.2.2⟩ <;> dsimp only <;> omega) | exact ⟨Ae _, Ae _, fun h => absurd h Bool.false_ne_true, fun _ => rfl, fun a h => by cases h⟩)⟩
  have hv := Aph h23
  refine Bp <| .H ok0 ?_
  refine B0 ok0 ?_
  refine Ci ?_
  exact ⟨by omega, (y1.1 ++ ([(Vs y1.2).1]), y1.2.drop (((Vs y1.2).2.1).toNat)), ⟨by simp; omega, by simp; omega, Aua hy1.2.2 (Apg _)⟩, wk (Dt ((i1 : Int) + 1)) [0]⟩
 refine Bt <| .R ?_
 exact .ret ⟨(y1.1, y1.2, true), rW ok0 [0], (by first | (refine ⟨?_, ?_, fun _ => ?_, fun h => absurd h (by simp), hy1.2.2⟩ <;> dsimp only <;> omega) | exact ⟨Ae _, Ae _, fun h => absurd h Bool.false_ne_true, fun _ => rfl, fun a h => by cases h⟩)⟩
theorem Av9 {a b : Int} (h1 : 0 <= a) (h2 : a <= 100) (h3 : 0 <= b) (h4 : b <= 4) : 0 <= a * b /\ a * b <= 400 := ⟨Int.mul_nonneg h1 h3, by
 have := Int.mul_le_mul h2 h4 h3 (by omega : (0 : Int) <= 100)
 omega⟩
theorem M6 (k : Int) (b : List Int) (hb : b.length <= 1000000) : Ct 50 [.li k, .mY b] (fun d : Dz × Int => .tup [d.1.g, .li d.2]) (fun d => d.2 = 0 -> d.1.kind = k /\ (Ed k).1.fix <= d.1.args.length /\ d.1.args.length <= 1000 /\ d.1.tok.length <= b.length /\ d.1.data.length <= b.length /\ ∀ a ∈ d.1.args, 0 <= a) := by
 refine Ek Tryz.func50 ?_
 have hv := Xe k
 have hq0 := Qk k
 generalize Ed k = S at hv hq0 ⊢
 refine Bq ?_
 refine B8 ok0 (hv) <| .seq ?_
 refine Bq ?_
 refine Br ?_ ?_ <;> intro h19
 ·refine Bq ?_
  exact .ret (fin ok0 (⟨0, [], [], []⟩, 5) (by first | exact fun h => absurd h (by decide) | (have hA := hq1.2.2.1 h107.1; exact fun _ => ⟨rfl, by dsimp only; omega, by dsimp only; omega, by simp; omega, by dsimp only; omega, hq1.2.2.2.2⟩) | (have hA := hq1.2.2.1 h53.1; exact fun _ => ⟨rfl, by simp; omega, by simp; omega, by simp; omega, by dsimp only; omega, fun a ha => (A0.1 ha).elim (hq1.2.2.2.2 a) (hq3.2.2.2.2 a)⟩)))
 refine Bp <| .seq <| .R ?_
 refine Br ?_ ?_ <;> intro h30
 ·refine Bq ?_
  exact .ret (fin ok0 (⟨0, [], [], []⟩, 6) (by first | exact fun h => absurd h (by decide) | (have hA := hq1.2.2.1 h107.1; exact fun _ => ⟨rfl, by dsimp only; omega, by dsimp only; omega, by simp; omega, by dsimp only; omega, hq1.2.2.2.2⟩) | (have hA := hq1.2.2.1 h53.1; exact fun _ => ⟨rfl, by simp; omega, by simp; omega, by simp; omega, by dsimp only; omega, fun a ha => (A0.1 ha).elim (hq1.2.2.2.2 a) (hq3.2.2.2.2 a)⟩)))
 refine Bp <| .G ok0 ?_
 obtain ⟨N1, hN1, hq1⟩ := Kt (b.drop S.1.tok.toNat) (S.1.fix) (by first | omega | (simp; omega)) (by omega) (by omega)
 simp only [Bc] at hq1
 refine B3 (fun K kk => by simp [go_sem]; refine .lo (hN1) (by simp [go_sem]) (by simp [AV.cln, Ez]) ?_; simp [go_sem]; exact kk) <| .seq ?_
 refine Bq ?_
 refine Br ?_ ?_ <;> intro h53
 ·refine Bq ?_
  obtain ⟨N2, hN2, hq2⟩ := Kt N1.2.1 1 (by omega) (by omega) (by omega)
  refine B3 (fun K kk => by simp [go_sem]; refine .lo (hN2) (by simp [go_sem]) (by simp [AV.cln, Ez]) ?_; simp [go_sem]; exact kk) <| .seq ?_
  by_cases hc11 : N2.2.2 = true
  ·have hln : N2.1.length = 1 := hq2.2.2.1 hc11
   obtain ⟨e1, H1⟩ := gx N2.1 0
   refine C8 (cj2 hc11 H1) ?_
   refine Br ?_ ?_ <;> intro h77
   ·refine Bu (cj2 hc11 H1) ?_
    exact .ret (fin (cj2 hc11 H1) (⟨0, [], [], []⟩, 6) (by first | exact fun h => absurd h (by decide) | (have hA := hq1.2.2.1 h107.1; exact fun _ => ⟨rfl, by dsimp only; omega, by dsimp only; omega, by simp; omega, by dsimp only; omega, hq1.2.2.2.2⟩) | (have hA := hq1.2.2.1 h53.1; exact fun _ => ⟨rfl, by simp; omega, by simp; omega, by simp; omega, by dsimp only; omega, fun a ha => (A0.1 ha).elim (hq1.2.2.2.2 a) (hq3.2.2.2.2 a)⟩)))
   refine Bp ?_
   have hm := Av9 (a := e1) (b := S.1.grp) (by omega) (by omega) (by omega) (by omega)
   obtain ⟨N3, hN3, hq3⟩ := Kt N2.2.1 (e1 * S.1.grp) (by omega) (by omega) (by omega)
   have hw2 := Dt (e1 * S.1.grp : Int)
   refine Cz (fun K kk => by simp [go_sem, hc11, H1, hw2]; (repeat refine aK ?_); refine .lo (hN3) (by simp [go_sem]) (by simp [AV.cln, Ez]) ?_; simp [go_sem, hc11, H1, hw2]; exact kk) ?_
   refine B0 (cj3 hc11 H1 hw2) <| .seq ?_
   refine B3 (fun K kk => by simp +contextual [go_sem, hc11, H1, hw2]; exact kk) ?_
   refine Br ?_ ?_ <;> intro h107
   ·refine Bu (cj3 hc11 H1 hw2) ?_
    exact .ret (fin (cj3 hc11 H1 hw2) (⟨0, [], [], []⟩, 6) (by first | exact fun h => absurd h (by decide) | (have hA := hq1.2.2.1 h107.1; exact fun _ => ⟨rfl, by dsimp only; omega, by dsimp only; omega, by simp; omega, by dsimp only; omega, hq1.2.2.2.2⟩) | (have hA := hq1.2.2.1 h53.1; exact fun _ => ⟨rfl, by simp; omega, by simp; omega, by simp; omega, by dsimp only; omega, fun a ha => (A0.1 ha).elim (hq1.2.2.2.2 a) (hq3.2.2.2.2 a)⟩)))
   refine Bp <| .S (fun K kk => by simp [go_sem, hc11, H1, hw2]; refine .lo (Ei.froz (Ee _ (by first | (simp; omega) | (simp; assumption)) (by first | (simp [T.plain]; done) | (rw [Am]; intro e he; repeat (first | replace he := Aq he | replace he := Ay he); obtain ⟨x, _, rfl⟩ := A4.1 he; rfl)))) rfl (by simp [AV.cln, Ez]) ?_; simp [go_sem, hc11, H1, hw2]; refine .lo (Ei.froz (Ee _ (by first | (simp; omega) | (simp; assumption)) (by first | (simp [T.plain]; done) | (rw [Am]; intro e he; repeat (first | replace he := Aq he | replace he := Ay he); obtain ⟨x, _, rfl⟩ := A4.1 he; rfl)))) rfl (by simp [AV.cln, Ez]) ?_; simp [go_sem, hc11, H1, hw2]; exact kk) ?_
   refine B2 ok0 2 ?_
   exact .ret (fin (cj3 hc11 H1 hw2) (⟨k, b.take S.1.tok.toNat, N1.1 ++ N3.1, N3.2.1⟩, 0) (by first | exact fun h => absurd h (by decide) | (have hA := hq1.2.2.1 h107.1; exact fun _ => ⟨rfl, by dsimp only; omega, by dsimp only; omega, by simp; omega, by dsimp only; omega, hq1.2.2.2.2⟩) | (have hA := hq1.2.2.1 h53.1; exact fun _ => ⟨rfl, by simp; omega, by simp; omega, by simp; omega, by dsimp only; omega, fun a ha => (A0.1 ha).elim (hq1.2.2.2.2 a) (hq3.2.2.2.2 a)⟩)))
  have hz : N2.1[0]? = none := by rw [hq2.2.2.2.1 (by simpa using hc11)]; rfl
  refine C8 (cj2 hc11 hz) ?_
  refine C5 ?_ ?_ <;> intro h77 <;> simp [go_sem] at h77
  refine Bu (cj2 hc11 hz) ?_
  exact .ret (fin (cj2 hc11 hz) (⟨0, [], [], []⟩, 6) (by first | exact fun h => absurd h (by decide) | (have hA := hq1.2.2.1 h107.1; exact fun _ => ⟨rfl, by dsimp only; omega, by dsimp only; omega, by simp; omega, by dsimp only; omega, hq1.2.2.2.2⟩) | (have hA := hq1.2.2.1 h53.1; exact fun _ => ⟨rfl, by simp; omega, by simp; omega, by simp; omega, by dsimp only; omega, fun a ha => (A0.1 ha).elim (hq1.2.2.2.2 a) (hq3.2.2.2.2 a)⟩)))
 refine Bp <| .seq <| .S (fun K kk => by simp +contextual [go_sem]; exact kk) ?_
 refine Br ?_ ?_ <;> intro h107
 ·refine Bq ?_
  exact .ret (fin ok0 (⟨0, [], [], []⟩, 6) (by first | exact fun h => absurd h (by decide) | (have hA := hq1.2.2.1 h107.1; exact fun _ => ⟨rfl, by dsimp only; omega, by dsimp only; omega, by simp; omega, by dsimp only; omega, hq1.2.2.2.2⟩) | (have hA := hq1.2.2.1 h53.1; exact fun _ => ⟨rfl, by simp; omega, by simp; omega, by simp; omega, by dsimp only; omega, fun a ha => (A0.1 ha).elim (hq1.2.2.2.2 a) (hq3.2.2.2.2 a)⟩)))
 refine Bp <| .S (fun K kk => by simp [go_sem]; refine .lo (Ei.froz (Ee _ (by first | (simp; omega) | (simp; assumption)) (by first | (simp [T.plain]; done) | (rw [Am]; intro e he; repeat (first | replace he := Aq he | replace he := Ay he); obtain ⟨x, _, rfl⟩ := A4.1 he; rfl)))) rfl (by simp [AV.cln, Ez]) ?_; simp [go_sem]; refine .lo (Ei.froz (Ee _ (by first | (simp; omega) | (simp; assumption)) (by first | (simp [T.plain]; done) | (rw [Am]; intro e he; repeat (first | replace he := Aq he | replace he := Ay he); obtain ⟨x, _, rfl⟩ := A4.1 he; rfl)))) rfl (by simp [AV.cln, Ez]) ?_; simp [go_sem]; exact kk) ?_
 refine B2 ok0 2 ?_
 exact .ret (fin ok0 (⟨k, b.take S.1.tok.toNat, N1.1, N1.2.1⟩, 0) (by first | exact fun h => absurd h (by decide) | (have hA := hq1.2.2.1 h107.1; exact fun _ => ⟨rfl, by dsimp only; omega, by dsimp only; omega, by simp; omega, by dsimp only; omega, hq1.2.2.2.2⟩) | (have hA := hq1.2.2.1 h53.1; exact fun _ => ⟨rfl, by simp; omega, by simp; omega, by simp; omega, by dsimp only; omega, fun a ha => (A0.1 ha).elim (hq1.2.2.2.2 a) (hq3.2.2.2.2 a)⟩)))
noncomputable def Fo (k : Int) (b : List Int) (hb : b.length <= 1000000) : Dz × Int := (got (M6 k b hb)).choose
theorem Yu (k : Int) (b : List Int) (hb : b.length <= 1000000) : PP 50 [] [.li k, .mY b] [] (.tup [.agg ((Fo k b hb).1.a false), .lit (.int .i64 (Fo k b hb).2)]) := (got (M6 k b hb)).choose_spec.1
theorem Y7 (k : Int) (b : List Int) (hb : b.length <= 1000000) : (Fo k b hb).2 = 0 -> (Fo k b hb).1.kind = k /\ (Ed k).1.fix <= (Fo k b hb).1.args.length /\ (Fo k b hb).1.args.length <= 1000 /\ (Fo k b hb).1.tok.length <= b.length /\ (Fo k b hb).1.data.length <= b.length /\ ∀ a ∈ (Fo k b hb).1.args, 0 <= a := (got (M6 k b hb)).choose_spec.2
theorem Ams : ∀ (f : Nat) (n : Int), (viN f n).length <= f + 1
 | 0, n => by simp [viN]
 | f + 1, n => by
  rw [viN]
  split
  ·simp [Ams f]
  simp
theorem Dy (n : Int) : (Kx n).1.length <= 6 := by
 unfold Kx
 split
 ·simp
 exact Ams 5 n
theorem Abz (m : Dz) (h1 : m.tok.length <= 10000) (h2 : m.args.length <= 10000) (h3 : m.data.length <= 10000) : Ct 136 [m.g] (fun d : List Int × Int => .tup [.mY d.1, .li d.2]) (fun d => d.1.length <= 200) := by
 refine Ek Tryz.func136 ?_
 obtain ⟨Y1, cY1, qY1⟩ := got (Im m.kind)
 have hv := cY1
 have hq0 := qY1
 generalize Y1 = S at hv hq0
 refine B3 (fun K kk => by simp [go_sem, Af]; exact kk) ?_
 refine B3 (fun K kk => by simp [go_sem, Af]; refine .l (hv) ?_; simp [go_sem, Af]; exact kk) <| .seq ?_
 refine B3 (fun K kk => by simp +contextual [go_sem, Af]; exact kk) ?_
 refine Br ?_ ?_ <;> intro h41
 ·refine B3 (fun K kk => by simp [go_sem, Af]; exact kk) ?_
  refine Bz (Ex ?_); simp [go_sem, Af]
  exact ⟨([], 6), by first | rfl | simp [go_sem], (by first | omega | (simp; done) | (simp; omega))⟩
 refine Bp ?_
 obtain ⟨Y2, cY2, qY2⟩ := got (Wd S.1 m.args.length)
 refine B3 (fun K kk => by simp [go_sem, Af]; refine .l cY2 ?_; simp [go_sem, Af]; exact kk) <| .seq ?_
 refine B3 (fun K kk => by simp +contextual [go_sem, Af]; exact kk) ?_
 refine Br ?_ ?_ <;> intro h57
 ·refine B3 (fun K kk => by simp [go_sem, Af]; exact kk) ?_
  refine Bz (Ex ?_); simp [go_sem, Af]
  exact ⟨([], 6), by first | rfl | simp [go_sem], (by first | omega | (simp; done) | (simp; omega))⟩
 refine Bp <| .S (fun K kk => by simp [go_sem, Af]; refine .lo (Ee _ (by first | (simp; done) | (simp; omega) | (simp; assumption)) (by first | (simp [T.plain]; done) | (rw [Am]; intro e he; repeat (first | replace he := Aq he | replace he := Ay he); obtain ⟨x, _, rfl⟩ := A4.1 he; rfl))) rfl (by simp [AV.cln, Ez]) ?_; simp [go_sem, Af]; exact kk) <| .seq ?_
 have hw1 := Dt (m.args.length + 1 : Int)
 refine B3 (fun K kk => by simp [go_sem, Af, hw1]; exact kk) <| .block ?_
 refine Bs (m.args.length + 1) (fun i1 (y1 : (List Int)) => ⟨[(1, .ptr 0 0), (4, .ptr 1 0), (6, .li (Y2.1)), (7, .own 2 y1.length), (64, .li (m.args.length + 1)), (65, .li i1)], [.box 56 [.li m.kind, .mY m.tok, .mI m.args, .mY m.data], .box 171 [.li S.1.tok, .li S.1.fix, .li S.1.grp, .li S.1.lea, .li S.1.mos, .li S.1.dat], .row 5 1 false false (tY y1)]⟩) (fun i1 y1 => y1.length <= m.tok.length + 12 * i1) (m.tok) (wk hw1 [0, 1, 2]) (by simp) fun i1 y1 hi1 hy1 => ?_
 refine B3 (fun K kk => by simp [go_sem, Af, hw1]; exact kk) <| .seq ?_
 refine Br ?_ ?_ <;> intro h66
 ·refine Bp <| .seq <| .block <| .S (fun K kk => by simp [go_sem, Af, hw1]; exact kk) <| .seq ?_
  refine B3 (fun K kk => by simp [go_sem, Af, hw1]; exact kk) ?_
  refine Br ?_ ?_ <;> intro h76
  ·refine B3 (fun K kk => by simp [go_sem, Af, hw1]; refine .l (K9 (Y2.1)) ?_; simp [go_sem, Af, hw1]; exact kk) ?_
   refine Cy (by rfl) fun K1 hK1 => ?_
   simp [go_sem, Af, hw1]
   repeat' with_reducible refine Ax ?_ ?_
   all_goals try (intros; (repeat' refine Ax ?_ ?_) <;> omega)
   all_goals try ((have q0 := Dy Y2.1); (try have q1 := Dy e1); (try have q2 := Dy e2); (try have q3 := Dy e3); (try have q4 := Dy e4); (try have q5 := Dy e5); (try have q6 := Dy e6); (try have q7 := Dy e7); (try have q8 := Dy e8); omega)
   refine hK1 _ ?_; clear hK1
   refine Ca <| .S (fun K kk => by simp [go_sem, Af, hw1]; exact kk) ?_
   refine Br ?_ ?_ <;> intro h89
   ·refine Bt ?_
    refine B4 (by rfl) fun K1 hK1 => ?_
    simp [go_sem, Af, hw1]
    repeat' with_reducible refine Ax ?_ ?_
    all_goals try (intros; (repeat' refine Ax ?_ ?_) <;> omega)
    all_goals try ((have q0 := Dy Y2.1); (try have q1 := Dy e1); (try have q2 := Dy e2); (try have q3 := Dy e3); (try have q4 := Dy e4); (try have q5 := Dy e5); (try have q6 := Dy e6); (try have q7 := Dy e7); (try have q8 := Dy e8); omega)
    refine hK1 _ ?_; clear hK1
    refine Ca <| .S (fun K kk => by simp [go_sem, Af, hw1]; exact kk) ?_
    refine Br ?_ ?_ <;> intro h111
    ·refine B3 (fun K kk => by simp [go_sem, Af, hw1]; exact kk) ?_
     refine Bz (Ex ?_); simp [go_sem, Af, hw1]
     exact ⟨([], 6), by first | rfl | simp [go_sem], (by first | omega | (simp; done) | (simp; omega))⟩
    refine Bp <| .S (fun K kk => by simp [go_sem, Af, hw1]; exact kk) ?_
    refine B2 ok0 2 ?_
    refine Bz (Ex ?_); simp [go_sem, Af, hw1]
    exact ⟨((y1 ++ ((Kx (Y2.1)).1)) ++ m.data, 0), by first | rfl | simp [go_sem], (by first | omega | (simp; done) | (simp; omega))⟩
   refine Bp ?_
   obtain ⟨e2, H2⟩ := gx m.args i1
   refine B3 (fun K kk => by simp [go_sem, Af, hw1, H2]; (repeat refine aK ?_); refine .l (K9 e2) ?_; simp [go_sem, Af, hw1, H2]; exact kk) <| .seq ?_
   refine B3 (fun K kk => by simp [go_sem, Af, hw1, H2]; exact kk) ?_
   refine Br ?_ ?_ <;> intro h100
   ·refine B3 (fun K kk => by simp [go_sem, Af, hw1, H2]; exact kk) ?_
    refine Bz (Ex ?_); simp [go_sem, Af, hw1, H2]
    exact ⟨([], 6), by first | rfl | simp [go_sem], (by first | omega | (simp; done) | (simp; omega))⟩
   refine Bp ?_
   refine Cy (by rfl) fun K1 hK1 => ?_
   simp [go_sem, Af, hw1, H2]
   repeat' with_reducible refine Ax ?_ ?_
   all_goals try (intros; (repeat' refine Ax ?_ ?_) <;> omega)
   all_goals try ((have q0 := Dy Y2.1); (try have q1 := Dy e1); (try have q2 := Dy e2); (try have q3 := Dy e3); (try have q4 := Dy e4); (try have q5 := Dy e5); (try have q6 := Dy e6); (try have q7 := Dy e7); (try have q8 := Dy e8); omega)
   refine hK1 _ ?_; clear hK1
   refine Cb (fun K kk => by simp [go_sem, Af, hw1, H2]; exact kk) ?_
   refine ⟨by omega, ((y1 ++ ((Kx (Y2.1)).1)) ++ ((Kx e2).1)), ?_, wk (cj3 (Dt ((i1 : Int) + 1)) hw1 H2) [0, 1, 2]⟩
   first | omega | (simp only [Bo]; (try have q0 := Dy Y2.1); (try have q1 := Dy e1); (try have q2 := Dy e2); (try have q3 := Dy e3); (try have q4 := Dy e4); (try have q5 := Dy e5); (try have q6 := Dy e6); omega)
  refine Bp <| .seq <| .S (fun K kk => by simp [go_sem, Af, hw1]; exact kk) ?_
  refine Br ?_ ?_ <;> intro h89
  ·refine Bt ?_
   refine B4 (by rfl) fun K1 hK1 => ?_
   simp [go_sem, Af, hw1]
   repeat' with_reducible refine Ax ?_ ?_
   all_goals try (intros; (repeat' refine Ax ?_ ?_) <;> omega)
   all_goals try ((have q0 := Dy Y2.1); (try have q1 := Dy e1); (try have q2 := Dy e2); (try have q3 := Dy e3); (try have q4 := Dy e4); (try have q5 := Dy e5); (try have q6 := Dy e6); (try have q7 := Dy e7); (try have q8 := Dy e8); omega)
   refine hK1 _ ?_; clear hK1
   refine Ca <| .S (fun K kk => by simp [go_sem, Af, hw1]; exact kk) ?_
   refine Br ?_ ?_ <;> intro h111
   ·refine B3 (fun K kk => by simp [go_sem, Af, hw1]; exact kk) ?_
    refine Bz (Ex ?_); simp [go_sem, Af, hw1]
    exact ⟨([], 6), by first | rfl | simp [go_sem], (by first | omega | (simp; done) | (simp; omega))⟩
   refine Bp <| .S (fun K kk => by simp [go_sem, Af, hw1]; exact kk) ?_
   refine B2 ok0 2 ?_
   refine Bz (Ex ?_); simp [go_sem, Af, hw1]
   exact ⟨(y1 ++ m.data, 0), by first | rfl | simp [go_sem], (by first | omega | (simp; done) | (simp; omega))⟩
  refine Bp ?_
  obtain ⟨e3, H3⟩ := gx m.args i1
  refine B3 (fun K kk => by simp [go_sem, Af, hw1, H3]; (repeat refine aK ?_); refine .l (K9 e3) ?_; simp [go_sem, Af, hw1, H3]; exact kk) <| .seq ?_
  refine B3 (fun K kk => by simp [go_sem, Af, hw1, H3]; exact kk) ?_
  refine Br ?_ ?_ <;> intro h100
  ·refine B3 (fun K kk => by simp [go_sem, Af, hw1, H3]; exact kk) ?_
   refine Bz (Ex ?_); simp [go_sem, Af, hw1, H3]
   exact ⟨([], 6), by first | rfl | simp [go_sem], (by first | omega | (simp; done) | (simp; omega))⟩
  refine Bp ?_
  refine Cy (by rfl) fun K1 hK1 => ?_
  simp [go_sem, Af, hw1, H3]
  repeat' with_reducible refine Ax ?_ ?_
  all_goals try (intros; (repeat' refine Ax ?_ ?_) <;> omega)
  all_goals try ((have q0 := Dy Y2.1); (try have q1 := Dy e1); (try have q2 := Dy e2); (try have q3 := Dy e3); (try have q4 := Dy e4); (try have q5 := Dy e5); (try have q6 := Dy e6); (try have q7 := Dy e7); (try have q8 := Dy e8); omega)
  refine hK1 _ ?_; clear hK1
  refine Cb (fun K kk => by simp [go_sem, Af, hw1, H3]; exact kk) ?_
  refine ⟨by omega, (y1 ++ ((Kx e3).1)), ?_, wk (cj3 (Dt ((i1 : Int) + 1)) hw1 H3) [0, 1, 2]⟩
  first | omega | (simp only [Bo]; (try have q0 := Dy Y2.1); (try have q1 := Dy e1); (try have q2 := Dy e2); (try have q3 := Dy e3); (try have q4 := Dy e4); (try have q5 := Dy e5); (try have q6 := Dy e6); omega)
 refine Bt ?_
 refine B4 (by rfl) fun K1 hK1 => ?_
 simp [go_sem, Af, hw1]
 repeat' with_reducible refine Ax ?_ ?_
 all_goals try (intros; (repeat' refine Ax ?_ ?_) <;> omega)
 all_goals try ((have q0 := Dy Y2.1); (try have q1 := Dy e1); (try have q2 := Dy e2); (try have q3 := Dy e3); (try have q4 := Dy e4); (try have q5 := Dy e5); (try have q6 := Dy e6); (try have q7 := Dy e7); (try have q8 := Dy e8); omega)
 refine hK1 _ ?_; clear hK1
 refine Ca <| .S (fun K kk => by simp [go_sem, Af, hw1]; exact kk) ?_
 refine Br ?_ ?_ <;> intro h111
 ·refine B3 (fun K kk => by simp [go_sem, Af, hw1]; exact kk) ?_
  refine Bz (Ex ?_); simp [go_sem, Af, hw1]
  exact ⟨([], 6), by first | rfl | simp [go_sem], (by first | omega | (simp; done) | (simp; omega))⟩
 refine Bp <| .S (fun K kk => by simp [go_sem, Af, hw1]; exact kk) ?_
 refine B2 ok0 2 ?_
 refine Bz (Ex ?_); simp [go_sem, Af, hw1]
 exact ⟨(y1 ++ m.data, 0), by first | rfl | simp [go_sem], (by first | omega | (simp; done) | (simp; omega))⟩
def P17 (m : Dz) (n : Int) : Prop := m.kind = 17 /\ m.tok = [] /\ m.args = [n] /\ (Kx n).2 = 0 /\ m.data.length <= 100
theorem R7 (s : Ie) (n : Int) (hg : s.grp = 0) : Ct 159 [s.g, .li n] (fun d : Int × Bool => .tup [.li d.1, .lb d.2]) (fun d => d = (0, n == s.fix)) := by
 refine Ek Tryz.func159 ?_
 refine Bq <| .seq ?_
 refine Bq ?_
 refine Br ?_ ?_ <;> intro h10
 ·refine VX.D ?_
  exact .ret (fin ok0 (0, ((n : Int) == s.fix)) rfl)
 exfalso; omega
noncomputable def Sk (s : Ie) (n : Int) (hg : s.grp = 0) : Int × Bool := (got (R7 s n hg)).choose
theorem Agr (s : Ie) (n : Int) (hg : s.grp = 0) : PP 159 [] [s.g, .li n] [] (.tup [.lit (.int .i64 (Sk s n hg).1), .lit (.bool (Sk s n hg).2)]) := (got (R7 s n hg)).choose_spec.1
theorem Ahd (s : Ie) (n : Int) (hg : s.grp = 0) : (Sk s n hg) = (0, n == s.fix) := (got (R7 s n hg)).choose_spec.2
theorem Ad6 (m : Dz) (n : Int) (h1 : m.tok.length <= 10000) (h2 : m.args.length <= 10000) (h3 : m.data.length <= 10000) (hP : P17 m n) : Ct 136 [m.g] (fun d : List Int × Int => .tup [.mY d.1, .li d.2]) (fun d => d = ((Kx n).1 ++ m.data, 0)) := by
 refine Ek Tryz.func136 ?_
 obtain ⟨hk, ht, ha, hvn, hdl⟩ := hP
 obtain ⟨Y1, cY1, qY1⟩ := got (Im m.kind)
 have hv := cY1
 rw [qY1.1.2 hk] at hv
 have hql := Dy n
 have hg := Agr (⟨0, 1, 0, 0, 0, -1⟩ : Ie) 1 rfl
 rw [Ahd] at hg
 refine Bu (cj2 ha ht) ?_
 refine B8 (cj2 ha ht) (hv) <| .seq ?_
 refine Bu (cj2 ha ht) ?_
 refine C5 ?_ ?_ <;> intro h41 <;> simp [go_sem] at h41
 refine Bp <| .L (cj2 ha ht) (hg) <| .seq ?_
 refine Bu (cj2 ha ht) ?_
 refine Br ?_ ?_ <;> intro h57
 ·exfalso; omega
 refine Bp <| .S (fun K kk => by simp [go_sem, ha, ht]; refine .lo (Ee _ (by first | (simp; done) | (simp; omega) | (simp; assumption)) (by first | (simp [T.plain]; done) | (rw [Am]; intro e he; repeat (first | replace he := Aq he | replace he := Ay he); obtain ⟨x, _, rfl⟩ := A4.1 he; rfl))) rfl (by simp [AV.cln, Ez]) ?_; simp [go_sem, ha, ht]; exact kk) <| .seq ?_
 have hw2 : IntKind.i64.wrap 2 = 2 := by decide
 have hw3 : IntKind.i64.wrap 1 = 1 := by decide
 refine Bu (cj3 ha ht hw2) <| .block ?_
 refine Bs 2 (fun i1 (y1 : (List Int)) => ⟨[(1, .ptr 0 0), (4, .ptr 1 0), (6, .li (0 : Int)), (7, .own 2 y1.length), (64, .li 2), (65, .li i1)], [.box 56 [.li m.kind, .mY m.tok, .mI m.args, .mY m.data], .box 171 [.li ((⟨0, 1, 0, 0, 0, -1⟩ : Ie).tok), .li ((⟨0, 1, 0, 0, 0, -1⟩ : Ie).fix), .li ((⟨0, 1, 0, 0, 0, -1⟩ : Ie).grp), .li ((⟨0, 1, 0, 0, 0, -1⟩ : Ie).lea), .li ((⟨0, 1, 0, 0, 0, -1⟩ : Ie).mos), .li ((⟨0, 1, 0, 0, 0, -1⟩ : Ie).dat)], .row 5 1 false false (tY y1)]⟩) (fun i1 y1 => y1 = if i1 = 0 then [] else (Kx n).1) (m.tok) (wk (cj3 ha ht hw2) [0, 1, 2]) (by simp [ht]) fun i1 y1 hi1 hy1 => ?_
 refine Bu (cj2 ha ht) <| .seq ?_
 refine Br ?_ ?_ <;> intro h66
 ·have hyl : y1.length <= 6 := by (rw [hy1]; split <;> first | (simp; done) | omega)
  refine Bp <| .seq <| .block <| .H (cj2 ha ht) <| .seq ?_
  refine Bu (cj2 ha ht) ?_
  refine C5 ?_ ?_ <;> intro h76 <;> simp [go_sem] at h76
  refine Bp <| .seq <| .H (cj2 ha ht) ?_
  refine Br ?_ ?_ <;> intro h89
  ·refine Bt <| .H (cj2 ha ht) <| .seq ?_
   refine Bu (cj2 ha ht) ?_
   refine Br ?_ ?_ <;> intro h111
   ·exfalso; omega
   refine Bp <| .H (cj2 ha ht) ?_
   refine B2 ok0 2 ?_
   exact .ret (fin (cj2 ha ht) (y1 ++ m.data, 0) (by rw [hy1, if_neg (by omega)]))
  refine Bp ?_
  have hi0 : i1 = 0 := by omega
  refine B8 (cj3 ha ht hi0) (K9 n) <| .seq ?_
  refine Bu (cj3 ha ht hi0) ?_
  refine Br ?_ ?_ <;> intro h100
  ·exfalso; exact h100 hvn
  refine Bp <| .H1 (cj3 ha ht hi0) ?_
  refine B0 (cj3 ha ht hi0) ?_
  refine ⟨by omega, (y1 ++ ((Kx n).1)), ?_, wk (cj5 (Dt ((i1 : Int) + 1)) hi0 ha ht hw3) [0, 1, 2]⟩
  rw [hy1, hi0]; simp
 have hyl : y1.length <= 6 := by (rw [hy1]; split <;> first | (simp; done) | omega)
 refine Bt <| .H (cj2 ha ht) <| .seq ?_
 refine Bu (cj2 ha ht) ?_
 refine Br ?_ ?_ <;> intro h111
 ·exfalso; omega
 refine Bp <| .H (cj2 ha ht) ?_
 refine B2 ok0 2 ?_
 exact .ret (fin (cj2 ha ht) (y1 ++ m.data, 0) (by rw [hy1, if_neg (by omega)]))
theorem M5 (m : Dz) (h1 : m.tok.length <= 10000) (h2 : m.args.length <= 10000) (h3 : m.data.length <= 10000) : Ct 136 [m.g] (fun d : List Int × Int => .tup [.mY d.1, .li d.2]) (fun d => d.1.length <= 200 /\ ∀ n, P17 m n -> d = ((Kx n).1 ++ m.data, 0)) := by
 by_cases h : ∃ n, P17 m n
 ·obtain ⟨n, hP⟩ := h
  obtain ⟨res, h4, d, h5, h6⟩ := Ad6 m n h1 h2 h3 hP
  refine ⟨res, h4, d, h5, ?_, fun n' hP' => ?_⟩
  ·rw [h6]
   have := Dy n
   have := hP.2.2.2.2
   simp
   omega
  have e : [n] = [n'] := hP.2.2.1.symm.trans hP'.2.2.1
  injection e with e
  rw [h6, e]
 obtain ⟨res, h4, d, h5, h6⟩ := Abz m h1 h2 h3
 exact ⟨res, h4, d, h5, h6, fun n hP => absurd ⟨n, hP⟩ h⟩
noncomputable def Er (m : Dz) (h1 : m.tok.length <= 10000) (h2 : m.args.length <= 10000) (h3 : m.data.length <= 10000) : List Int × Int := (got (M5 m h1 h2 h3)).choose
theorem Rs (m : Dz) (h1 : m.tok.length <= 10000) (h2 : m.args.length <= 10000) (h3 : m.data.length <= 10000) : PP 136 [] [m.g] [] (.tup [.imm false 1 (tY (Er m h1 h2 h3).1), .lit (.int .i64 (Er m h1 h2 h3).2)]) := (got (M5 m h1 h2 h3)).choose_spec.1
theorem Nh (m : Dz) (h1 : m.tok.length <= 10000) (h2 : m.args.length <= 10000) (h3 : m.data.length <= 10000) : (Er m h1 h2 h3).1.length <= 200 /\ ∀ n, P17 m n -> (Er m h1 h2 h3) = ((Kx n).1 ++ m.data, 0) := (got (M5 m h1 h2 h3)).choose_spec.2
theorem Aj8 {k : Int} {p : List Int} (h1 : 0 <= k) (h2 : k <= 255) (h3 : p.length <= 200) : (Tf k p).2 = 0 /\ (Tf k p).1.length = p.length + 10 := by
 unfold Tf
 rw [if_neg (by omega), if_neg (by omega)]
 exact ⟨rfl, by simp [Abr, Ix, Nj]⟩
theorem Af0 (k : Int) (p : List Int) : (Tf k p).1.length <= p.length + 10 := by
 unfold Tf
 split
 ·simp
 split
 ·simp
 simp [Abr, Ix, Nj]
theorem K8 (m : Dz) (h1 : m.tok.length <= 10000) (h2 : m.args.length <= 10000) (h3 : m.data.length <= 10000) : Ct 134 [m.g] (fun d : Bool => .lb d) (fun d => d = ((Er m h1 h2 h3).2 == 0)) := by
 refine Ek Tryz.func134 ?_
 refine Bq ?_
 refine B8 ok0 (Rs m h1 h2 h3) ?_
 refine Bq ?_
 exact .ret (fin ok0 ((((Er m h1 h2 h3).2) : Int) == 0) rfl)
noncomputable def Lg (m : Dz) (h1 : m.tok.length <= 10000) (h2 : m.args.length <= 10000) (h3 : m.data.length <= 10000) : Bool := (got (K8 m h1 h2 h3)).choose
theorem Aas (m : Dz) (h1 : m.tok.length <= 10000) (h2 : m.args.length <= 10000) (h3 : m.data.length <= 10000) : PP 134 [] [m.g] [] (.lb (Lg m h1 h2 h3)) := (got (K8 m h1 h2 h3)).choose_spec.1
theorem Aa7 (m : Dz) (h1 : m.tok.length <= 10000) (h2 : m.args.length <= 10000) (h3 : m.data.length <= 10000) : (Lg m h1 h2 h3) = ((Er m h1 h2 h3).2 == 0) := (got (K8 m h1 h2 h3)).choose_spec.2
theorem Oa (m : Dz) (h1 : m.tok.length <= 10000) (h2 : m.args.length <= 10000) (h3 : m.data.length <= 10000) : Ct 102 [m.g] (fun d : List Int × Int => .tup [.mY d.1, .li d.2]) (fun d => d.1.length <= 210 /\ ((Er m h1 h2 h3).2 = 0 -> 0 <= m.kind -> m.kind <= 255 -> d.2 = 0 /\ d.1.length = (Er m h1 h2 h3).1.length + 10)) := by
 refine Ek Tryz.func102 ?_
 have hq := Nh m h1 h2 h3
 refine Bq ?_
 refine B8 ok0 (Rs m h1 h2 h3) <| .seq ?_
 refine Bq ?_
 refine Br ?_ ?_ <;> intro h12
 ·refine Bq ?_
  exact .ret (fin ok0 ([], (Er m h1 h2 h3).2) (by first | exact ⟨Ae _, fun e => absurd e (by assumption)⟩ | exact ⟨Ak (Af0 _ _) (by omega), fun _ k1 k2 => Aj8 k1 k2 hq.1⟩))
 refine Bp <| .L ok0 (Acd m.kind (Er m h1 h2 h3).1 (by omega)) ?_
 exact .ret (fin ok0 ((Tf m.kind ((Er m h1 h2 h3).1)).1, (Tf m.kind ((Er m h1 h2 h3).1)).2) (by first | exact ⟨Ae _, fun e => absurd e (by assumption)⟩ | exact ⟨Ak (Af0 _ _) (by omega), fun _ k1 k2 => Aj8 k1 k2 hq.1⟩))
noncomputable def Fx (m : Dz) (h1 : m.tok.length <= 10000) (h2 : m.args.length <= 10000) (h3 : m.data.length <= 10000) : List Int × Int := (got (Oa m h1 h2 h3)).choose
theorem Aat (m : Dz) (h1 : m.tok.length <= 10000) (h2 : m.args.length <= 10000) (h3 : m.data.length <= 10000) : PP 102 [] [m.g] [] (.tup [.imm false 1 (tY (Fx m h1 h2 h3).1), .lit (.int .i64 (Fx m h1 h2 h3).2)]) := (got (Oa m h1 h2 h3)).choose_spec.1
theorem Td (m : Dz) (h1 : m.tok.length <= 10000) (h2 : m.args.length <= 10000) (h3 : m.data.length <= 10000) : (Fx m h1 h2 h3).1.length <= 210 /\ ((Er m h1 h2 h3).2 = 0 -> 0 <= m.kind -> m.kind <= 255 -> (Fx m h1 h2 h3).2 = 0 /\ (Fx m h1 h2 h3).1.length = (Er m h1 h2 h3).1.length + 10) := (got (Oa m h1 h2 h3)).choose_spec.2
theorem Wg (n : Int) (a : TAg) (h1 : a.sec.length <= 1000000) (h2 : a.lims.length <= 1000000) : Ct 55 [.li n, a.g] (fun d : Du => d.g) (fun d => d.reg = Gh n a h1 h2 /\ d.reqs = [] /\ d.draws = [] /\ d.aud.length <= 2 /\ (∀ k : Nat, ¬ d.aud[k]? = some true) /\ d.aud = List.replicate ((if 2 < (if a.se < 0 then 0 else a.se) then 2 else (if a.se < 0 then 0 else a.se)).toNat) false) := by
 refine Ek Tryz.func55 ?_
 iterate 2 refine Bq ?_
 refine Da ok0 (Ab7 n a (by first | assumption | omega) (by first | assumption | omega)) ?_
 refine B2 ok0 2 ?_
 exact .ret (fin ok0 ⟨(Gh n a (by first | assumption | omega) (by first | assumption | omega)), [], [], List.replicate ((if 2 < (if a.se < 0 then 0 else a.se) then 2 else (if a.se < 0 then 0 else a.se)).toNat) false⟩ ⟨rfl, rfl, rfl, by simp; (repeat' split) <;> omega, (fun k h => by have := List.eq_of_mem_replicate (Ac h); cases this), rfl⟩)
noncomputable def E9 (n : Int) (a : TAg) (h1 : a.sec.length <= 1000000) (h2 : a.lims.length <= 1000000) : Du := (got (Wg n a h1 h2)).choose
theorem Ala (n : Int) (a : TAg) (h1 : a.sec.length <= 1000000) (h2 : a.lims.length <= 1000000) : PP 55 [] [.li n, a.g] [] (.agg ((E9 n a h1 h2).a false)) := (got (Wg n a h1 h2)).choose_spec.1
theorem Wv (n : Int) (a : TAg) (h1 : a.sec.length <= 1000000) (h2 : a.lims.length <= 1000000) : (E9 n a h1 h2).reg = Gh n a h1 h2 /\ (E9 n a h1 h2).reqs = [] /\ (E9 n a h1 h2).draws = [] /\ (E9 n a h1 h2).aud.length <= 2 /\ (∀ k : Nat, ¬ (E9 n a h1 h2).aud[k]? = some true) /\ (E9 n a h1 h2).aud = List.replicate ((if 2 < (if a.se < 0 then 0 else a.se) then 2 else (if a.se < 0 then 0 else a.se)).toNat) false := (got (Wg n a h1 h2)).choose_spec.2
theorem Vq (c : Mm) (h : c.lights.length <= 1000000) : Ct 225 [c.g] (fun d : Bool => .lb d) (fun d => True) := by
 refine Ek Tryz.func225 ?_
 refine Bq ?_
 refine B3 (fun K kk => by simp [go_sem]; refine .lo (Ua c.lights _ [] (fun x => x.l != 0) h Rx Aal) (by simp [go_sem]) (by simp [AV.cln, Ez]) ?_; simp [go_sem]; exact kk) ?_
 refine Bz (Ex ?_); simp [go_sem]
 exact ⟨_, by first | rfl | simp [go_sem], trivial⟩
noncomputable def Zg (m : Dz) : List Int := by
 classical
 exact if h : m.tok.length <= 10000 /\ m.args.length <= 10000 /\ m.data.length <= 10000 then (if (Fx m h.1 h.2.1 h.2.2).2 = 0 then (Fx m h.1 h.2.1 h.2.2).1 else []) else []
theorem Ane {m : Dz} (h1 : m.tok.length <= 10000) (h2 : m.args.length <= 10000) (h3 : m.data.length <= 10000) (h : (Fx m h1 h2 h3).2 = 0) : Zg m = (Fx m h1 h2 h3).1 := by
 unfold Zg
 rw [dif_pos ⟨h1, h2, h3⟩, if_pos h]
theorem As7 {m : Dz} (h1 : m.tok.length <= 10000) (h2 : m.args.length <= 10000) (h3 : m.data.length <= 10000) (h : ¬ (Fx m h1 h2 h3).2 = 0) : Zg m = [] := by
 unfold Zg
 rw [dif_pos ⟨h1, h2, h3⟩, if_neg h]
theorem As8 {m : Dz} {n : Int} (h : P17 m n) : (Zg m).length = (Kx n).1.length + m.data.length + 10 := by
 have h1 : m.tok.length <= 10000 := by rw [h.2.1]; simp
 have h2 : m.args.length <= 10000 := by rw [h.2.2.1]; simp
 have h3 : m.data.length <= 10000 := by have := h.2.2.2.2; omega
 have he := (Nh m h1 h2 h3).2 n h
 have hf := (Td m h1 h2 h3).2 (by rw [he]) (by rw [h.1]; decide) (by rw [h.1]; decide)
 rw [Ane h1 h2 h3 hf.1, hf.2, he]
 simp
theorem Anf {α β : Type} {f : α -> List β} {l : List α} {i : Nat} {e : α} (h : l[i]? = some e) : ((l.take (i + 1)).map f).flatten = ((l.take i).map f).flatten ++ f e := by
 rw [List.take_add_one, h]; simp
theorem S0 (l : List Dz) (hl : l.length <= 1000) (hm : ∀ m ∈ l, m.tok.length <= 10000 /\ m.args.length <= 10000 /\ m.data.length <= 10000) : Ct 66 [.mMsg l] (fun d : List Int => .mY d) (fun d => d = (l.map Zg).flatten) := by
 refine Ek Tryz.func66 ?_
 refine Bq ?_
 refine Bq <| .seq ?_
 refine Bq <| .block ?_
 refine Cg 3 5 1 (by decide) (k' := 1) (by simp [go_sem]) ?_
 simp [go_sem, -Prod.exists]
 refine Bs l.length (fun i1 (y1 : (List Int)) => ⟨[(3, .own 0 y1.length), (8, .mMsg l), (9, .li l.length), (10, .li i1)], [.row 5 1 false false (tY y1)]⟩) (fun i1 y1 => y1 = ((l.take i1).map Zg).flatten /\ y1.length <= 300 * i1) ([]) (wk ok0 [0]) (⟨by simp, by simp⟩) fun i1 y1 hi1 hy1 => ?_
 refine Bq <| .seq ?_
 refine Br ?_ ?_ <;> intro h11
 ·refine Bp <| .seq <| .block ?_
  obtain ⟨e1, H1⟩ := gx l i1
  refine Bu H1 ?_
  have hb := hm e1 (Ac H1)
  have hf := (Td e1 hb.1 hb.2.1 hb.2.2).1
  refine B8 H1 (Aat e1 hb.1 hb.2.1 hb.2.2) ?_
  refine Bu H1 ?_
  refine Br ?_ ?_ <;> intro h20
  ·refine B0 H1 ?_
   refine B0 H1 ?_
   exact ⟨by omega, (y1 ++ ((Fx e1 hb.1 hb.2.1 hb.2.2).1)), ⟨by rw [hy1.1, Anf H1, Ane hb.1 hb.2.1 hb.2.2 h20], by simp; omega⟩, wk (cj2 (Dt ((i1 : Int) + 1)) H1) [0]⟩
  refine Bp <| .H1 H1 ?_
  exact ⟨by omega, (y1), ⟨by rw [Anf H1, As7 hb.1 hb.2.1 hb.2.2 h20, List.append_nil]; exact hy1.1, by omega⟩, wk (cj2 (Dt ((i1 : Int) + 1)) H1) [0]⟩
 refine Bt <| .R ?_
 refine B2 ok0 0 ?_
 exact .ret (fin ok0 y1 (by rw [hy1.1, Bf (by omega)]))
section
variable {P : Program} {n m : Nat} {st : St} {K : Exit -> St -> Prop}
theorem Ul {E : Ent} {F : Fence} (hF : FOk E F) {ops : Array Oper} {K : St -> Prop} {Q : Exit -> Act -> World -> Prop} (l2 : List Oper) (hQ : ∀ st β a w, K st -> Rel E β st a w -> wpListIn F 0 P ops Q l2 a w) : ∀ (l : List Oper) (hd : ∀ o ∈ l, ∀ x, o.dst = some x -> x < E.n) (st : St) (β : Nat -> Option Nat) (a : Act) (w : World),
 runs P (l.map fun o => ⟨o.dst, o.op, o.type, Mj ops o⟩) st K -> Rel E β st a w -> wpListIn F 0 P ops Q (l ++ l2) a w
 | [], _, st, β, a, w, h, r => hQ st β a w h r
 | o :: l, hd, st, β, a, w, h, r => by
  obtain ⟨hg, h⟩ := h
  rw [List.cons_append]
  unfold wpListIn
  simp only at h hg
  cases hc : Et o.op with
  | true =>
   rw [hc, if_pos rfl] at h
   obtain ⟨e, h1, h2⟩ := h
   exact Sh r (hd o (by simp)) hg (fun _ p _ hp => Gr st p.1 hp) h1 hF fun β' a' w' r' => Ul hF l2 hQ l (fun x hx => hd x (by simp [hx])) _ β' a' w' h2 r'
  | false =>
   rw [hc, if_neg (by simp)] at h
   obtain ⟨h1, h2⟩ := h
   exact Sh r (hd o (by simp)) hg (fun _ p _ hp => Gr st p.1 hp) (fun hb => Abu hc (h1 hb)) hF fun β' a' w' r' => Ul hF l2 hQ l (fun x hx => hd x (by simp [hx])) _ β' a' w' h2 r'
theorem VW.region_fz {id0 : Nat} {l : List Oper} (j id : Nat) (hd : Ff n l = true) (h : runs P ((Fy l).take j) st (fun s => Fp (s.o id) = true /\ runs P ((Fy l).drop j) (s.freeze id) (K .normal))) : VW P n m (.region id0 l.toArray false) st K := fun E F hE hF β a w r => by
 have hd' : ∀ o ∈ l, ∀ x, o.dst = some x -> x < E.n := fun o ho x hx => by rw [hE.1]; exact Nk hd o ho x hx
 refine wpIn_region_lit ?_
 have key := Ul (P := P) (Q := Adw E K) hF (ops := l.toArray) (l.drop j) (fun s β a w hs r => ?_) (l.take j) (fun o ho => hd' o (Aq ho)) st β a w (by
  have := h
  simp only [Fy, <- List.map_take] at this
  exact this) r
 ·rwa [List.take_append_drop] at key
 obtain ⟨h1, h2⟩ := hs
 have r2 : Rel E β (s.freeze id) a w := by
  unfold St.freeze
  cases hq : s.o id with
  | row ty k fr fz es => exact (r.freeze hq).1.melt
  | _ => rw [hq] at h1; cases h1
 refine Xm hF (fun s β a w h1 h2 => ⟨E, s, β, G4.refl E, h1, h2⟩) (l.drop j) (fun o ho => hd' o (Ay ho)) _ β a w ?_ r2
 rw [List.map_drop]
 exact h2
theorem VX.region_fz {id0 : Nat} {l : List Oper} (j id : Nat) (hd : Ff n l = true) (h : ∀ K1 : St -> Prop, (∀ s, K .normal s -> K1 s) -> runs P ((Fy l).take j) st (fun s => Fp (s.o id) = true /\ runs P ((Fy l).drop j) (s.freeze id) K1)) : VX P n m (.region id0 l.toArray false) st K := by
 obtain ⟨s, h1, h2, h3⟩ := O5 _ _ (h _ fun _ h => h)
 obtain ⟨s2, h4, h5⟩ := O5 _ _ h3
 refine ⟨.normal, s2, .region_fz j id hd (Kd _ _ ?_ h1), h5⟩
 rintro s' rfl
 exact ⟨h2, Kd _ _ (by rintro s' rfl; exact ⟨rfl, rfl⟩) h4⟩
theorem VX.region_fz_seq {id0 : Nat} {l : List Oper} {y : Code} (j id : Nat) (hd : Ff n l = true) (h : ∀ K1 : St -> Prop, (∀ s, VX P n m y s K -> K1 s) -> runs P ((Fy l).take j) st (fun s => Fp (s.o id) = true /\ runs P ((Fy l).drop j) (s.freeze id) K1)) : VX P n m (.seq (.region id0 l.toArray false) y) st K :=
 .seq (.region_fz j id hd fun K1 hK1 => h K1 hK1)
abbrev Dh := @VX.region_fz_seq
end
section
variable {P : Program} {n m : Nat} {st : St} {K : Exit -> St -> Prop} {c : Code}
theorem VX.rowIs (id : Nat) (es : List (List T)) (h : Fp (st.o id) = true) (he : Kj (st.o id) = es) (hv : VX P n m c (st.set id (.row (Xq (st.o id)) (Q8 (st.o id)) (An5 (st.o id)) (An4 (st.o id)) es)) K) : VX P n m c st K := by
 obtain ⟨e, s, h1, h2⟩ := hv
 refine ⟨e, s, fun E F hE hF β a w r => h1 E F hE hF β a w ?_, h2⟩
 subst he
 cases hq : st.o id with
 | row ty k fr fz es => exact (r.flag hq (fun e => .inl e) fun e => e).1
 | _ => rw [hq] at h; exact absurd h (by simp [Fp])
end
theorem Rel.cellOwn {E : Ent} {β : Nat -> Option Nat} {st : St} {a : Act} {w : World} (r : Rel E β st a w) {b n i k : Nat} {ty : TypeId} {cs : List AV} (hb : st.o b = .box ty cs) (hi : cs[i]? = some (.nil k)) (hn : ∀ A, Dv (E.C β st w) (.own n 0) (.slice A 0 0)) :
 Rel E β (st.set b (.box ty (cs.set i (.own n 0)))) a w := by
 have ho' : ∀ j, j ≠ b -> (st.set b (.box ty (cs.set i (.own n 0)))).o j = st.o j := fun j hj => by rw [St.set_o, if_neg hj]
 have ho : (st.set b (.box ty (cs.set i (.own n 0)))).o b = .box ty (cs.set i (.own n 0)) := by rw [St.set_o, if_pos rfl]
 have hng : ∀ j, (st.set b (.box ty (cs.set i (.own n 0)))).o j ≠ .gone -> st.o j ≠ .gone := fun j hj => by
  by_cases e : j = b
  ·subst e; rw [hb]; simp
  rw [ho' j e] at hj; exact hj
 have s : Ms (E.C β st w) (E.C β (st.set b (.box ty (cs.set i (.own n 0)))) w) := by
  refine ⟨rfl, fun _ h => h, fun _ h => h, fun _ h => h, Aj _, ?_, fun _ _ _ => rfl, ?_, ?_⟩
  ·rintro x hx ⟨j, h1, h2⟩
   have h2 : ((st.set b (.box ty (cs.set i (.own n 0)))).o j).live := h2
   by_cases e : j = b
   ·subst e; exact ⟨j, h1, by show (st.o j).live; rw [hb]; trivial⟩
   rw [ho' j e] at h2; exact ⟨j, h1, h2⟩
  ·intro j ty' cs' hj
   have hj : st.o j = .box ty' cs' := hj
   by_cases e : j = b
   ·subst e
    rw [hb] at hj
    injection hj with e1 e2
    subst e1
    exact ⟨⟨_, ho⟩, rfl⟩
   exact ⟨⟨cs', (ho' j e).trans hj⟩, rfl⟩
  intro j ty' k' fr' fz' es' hj
  have hj : st.o j = .row ty' k' fr' fz' es' := hj
  have e : j ≠ b := fun e => by subst e; rw [hb] at hj; cases hj
  exact ⟨_, _, _, (ho' j e).trans hj, Aj _, fun _ => ⟨rfl, fun b cc hb hc => ⟨cc, hc, rfl⟩⟩⟩
 refine r.move s rfl (fun j => ?_) (fun i j x hi hj => r.inj i j x (hng i hi) (hng j hj)) (fun j x hj => r.rng j x (hng j hj)) r.kp
 by_cases e : j = b
 ·subst e
  rw [ho]
  have h := r.ob j
  rw [hb] at h
  obtain ⟨x, cur, h1, h2, h3, h4⟩ := Jo.step (o := .box ty cs) s h rfl fun _ _ => rfl
  refine ⟨x, cur, h1, h2, by rw [List.length_set]; exact h3, fun q c u hc hu => ?_⟩
  rw [List.getElem?_set] at hc
  split at hc
  ·rename_i e
   subst e
   split at hc
   ·injection hc with hc
    subst hc
    obtain ⟨g1, g2⟩ := h4 i _ u hi hu
    refine ⟨?_, g2⟩
    cases g1 with
    | nil k A => exact (hn A).step s
   cases hc
  exact h4 q c u hc hu
 rw [ho' j e]
 exact (r.ob j).step s rfl fun _ _ => rfl
section
variable {P : Program} {n m : Nat} {st : St} {K : Exit -> St -> Prop} {c : Code}
theorem VW.own0c (b i : Nat) (ty k : Nat) (hk : 0 < k) {bt : TypeId} {cs : List AV} {k' : Nat} (hb : st.o b = .box bt cs) (hi : cs[i]? = some (.nil k')) (hv : VW P n m c ((st.set st.ob.length (.row ty k true false [])).set b (.box bt (cs.set i (.own st.ob.length 0)))) K) : VW P n m c st K := fun E F hE hF β a w r => by
 obtain ⟨r1, h1⟩ := r.empty (Gr st st.ob.length (Aj _)) ty hk true
 have hne : b ≠ st.ob.length := fun e => by
  have := Gr st st.ob.length (Aj _)
  rw [<- e, hb] at this
  cases this
 exact hv E F hE hF _ a w (r1.cellOwn (by rw [St.set_o, if_neg hne]; exact hb) hi h1)
theorem VX.own0c (b i : Nat) (ty k : Nat) (hk : 0 < k) {bt : TypeId} {cs : List AV} {k' : Nat} (hb : st.o b = .box bt cs) (hi : cs[i]? = some (.nil k')) (hv : VX P n m c ((st.set st.ob.length (.row ty k true false [])).set b (.box bt (cs.set i (.own st.ob.length 0)))) K) : VX P n m c st K := by
 obtain ⟨e, s, h1, h2⟩ := hv
 exact ⟨e, s, .own0c b i ty k hk hb hi h1, h2⟩
abbrev Ck := @VX.own0c
end
theorem Tz (x : Du) (k : Int) (now : Int) (h1 : x.reqs.length <= 1000) (h2 : x.reg.toks.length <= 1000000) : Ct 192 [x.g, .li k, .li now] (fun d : Dz => d.g) (fun d => d.tok = [] /\ d.data = [] /\ d.args.length <= 2000) := by
 refine Ek Tryz.func192 ?_
 refine Bq <| .seq ?_
 refine Bq <| .block ?_
 refine Bq ?_
 refine Br ?_ ?_ <;> intro h14
 ·refine Bq ?_
  refine B2 ok0 2 ?_
  exact .ret (fin ok0 ⟨13, [], [x.reg.num, now], []⟩ ⟨rfl, rfl, by first | (simp; done) | (dsimp only; omega)⟩)
 refine Bq ?_
 refine Br ?_ ?_ <;> intro h22
 ·refine Bq <| .seq ?_
  refine Bq <| .block ?_
  refine Ck 2 2 3 1 (by decide) rfl rfl ?_
  simp [go_sem, -Prod.exists]
  refine Bs x.reqs.length (fun i1 (y1 : (List Int)) => ⟨[(6, .ptr 0 0), (7, .ptr 1 0), (26, .mReq x.reqs), (27, .li x.reqs.length), (28, .li i1)], [.box 56 [.li 0, .nil 1, .nil 1, .nil 1], .box 56 [.li 19, .nil 1, .own 2 y1.length, .nil 1], .row 3 1 false false (tI y1)]⟩) (fun i1 y1 => y1.length = 2 * i1) ([]) (wk ok0 [1, 2, 3]) (rfl) fun i1 y1 hi1 hy1 => ?_
  refine Bq <| .seq ?_
  refine Br ?_ ?_ <;> intro h29
  ·refine Bp <| .seq <| .block ?_
   obtain ⟨e1, H1⟩ := gx x.reqs i1
   refine Bu H1 ?_
   refine B0 H1 ?_
   refine B0 H1 ?_
   refine ⟨by omega, (y1 ++ ([e1.id, e1.unt])), ?_, wk (cj2 (Dt ((i1 : Int) + 1)) H1) [0, 1, 2]⟩
   simp; omega
  refine Bt <| .R ?_
  refine B2 ok0 2 ?_
  exact .ret (fin ok0 ⟨19, [], y1, []⟩ ⟨rfl, rfl, by first | (simp; done) | (dsimp only; omega)⟩)
 refine Bp <| .R <| .seq ?_
 refine Bq <| .block ?_
 refine Bs x.reg.toks.length (fun i2 (y2 : Int) => ⟨[(3, .ptr 0 0), (6, .ptr 1 0), (10, .li y2), (45, .mTok x.reg.toks), (46, .li x.reg.toks.length), (47, .li i2)], [.box 70 [.li x.reg.num, .mY x.reg.ag.sec, .li x.reg.ag.ri, .li x.reg.ag.cls, .mI x.reg.ag.lims, .li x.reg.ag.rq, .li x.reg.ag.se, .li x.reg.ag.ra, .li x.reg.ag.bu, .mTok x.reg.toks, .mVeh x.reg.vehs, .li x.reg.bk.lv, .li x.reg.bk.ra, .li x.reg.bk.bu, .mReq x.reqs, .mYs x.draws, .mB x.aud], .box 56 [.li 0, .nil 1, .nil 1, .nil 1]]⟩) (fun i2 y2 => True) (0) (wk ok0 [0, 1]) (trivial) fun i2 y2 hi2 hy2 => ?_
 refine Bq <| .seq ?_
 refine Br ?_ ?_ <;> intro h48
 ·refine Bp <| .seq <| .block ?_
  obtain ⟨e2, H2⟩ := gx x.reg.toks i2
  refine Bu H2 ?_
  refine Bu H2 ?_
  refine Br ?_ ?_ <;> intro h53
  ·refine B0 H2 ?_
   refine B0 H2 ?_
   exact ⟨by omega, (IntKind.i64.wrap (y2 + 1)), trivial, wk (cj2 (Dt ((i2 : Int) + 1)) H2) [0, 1]⟩
  refine Bp <| .H1 H2 ?_
  exact ⟨by omega, (y2), trivial, wk (cj2 (Dt ((i2 : Int) + 1)) H2) [0, 1]⟩
 refine Bt <| .R ?_
 refine B2 ok0 2 ?_
 exact .ret (fin ok0 ⟨20, [], [y2, IntKind.i64.wrap (8 - x.reg.vehs.length), IntKind.i64.wrap (x.reg.ag.rq - x.reqs.length), x.reg.bk.lv], []⟩ ⟨rfl, rfl, by first | (simp; done) | (dsimp only; omega)⟩)
noncomputable def J3 (x : Du) (k : Int) (now : Int) (h1 : x.reqs.length <= 1000) (h2 : x.reg.toks.length <= 1000000) : Dz := (got (Tz x k now h1 h2)).choose
theorem Aiw (x : Du) (k : Int) (now : Int) (h1 : x.reqs.length <= 1000) (h2 : x.reg.toks.length <= 1000000) : PP 192 [] [x.g, .li k, .li now] [] (.agg ((J3 x k now h1 h2).a false)) := (got (Tz x k now h1 h2)).choose_spec.1
theorem Ajp (x : Du) (k : Int) (now : Int) (h1 : x.reqs.length <= 1000) (h2 : x.reg.toks.length <= 1000000) : (J3 x k now h1 h2).tok = [] /\ (J3 x k now h1 h2).data = [] /\ (J3 x k now h1 h2).args.length <= 2000 := (got (Tz x k now h1 h2)).choose_spec.2
structure Eo where
  l : List Int
  pos : Int
def Eo.a (fr : Bool) (x : Eo) : List AV := [.imm fr 1 (tI x.l), .li x.pos]
abbrev Eo.g (x : Eo) : AV := .agg (x.a false)
attribute [go_sem] Eo.g
attribute [go_sem] Eo.a
def Att (P : Program) (m : Nat) {D : Type} (rs : List ResultVar) (F : D -> AV) (S : D -> List Ob) (Q : D -> Prop) (e : Exit) (st : St) : Prop := ∃ d, P0 P m rs (S d) (F d) e st /\ Q d
theorem Abq {P : Program} {f : FuncId} {fn : Func} {c : Code} {args : List AV} {σa : List Ob} {D : Type} {F : D -> AV} {S : D -> List Ob} {Q : D -> Prop} (hf : P.funcs[f]? = some fn) (hb : fn.body = some c) (hn : (fn.name == "runtime.NumGoroutine") = false) {rs : List ResultVar} (hrs : fn.results = rs.toArray) (hk : args.length <= fn.ntmps)
 (h : VX P fn.ntmps σa.length c ⟨Hc 0 args, σa⟩ (Att P σa.length rs F S Q)) : ∃ d, Ei P f σa args (S d) (F d) /\ Q d := by
 obtain ⟨e, s, h1, d, h2, h3⟩ := h
 refine ⟨d, Abm hf hb hn hrs hk (h1.mono ?_), h3⟩
 rintro e' s' ⟨rfl, rfl⟩
 exact h2
def Cx {D : Type} (f : FuncId) (σa : List Ob) (args : List AV) (S : D -> List Ob) (F : D -> AV) (Q : D -> Prop) : Prop := ∃ d, PP f σa args (S d) (F d) /\ Q d
theorem R3 {f : FuncId} {fn : Func} {c : Code} {args : List AV} {σa : List Ob} {D : Type} {F : D -> AV} {S : D -> List Ob} {Q : D -> Prop} {rs : List ResultVar} (hf : Tryz.prog.funcs[f]? = some fn) (h : VX Tryz.prog fn.ntmps σa.length c ⟨Hc 0 args, σa⟩ (Att Tryz.prog σa.length rs F S Q)) (hb : fn.body = some c := by rfl) (hn : (fn.name == "runtime.NumGoroutine") = false := by rfl) (hrs : fn.results = rs.toArray := by rfl) (hk : args.length <= fn.ntmps := by exact Nat.le_of_ble_eq_true rfl) : Cx f σa args S F Q := Abq hf hb hn hrs hk h
theorem Mz (k : Eo) (h : k.l.length <= 300) : Cx 34 [.box 84 (k.a false)] [.ptr 0 0] (fun d : Bool × Eo => [.box 84 (d.2.a false)]) (fun d => .lb d.1) (fun d => d.2 = k) := by
 refine R3 Tryz.func34 ?_
 refine Bq ?_
 refine VX.D ?_
 exact .ret ⟨(decide ((k.pos : Int) < k.l.length), k), rW ok0 [0], rfl⟩
theorem F9 (k : Eo) (n : Int) (h : k.l.length <= 300) (h0 : 0 <= k.pos) (h1 : 1 <= n) (h2 : n <= 1000000) : Cx 26 [.box 84 (k.a false)] [.ptr 0 0, .li n] (fun d : Int × Eo => [.box 84 (d.2.a false)]) (fun d => .li d.1) (fun d => d.2.l = k.l /\ k.pos <= d.2.pos /\ (0 <= d.1 /\ d.1 < n /\ (k.l = [] -> d.1 = 0))) := by
 refine R3 Tryz.func26 ?_
 refine Bq <| .seq ?_
 refine VX.D ?_
 refine Br ?_ ?_ <;> intro h14
 ·refine Bq ?_
  exact .ret ⟨(0, k), rW ok0 [0], (by first | exact ⟨rfl, by dsimp only; omega, by dsimp only; omega, by dsimp only; omega, fun _ => rfl⟩ | exact ⟨rfl, by dsimp only; omega, (G3 _ _ h1 h2).1, (G3 _ _ h1 h2).2, fun e => absurd h14 (by rw [e]; simp; omega)⟩)⟩
 have hw0 := Dt k.pos (by omega) (by omega)
 refine Bp ?_
 have hw1 := Dt (k.pos + 1 : Int)
 refine Bu hw1 ?_
 obtain ⟨e2, H2⟩ := gx k.l k.pos.toNat
 refine Da (cj3 hw1 H2 hw0) (Jf e2 n (by first | assumption | omega) (by first | assumption | omega)) ?_
 exact .ret ⟨((Hu e2 n (by first | assumption | omega) (by first | assumption | omega)), ⟨k.l, (k.pos + 1)⟩), rW (cj2 hw1 H2) [0], (by first | exact ⟨rfl, by dsimp only; omega, by dsimp only; omega, by dsimp only; omega, fun _ => rfl⟩ | exact ⟨rfl, by dsimp only; omega, (G3 _ _ h1 h2).1, (G3 _ _ h1 h2).2, fun e => absurd h14 (by rw [e]; simp; omega)⟩)⟩
theorem dN (k : Eo) (n : Int) (h : k.l.length ≤ 300 := by first | assumption | omega) (h0 : 0 ≤ k.pos := by first | assumption | omega) (h1 : 1 ≤ n := by omega) (h2 : n ≤ 1000000 := by omega) : ∃ d : Int × Eo, Ei Tryz.prog 26 [.box 84 (k.a false)] [.ptr 0 0, .lit (.int .i64 n)] [.box 84 (d.2.a false)] (.lit (.int .i64 d.1)) ∧ (d.2.l = k.l ∧ k.pos ≤ d.2.pos ∧ (0 ≤ d.1 ∧ d.1 < n ∧ (k.l = [] → d.1 = 0))) ∧ d.2.l.length ≤ 300 ∧ 0 ≤ d.2.pos := by
 obtain ⟨d, h3, h4⟩ := F9 k n h h0 h1 h2
 exact ⟨d, h3, h4, by rw [h4.1]; exact h, by omega⟩
theorem Av1 {es : List (List T)} (h : ∀ e ∈ es, e.length = 4) {i : Nat} (hi : i < es.length) : ∃ a b c d, es[i]? = some [a, b, c, d] := by
 have h1 := Aa hi
 have h2 := h _ (Ac h1)
 match hx : es[i], h2 with
 | [a, b, c, d], _ => exact ⟨a, b, c, d, by rw [h1, hx]⟩
theorem Aop {es : List (List T)} {l : List Dz} {j : Nat} {t : Dz} (h : es.drop j = Q7 (l.drop j)) (ht : l[j]? = some t) : es[j]? = some t.t := by
 have h1 : (es.drop j)[0]? = some t.t := by
  rw [h, Ap, Bd]
  simp [ht]
 rw [Bd] at h1
 simpa using h1
theorem Anz {α : Type} (es vs : List α) (i : Nat) : (Jt es i vs).take i = es.take i := by
 refine List.ext_getElem? fun j => ?_
 by_cases h : j < i
 ·rw [Ag h, Ag h, I1, if_neg (by omega)]
 rw [List.getElem?_take_eq_none (by omega), List.getElem?_take_eq_none (by omega)]
structure Aks (p : Dz -> Bool) (l : List Dz) (es : List (List T)) (i j : Nat) : Prop where
  len : es.length = l.length
  ij : i < j
  jl : j <= l.length
  four : ∀ e ∈ es, e.length = 4
  kept : es.take i = Q7 ((l.take j).filter fun t => !p t)
  rest : es.drop j = Q7 (l.drop j)
theorem Aks.skip {p : Dz -> Bool} {l : List Dz} {es : List (List T)} {i j : Nat} {t : Dz} (h : Aks p l es i j) (ht : l[j]? = some t) (hp : p t = true) : Aks p l es i (j + 1) := by
 have hj := (Ab.1 ht).1
 refine ⟨h.len, by have := h.ij; omega, hj, h.four, by rw [Zd ht, if_pos hp, List.append_nil]; exact h.kept, ?_⟩
 have := congrArg (List.drop 1) h.rest
 rw [List.drop_drop, <- List.map_drop, List.drop_drop] at this
 simpa [Ba] using this
theorem Aks.keep {p : Dz -> Bool} {l : List Dz} {es : List (List T)} {i j : Nat} {t : Dz} (h : Aks p l es i j) (ht : l[j]? = some t) (hp : p t = false) : Aks p l (es.set i t.t) (i + 1) (j + 1) := by
 have hj := (Ab.1 ht).1
 have hij := h.ij
 have hl := h.len
 refine ⟨by rw [List.length_set]; exact h.len, by omega, hj, fun e he => ?_, ?_, ?_⟩
 ·rcases Bi he with h1 | h1
  ·exact h.four e h1
  rw [h1]; rfl
 ·rw [Zd ht, hp]
  simp only [Bl, if_false, List.map_append, List.map_cons, List.map_nil]
  rw [show List.map Dz.t (List.filter (fun t => !p t) (List.take j l)) = es.take i from h.kept.symm, List.take_add_one, List.take_set_of_le (Aj _), Bg (by omega)]
  rfl
 rw [List.drop_set_of_lt (by omega)]
 have := congrArg (List.drop 1) h.rest
 rw [List.drop_drop, <- List.map_drop, List.drop_drop] at this
 simpa [Ba] using this
theorem T8 (l : List Dz) (fid : FuncId) (caps : List AV) (p : Dz -> Bool) (hl : l.length <= 1000000) (hc : Ya caps) (hp : ∀ t, t ∈ l -> PP fid [] (t.g :: caps) [] (.lb (p t))) :
 ∃ R : List (List T), PP 132 [.row 56 4 false false (Q7 l)] [.own 0 l.length, .fn fid caps] [.row 56 4 false true R] (.mMsg (l.filter fun t => !p t)) /\ True := by
 refine Abq (D := List (List T)) (F := fun d => .mMsg (l.filter fun t => !p t)) (S := fun d => [.row 56 4 false true d]) (Q := fun d => True) Tryz.func132 rfl rfl rfl (by simp [Tryz.ntmps132]) ?_
 refine Bq ?_
 refine B3 (fun K kk => by simp [go_sem, hc.pass, hc.passC, hc.bor, hc.low]; refine .lo (Aav l fid caps p hl hc hp) (by simp [go_sem, hc.low]) (by simp [AV.cln, Ez]) ?_; simp [go_sem, hc.pass, hc.passC, hc.bor, hc.low]; exact kk) <| .seq ?_
 refine Bq ?_
 rcases V7 p l 0 with ⟨h1, h2⟩ | ⟨k, t0, h1, h2, h3, h4⟩
 ·have hi : Hi p l = -1 := h1
  have hf := Z7 h2
  simp only [hi]
  refine C5 ?_ ?_ <;> intro h12 <;> simp [go_sem] at h12
  refine Bq ?_
  refine B2 ok0 0 ?_
  refine Bz ⟨Q7 l, Ry [0] (by simp [go_sem]) (by decide) (by simp) (by simp [go_sem, hf]) ?_, trivial⟩
  repeat' (first | exact .nil | refine .cons (by simp [go_sem]) ?_)
 have hi : Hi p l = (k : Int) := by unfold Hi; rw [h1]; simp
 have hkl := (Ab.1 h2).1
 simp only [hi]
 refine C5 ?_ ?_ <;> intro h12 <;> simp [go_sem] at h12
 refine Bp ?_
 have hw := Dt ((k : Int) + 1)
 refine Ca <| .H hw <| .block ?_
 have hI0 : Aks p l (Q7 l) k (k + 1) := ⟨by simp, by omega, by omega, fun e he => by obtain ⟨m, _, rfl⟩ := A4.1 he; rfl, by rw [Zd h2, if_pos h3, List.append_nil, Z7 h4]; exact List.map_take.symm, List.map_drop.symm⟩
 refine Cj (fun (y : List (List T) × Nat × Nat) => ⟨[(0, .own 0 y.1.length), (1, .fn fid caps), (5, .li (y.2.1 : Int)), (6, .li (y.2.2 : Int))], [.row 56 4 false false y.1]⟩) (fun y => Aks p l y.1 y.2.1 y.2.2) (fun y => l.length - y.2.2) (Q7 l, k, k + 1) ⟨[0], Ds (by decide) ?_ ?_, by simp⟩ hI0 fun y hy => ?_
 ·simp [go_sem, hc.ren]
 ·simp [go_sem]
 have hy1 := hy.len
 have hy2 := hy.ij
 have hy3 := hy.jl
 refine Ca <| .R ?_
 refine Br ?_ ?_ <;> intro h19
 ·refine Bp <| .seq <| .block ?_
  obtain ⟨t, ht⟩ : ∃ t, l[y.2.2]? = some t := ⟨_, Aa (by omega)⟩
  have hxj := Aop hy.rest ht
  obtain ⟨a, b, c, d, hxi⟩ := Av1 hy.four (i := y.2.1) (by omega)
  refine Bu hxj ?_
  refine B3 (fun K kk => by simp [go_sem, hc.pass, hc.passC, hc.bor, hc.low]; refine .lo (hp t (Ac ht)) (by simp [go_sem, hc.low]) (by simp) ?_; simp [go_sem, hc.pass, hc.passC, hc.bor, hc.low]; exact kk) ?_
  have hwj := Dt ((y.2.2 : Int) + 1)
  have hwi := Dt ((y.2.1 : Int) + 1)
  refine Br ?_ ?_ <;> intro h29
  ·refine B3 (fun K kk => by simp [go_sem, hxi, Jt]; repeat first | exact kk | refine aK ?_) ?_
   refine B0 hwi ?_
   refine B0 hwj ?_
   refine ⟨(y.1.set y.2.1 t.t, y.2.1 + 1, y.2.2 + 1), by dsimp only; omega, hy.keep ht h29, [0], Ds (by decide) ?_ ?_, by simp⟩
   ·simp [go_sem, hc.ren]
   simp [go_sem]
  refine Bp <| .H1 hwj ?_
  refine ⟨(y.1, y.2.1, y.2.2 + 1), by dsimp only; omega, hy.skip ht h29, [0], Ds (by decide) ?_ ?_, by simp⟩
  ·simp [go_sem, hc.ren]
  simp [go_sem]
 refine Bt ?_
 have hj : y.2.2 = l.length := by omega
 have hk := hy.kept
 rw [hj, List.take_length] at hk
 refine B3 (fun K kk => by simp [go_sem, Fb]; repeat first | exact kk | refine aK ?_) ?_
 refine B3 (fun K kk => by simp [go_sem, Fb]; repeat first | exact kk | refine aK ?_) ?_
 refine Dg 0 ?_
 simp [go_sem, -Prod.exists, Fb]
 refine Bz ⟨Jt y.1 y.2.1 (List.replicate (y.1.length - y.2.1) [.li 0, .sl 1 [], .sl 1 [], .sl 1 []]), Ry [0] (by simp [go_sem]) (by decide) (by simp) (by simp [go_sem, hk, Fb, Anz]) ?_, trivial⟩
 repeat' (first | exact .nil | refine .cons (by simp [go_sem, Fb]) ?_)
theorem Mp (k : Eo) (lo : Int) (hi : Int) (h : k.l.length <= 300) (h0 : 0 <= k.pos) (h1 : 0 <= lo) (h2 : lo <= hi) (h3 : hi <= 1000) : Cx 25 [.box 84 (k.a false)] [.ptr 0 0, .li lo, .li hi] (fun d : Int × Eo => [.box 84 (d.2.a false)]) (fun d => .li d.1) (fun d => d.2.l = k.l /\ k.pos <= d.2.pos /\ lo <= d.1 /\ d.1 <= hi /\ (k.l = [] -> d.1 = lo)) := by
 refine R3 Tryz.func25 ?_
 obtain ⟨N1, hN1, hq1⟩ := F9 k (hi - lo + 1) h h0 (by omega) (by omega)
 have hw3 := Dt (lo + N1.1)
 refine Bu hw3 ?_
 have hw1 := Dt (hi - lo : Int)
 have hw2 := Dt ((hi - lo) + 1 : Int)
 refine B3 (fun K kk => by simp [go_sem, hw3, hw1, hw2]; refine .o [0] (hN1) ?_; simp [go_sem, hw3, hw1, hw2]; exact kk) ?_
 exact .ret ⟨((lo + N1.1), N1.2), rW (cj3 hw3 hw1 hw2) [0], ⟨hq1.1, hq1.2.1, by dsimp only; omega, by dsimp only; omega, fun e => by have := hq1.2.2.2.2 e; dsimp only; omega⟩⟩
theorem dR (k : Eo) (lo hi : Int) (h : k.l.length ≤ 300 := by first | assumption | omega) (h0 : 0 ≤ k.pos := by first | assumption | omega) (h1 : 0 ≤ lo := by omega) (h2 : lo ≤ hi := by omega) (h3 : hi ≤ 1000 := by omega) : ∃ d : Int × Eo, Ei Tryz.prog 25 [.box 84 (k.a false)] [.ptr 0 0, .lit (.int .i64 lo), .lit (.int .i64 hi)] [.box 84 (d.2.a false)] (.lit (.int .i64 d.1)) ∧ (d.2.l = k.l ∧ k.pos ≤ d.2.pos ∧ lo ≤ d.1 ∧ d.1 ≤ hi ∧ (k.l = [] → d.1 = lo)) ∧ d.2.l.length ≤ 300 ∧ 0 ≤ d.2.pos := by
 obtain ⟨d, h4, h5⟩ := Mp k lo hi h h0 h1 h2 h3
 exact ⟨d, h4, h5, by rw [h5.1]; exact h, by omega⟩
theorem Mo : By [] := fun x h => by cases h
theorem Ae8 (x : Int) : 0 <= IntKind.u8.wrap x /\ IntKind.u8.wrap x < 256 := by
 have e : IntKind.u8.wrap x = x % 256 := by simp [IntKind.wrap, show IntKind.u8.signed = false from rfl, show IntKind.u8.bits = 8 from rfl]
 omega
theorem By.app {l m : List Int} (h : By l) (h' : By m) : By (l ++ m) := fun x hx => (A0.1 hx).elim (h x) (h' x)
theorem Qq (x : Int) : By [IntKind.u8.wrap x] := fun y hy => by simp at hy; subst hy; exact Ae8 x
theorem Awp (a b : Int) : By [Eu .xor .u8 a b] := Qq _
theorem Awo (x y : Int) : By [IntKind.u8.wrap x, IntKind.u8.wrap y] := fun z hz => by simp at hz; rcases hz with rfl | rfl <;> exact Ae8 _
theorem G9 (n : Int) : Ct 32 [.li n] (fun d : List Int => .mY d) (fun d => d.length = 8 /\ By d) := by
 refine Ek Tryz.func32 ?_
 refine Bq ?_
 refine Bq <| .seq ?_
 refine Bq <| .block ?_
 refine Cg 3 5 1 (by decide) (k' := 1) (by simp [go_sem]) ?_
 simp [go_sem, -Prod.exists]
 refine Bs 8 (fun i1 (y1 : (List Int)) => ⟨[(0, .li n), (3, .own 0 y1.length), (5, .li i1)], [.row 5 1 false false (tY y1)]⟩) (fun i1 y1 => y1.length = i1 /\ By y1) ([]) (wk ok0 [0]) (⟨rfl, Mo⟩) fun i1 y1 hi1 hy1 => ?_
 refine Bq <| .seq ?_
 refine Br ?_ ?_ <;> intro h6
 ·refine Bp <| .seq <| .block <| .R ?_
  refine B0 ok0 ?_
  refine Ci ?_
  exact ⟨by omega, (y1 ++ ([Eu .xor .u8 (IntKind.u8.wrap (Int.fdiv (IntKind.u64.wrap n) (2 ^ min (Int.toNat (IntKind.u64.wrap (8 * (IntKind.u64.wrap i1)))) 64))) (IntKind.u8.wrap (IntKind.i64.wrap (IntKind.i64.wrap (29 * i1) + 7)))])), ⟨by simp; omega, hy1.2.app (Awp _ _)⟩, wk (Dt ((i1 : Int) + 1)) [0]⟩
 refine Bt <| .R ?_
 refine B2 ok0 0 ?_
 exact .ret (fin ok0 y1 ⟨by omega, hy1.2⟩)
noncomputable def Dx (n : Int) : List Int := (got (G9 n)).choose
theorem Fw (n : Int) : PP 32 [] [.li n] [] (.mY (Dx n)) := (got (G9 n)).choose_spec.1
theorem Ik (n : Int) : (Dx n).length = 8 /\ By (Dx n) := (got (G9 n)).choose_spec.2
theorem Ii (a : Int) (s : Int) (b : List Int) (h : b.length <= 1000) : Ct 20 [.li a, .li s, .mY b] (fun d : List Int => .mY d) (fun d => d.length = b.length + 2 /\ (By b -> By d)) := by
 refine Ek Tryz.func20 ?_
 have e2 : 2 + b.length = b.length + 1 + 1 := by omega
 refine Bq ?_
 refine Bu ok0 ?_
 refine B2 ok0 0 ?_
 refine Bz (Ex ?_); simp [go_sem, e2]
 exact ⟨([IntKind.u8.wrap a, IntKind.u8.wrap s]) ++ b, by first | rfl | simp [go_sem], ⟨by simp, fun h => by first | exact (Qq _).app ((Qq _).app h) | exact ((Qq _).app (Qq _)).app h | exact (Awo _ _).app h⟩⟩
noncomputable def Eh (a : Int) (s : Int) (b : List Int) (h : b.length <= 1000) : List Int := (got (Ii a s b h)).choose
theorem Ha (a : Int) (s : Int) (b : List Int) (h : b.length <= 1000) : PP 20 [] [.li a, .li s, .mY b] [] (.mY (Eh a s b h)) := (got (Ii a s b h)).choose_spec.1
theorem P6 (a : Int) (s : Int) (b : List Int) (h : b.length <= 1000) : (Eh a s b h).length = b.length + 2 /\ (By b -> By (Eh a s b h)) := (got (Ii a s b h)).choose_spec.2
theorem L5 (k : Eo) (num : Int) (ri : Int) (h : k.l.length <= 300) (h0 : 0 <= k.pos) : Cx 28 [.box 84 (k.a false)] [.ptr 0 0, .li num, .li ri] (fun d : TAg × Eo => [.box 84 (d.2.a false)]) (fun d => d.1.g) (fun d => d.2.l = k.l /\ (0 <= d.2.pos /\ (k.l = [] -> d.1.se = 1)) /\ d.1.sec.length = 8 /\ d.1.lims.length = 4 /\ (∀ x ∈ d.1.lims, 0 <= x /\ x <= 3) /\ d.1.ri = ri /\ d.1.cls = 3 /\ (1 <= d.1.rq /\ d.1.rq <= 3) /\ (1 <= d.1.se /\ d.1.se <= 2) /\ (1 <= d.1.ra /\ d.1.ra <= 3) /\ d.1.ra <= d.1.bu /\ d.1.bu <= 7) := by
 refine R3 Tryz.func28 ?_
 refine Bq ?_
 obtain ⟨D1, hD1, hd1, hl1, hp1⟩ := dR k 1 3
 obtain ⟨D2, hD2, hd2, hl2, hp2⟩ := dR D1.2 1 3
 obtain ⟨D3, hD3, hd3, hl3, hp3⟩ := dN D2.2 3
 obtain ⟨D4, hD4, hd4, hl4, hp4⟩ := dN D3.2 3
 obtain ⟨D5, hD5, hd5, hl5, hp5⟩ := dR D4.2 1 3
 obtain ⟨D6, hD6, hd6, hl6, hp6⟩ := dR D5.2 1 2
 obtain ⟨D7, hD7, hd7, hl7, hp7⟩ := dR D6.2 1 3
 refine Dh 13 2 (by rfl) fun K1 hK1 => ?_
 simp [go_sem]
 obtain ⟨Y1, cY1, qY1⟩ := got (G9 (IntKind.i64.wrap (1000 + num)))
 refine .l cY1 ?_
 simp [go_sem]
 refine .o [0] (hD1) ?_
 simp [go_sem]
 refine .o [0] (hD2) ?_
 simp [go_sem]
 refine .o [0] (hD3) ?_
 simp [go_sem]
 refine .o [0] (hD4) ?_
 simp [go_sem]
 refine .o [0] (hD5) ?_
 simp [go_sem]
 refine .o [0] (hD6) ?_
 simp [go_sem]
 refine .o [0] (hD7) ?_
 simp [go_sem]
 refine hK1 _ ?_; clear hK1
 obtain ⟨D8, hD8, hd8, hl8, hp8⟩ := dN D7.2 5
 have hw9 := Dt (D7.1 + D8.1)
 refine Cz (fun K kk => by simp [go_sem, hw9]; refine .o [0] (hD8) ?_; simp [go_sem, hw9]; exact kk) ?_
 refine Bq ?_
 exact .ret ⟨(⟨Y1, ri, 3, [D1.1, D2.1, D3.1, D4.1], D5.1, D6.1, D7.1, (D7.1 + D8.1)⟩, D8.2), rW ok0 [0], ⟨by simp only [hd1.1, hd2.1, hd3.1, hd4.1, hd5.1, hd6.1, hd7.1, hd8.1], ⟨hp8, fun e => hd6.2.2.2.2 (by simp only [hd1.1, hd2.1, hd3.1, hd4.1, hd5.1, e])⟩, qY1.1, rfl, by simp; omega, rfl, rfl, by dsimp only; omega, by dsimp only; omega, by dsimp only; omega, by dsimp only; omega, by dsimp only; omega⟩⟩
end Go.Proofs.YtkkimgjinbaemaaGreat
