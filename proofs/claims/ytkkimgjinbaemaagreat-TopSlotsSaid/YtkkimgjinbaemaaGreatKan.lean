/- The walk. -/
import Derived.Test.YtkkimgjinbaemaaGreatKam
namespace Go.Proofs.YtkkimgjinbaemaaGreat
open Go.RowKit
set_option linter.unusedVariables false
set_option linter.unusedSimpArgs false
set_option maxRecDepth 100000
set_option maxHeartbeats 4000000
theorem Pe (s : Int) (b : List Int) (h : b.length <= 1000000) : Ct 138 [.lit (.int .u32 s), .mY b] (fun d : Int => .lit (.int .u32 d)) (fun d => True) := by
 refine Ek Tryz.func138 ?_
 refine B3 (fun K kk => by simp [go_sem, Hm]; exact kk) ?_
 refine B3 (fun K kk => by simp [go_sem, Hm]; exact kk) <| .seq ?_
 refine B3 (fun K kk => by simp [go_sem, Hm]; exact kk) <| .block ?_
 refine Bs b.length (fun i1 (y1 : Int) => ⟨[(5, .lit (.int .u32 y1)), (11, .mY b), (12, .li b.length), (13, .li i1)], []⟩) (fun i1 y1 => True) (Eu .xor .u32 IntKind.u32.max s) (wk ok0 []) (trivial) fun i1 y1 hi1 hy1 => ?_
 refine B3 (fun K kk => by simp [go_sem, Hm]; exact kk) <| .seq ?_
 refine Br ?_ ?_ <;> intro h14
 ·refine Bp <| .seq <| .block ?_
  obtain ⟨e1, H1⟩ := gx b i1
  refine B3 (fun K kk => by simp [go_sem, Hm, H1]; repeat first | exact kk | refine aK ?_) ?_
  refine B3 (fun K kk => by simp [go_sem, Hm, H1]; exact kk) ?_
  refine B3 (fun K kk => by simp [go_sem, Hm, H1]; exact kk) <| .block ?_
  refine Bs 8 (fun i2 (y2 : Int) => ⟨[(5, .lit (.int .u32 y2)), (11, .mY b), (12, .li b.length), (13, .li i1), (21, .li i2)], []⟩) (fun i2 y2 => True) (Eu .xor .u32 y1 (IntKind.u32.wrap e1)) (wk H1 []) (trivial) fun i2 y2 hi2 hy2 => ?_
  refine B3 (fun K kk => by simp [go_sem, Hm, H1]; exact kk) <| .seq ?_
  refine Br ?_ ?_ <;> intro h22
  ·refine Bp <| .seq <| .block <| .S (fun K kk => by simp [go_sem, Hm, H1]; exact kk) ?_
   refine B3 (fun K kk => by simp [go_sem, Hm, H1]; repeat first | exact kk | refine aK ?_) ?_
   refine B3 (fun K kk => by simp [go_sem, Hm, H1]; exact kk) ?_
   refine Br ?_ ?_ <;> intro h28
   ·refine Cb (fun K kk => by simp [go_sem, Hm, H1]; exact kk) ?_
    refine Cb (fun K kk => by simp [go_sem, Hm, H1]; exact kk) ?_
    exact ⟨by omega, (Eu .xor .u32 (Int.fdiv y2 (2 ^ min (Int.toNat 1) 32)) 3988292384), trivial, wk (cj2 (Dt ((i2 : Int) + 1)) H1) []⟩
   refine Bp <| .S1 (fun K kk => by simp [go_sem, Hm, H1]; exact kk) ?_
   exact ⟨by omega, (Int.fdiv y2 (2 ^ min (Int.toNat 1) 32)), trivial, wk (cj2 (Dt ((i2 : Int) + 1)) H1) []⟩
  refine Bt <| .S1 (fun K kk => by simp [go_sem, Hm, H1]; exact kk) ?_
  exact ⟨by omega, (y2), trivial, wk (cj2 (Dt ((i1 : Int) + 1)) H1) []⟩
 refine Bt <| .S (fun K kk => by simp [go_sem, Hm]; exact kk) ?_
 refine Bz (Ex ?_); simp [go_sem, Hm]
 exact ⟨Eu .xor .u32 IntKind.u32.max y1, by first | rfl | simp [go_sem], trivial⟩
theorem Rh (b : List Int) (h : b.length <= 1000000) : Ct 103 [.mY b] (fun d : Int => .lit (.int .u32 d)) (fun d => True) := by
 refine Ek Tryz.func103 ?_
 refine Bq ?_
 obtain ⟨Y1, cY1, qY1⟩ := got (Pe 0 b (by first | assumption | omega))
 refine B8 ok0 cY1 ?_
 exact .ret (fin ok0 Y1 trivial)
theorem Qu (n : Int) : Ct 141 [.li n] (fun d : Int => .li d) (fun d => d ≠ 0 -> 0 <= n /\ n <= 4294967295) := by
 refine Ek Tryz.func141 ?_
 refine Bq <| .seq ?_
 refine Bq ?_
 refine Br ?_ ?_ <;> intro h9
 ·refine Bq ?_
  exact .ret (fin ok0 0 (by first | exact fun h => absurd rfl h | (intro _; omega)))
 refine Bp <| .R <| .seq <| .block ?_
 refine Cj (fun (y1 : Int × Int) => ⟨[(0, .li y1.1), (3, .li y1.2)], []⟩) (fun y1 => 0 <= y1.1 /\ y1.1 <= 4294967295) (fun y1 => y1.1.toNat) (n, 1) (wk ok0 []) (by dsimp only; omega) fun y1 hy1 => ?_
 refine Ca <| .R ?_
 refine Br ?_ ?_ <;> intro h11
 ·refine Bp <| .block ?_
  have hd : Int.tdiv y1.1 128 = y1.1 / 128 := Int.tdiv_eq_ediv_of_nonneg (by omega)
  have hq := Dt (y1.1 / 128)
  refine Bu (cj2 hd hq) ?_
  refine Ci ?_
  refine ⟨((y1.1 / 128), IntKind.i64.wrap (y1.2 + 1)), ?_, ?_, [], Ds (by decide) ?_ ?_, by simp⟩
  ·dsimp only; omega
  ·dsimp only; omega
  all_goals simp [go_sem]
 refine Bt <| .R ?_
 exact .ret (fin ok0 y1.2 (by first | exact fun h => absurd rfl h | (intro _; omega)))
theorem Gw (n : Int) : Ct 106 [.li n] (fun d : List Int × Int => .tup [.mY d.1, .li d.2]) (fun d => d.1.length <= 5 /\ By d.1) := by
 refine Ek Tryz.func106 ?_
 obtain ⟨Y1, cY1, qY1⟩ := got (Qu n)
 have hs := qY1
 refine Bq <| .seq ?_
 refine B8 ok0 cY1 ?_
 refine Br ?_ ?_ <;> intro h7
 ·refine Bq ?_
  exact .ret (fin ok0 ([], 8) (by first | exact ⟨Ae _, Mo⟩ | exact ⟨by simp only [Bo, A6, List.length_nil]; omega, hy1.2.app (Qq _)⟩))
 have hn := hs h7
 refine Bp <| .R <| .seq <| .block ?_
 refine Cg 4 5 1 (by decide) (k' := 1) (by simp [go_sem]) ?_
 simp [go_sem, -Prod.exists]
 refine Cj (fun (y1 : (List Int) × Int) => ⟨[(0, .li y1.2), (4, .own 0 y1.1.length)], [.row 5 1 false false (tY y1.1)]⟩) (fun y1 => (0 <= y1.2 /\ ((y1.1.length = 0 /\ y1.2 <= 4294967295) \/ (y1.1.length = 1 /\ y1.2 <= 33554431) \/ (y1.1.length = 2 /\ y1.2 <= 262143) \/ (y1.1.length = 3 /\ y1.2 <= 2047) \/ (y1.1.length = 4 /\ y1.2 <= 15))) /\ By y1.1) (fun y1 => y1.2.toNat) ([], n) (wk ok0 [0]) (⟨by simp; omega, Mo⟩) fun y1 hy1 => ?_
 refine Ca <| .R ?_
 refine Br ?_ ?_ <;> intro h9
 ·refine Bp <| .block <| .H ok0 ?_
  have hd : Int.tdiv y1.2 128 = y1.2 / 128 := Int.tdiv_eq_ediv_of_nonneg (by omega)
  have hq := Dt (y1.2 / 128)
  refine B0 (cj2 hd hq) ?_
  refine ⟨(y1.1 ++ ([IntKind.u8.wrap (IntKind.i64.wrap (Int.tmod y1.2 128 + 128))]), (y1.2 / 128)), ?_, ?_, [0], Ds (by decide) ?_ ?_, by simp⟩
  ·dsimp only; omega
  ·exact ⟨by simp only [Bo, A6, List.length_nil]; omega, hy1.2.app (Qq _)⟩
  all_goals simp [go_sem]
 refine Bt <| .H ok0 ?_
 refine B2 ok0 0 ?_
 exact .ret (fin ok0 (y1.1 ++ ([IntKind.u8.wrap y1.2]), 0) (by first | exact ⟨Ae _, Mo⟩ | exact ⟨by simp only [Bo, A6, List.length_nil]; omega, hy1.2.app (Qq _)⟩))
noncomputable def J2 (n : Int) : List Int × Int := (got (Gw n)).choose
theorem Ea (n : Int) : (J2 n).1.length <= 5 /\ By (J2 n).1 := (got (Gw n)).choose_spec.2
theorem Hs (k : Int) : Ct 76 [.li k] (fun d : Ml => d.g) (fun d => 0 <= d.fix /\ d.fix <= 4 /\ 0 <= d.grp /\ d.grp <= 4 /\ 0 <= d.lea /\ d.lea <= 1 /\ 0 <= d.mos /\ d.mos <= 100 /\ -1 <= d.dat /\ d.dat <= 10) := by
 refine Ek Tryz.func76 ?_
 refine Bq <| .seq ?_
 refine Bq <| .block ?_
 refine Bq ?_
 refine Br ?_ ?_ <;> intro h4
 ·refine Bq ?_
  exact .ret (fin ok0 ⟨3, 0, 0, 0, 0⟩ (by decide))
 refine Cf (by rfl) fun K1 hK1 => ?_
 simp [go_sem]
 refine hK1 _ ⟨_, _, _, _, _, _, _, _, rfl, .more (by decide) rfl rfl (.more (by decide) rfl rfl (.more (by decide) rfl rfl (.more (by decide) rfl rfl (.one (by decide) rfl rfl)))), by decide, rfl, by simp [go_sem]; rfl, by simp [go_sem]; rfl, by simp [go_sem], ?_⟩; clear hK1
 refine Br ?_ ?_ <;> intro h7
 ·refine Bq ?_
  exact .ret (fin ok0 ⟨1, 0, 0, 0, 0⟩ (by decide))
 refine Cf (by rfl) fun K1 hK1 => ?_
 simp [go_sem]
 refine hK1 _ ⟨_, _, _, _, _, _, _, _, rfl, .more (by decide) rfl rfl (.more (by decide) rfl rfl (.one (by decide) rfl rfl)), by decide, rfl, by simp [go_sem]; rfl, by simp [go_sem]; rfl, by simp [go_sem], ?_⟩; clear hK1
 refine Br ?_ ?_ <;> intro h15
 ·refine Bq ?_
  exact .ret (fin ok0 ⟨2, 0, 0, 0, 0⟩ (by decide))
 refine Bq ?_
 refine Br ?_ ?_ <;> intro h21
 ·refine Bq ?_
  exact .ret (fin ok0 ⟨3, 4, 1, 3, 0⟩ (by decide))
 refine Bq ?_
 refine Br ?_ ?_ <;> intro h24
 ·refine Bq ?_
  exact .ret (fin ok0 ⟨1, 2, 1, 3, 0⟩ (by decide))
 refine Bq ?_
 refine Br ?_ ?_ <;> intro h27
 ·refine Bq ?_
  exact .ret (fin ok0 ⟨1, 0, 0, 0, 10⟩ (by decide))
 refine Cf (by rfl) fun K1 hK1 => ?_
 simp [go_sem]
 refine hK1 _ ⟨_, _, _, _, _, _, _, _, rfl, .one (by decide) rfl rfl, by decide, rfl, by simp [go_sem]; rfl, by simp [go_sem]; rfl, by simp [go_sem], ?_⟩; clear hK1
 refine Br ?_ ?_ <;> intro h30
 ·refine Bq ?_
  exact .ret (fin ok0 ⟨1, 0, 0, 0, (-1)⟩ (by decide))
 refine Bq ?_
 refine Br ?_ ?_ <;> intro h34
 ·refine Bq ?_
  exact .ret (fin ok0 ⟨1, 3, 0, 16, 0⟩ (by decide))
 refine Bq ?_
 refine Br ?_ ?_ <;> intro h37
 ·refine Bq ?_
  exact .ret (fin ok0 ⟨0, 2, 0, 4, 0⟩ (by decide))
 refine Bq ?_
 refine Br ?_ ?_ <;> intro h40
 ·refine Bq ?_
  exact .ret (fin ok0 ⟨4, 0, 0, 0, 0⟩ (by decide))
 refine Bp <| .R ?_
 exact .ret (fin ok0 ⟨0, 0, 0, 0, 0⟩ (by decide))
noncomputable def Ef (k : Int) : Ml := (got (Hs k)).choose
theorem Se (k : Int) : PP 76 [] [.li k] [] (.agg ((Ef k).a false)) := (got (Hs k)).choose_spec.1
theorem Sm (k : Int) : 0 <= (Ef k).fix /\ (Ef k).fix <= 4 /\ 0 <= (Ef k).grp /\ (Ef k).grp <= 4 /\ 0 <= (Ef k).lea /\ (Ef k).lea <= 1 /\ 0 <= (Ef k).mos /\ (Ef k).mos <= 100 /\ -1 <= (Ef k).dat /\ (Ef k).dat <= 10 := (got (Hs k)).choose_spec.2
theorem Hr (m : Dz) (h1 : m.tok.length <= 10000) (h2 : m.args.length <= 10000) (h3 : m.data.length <= 10000) : Ct 78 [m.g] (fun d : List Int => .mY d) (fun d => By m.tok -> By m.data -> By d) := by
 refine Ek Tryz.func78 ?_
 obtain ⟨Y1, cY1, qY1⟩ := got (Hs m.kind)
 have hv := cY1
 have hq0 := qY1
 generalize Y1 = S at hv hq0
 refine B3 (fun K kk => by simp [go_sem, Af, Ba, A7]; exact kk) ?_
 refine B3 (fun K kk => by simp [go_sem, Af, Ba, A7]; refine .l (hv) ?_; simp [go_sem, Af, Ba, A7]; exact kk) ?_
 refine B3 (fun K kk => by simp [go_sem, Af, Ba, A7]; repeat first | exact kk | refine aK ?_) <| .seq ?_
 refine B3 (fun K kk => by simp [go_sem, Af, Ba, A7]; exact kk) <| .block ?_
 refine Bs m.args.length (fun i1 (y1 : (List Int)) => ⟨[(1, .ptr 0 0), (3, .ptr 1 0), (4, .own 2 y1.length), (16, .mI m.args), (17, .li m.args.length), (18, .li i1)], [.box 56 [.li m.kind, .mY m.tok, .mI m.args, .mY m.data], .box 177 [.li S.fix, .li S.grp, .li S.lea, .li S.mos, .li S.dat], .row 5 1 false false (tY y1)]⟩) (fun i1 y1 => y1.length <= m.tok.length + 6 * i1 /\ (By m.tok -> By y1)) (m.tok) (wk ok0 [0, 1, 2]) (⟨by simp, fun h => h⟩) fun i1 y1 hi1 hy1 => ?_
 refine B3 (fun K kk => by simp [go_sem, Af, Ba, A7]; exact kk) <| .seq ?_
 refine Br ?_ ?_ <;> intro h19
 ·refine Bp <| .seq <| .block ?_
  obtain ⟨e1, H1⟩ := gx m.args i1
  refine B3 (fun K kk => by simp [go_sem, Af, Ba, A7, H1]; repeat first | exact kk | refine aK ?_) <| .seq ?_
  refine B3 (fun K kk => by simp [go_sem, Af, Ba, A7, H1]; exact kk) ?_
  refine Br ?_ ?_ <;> intro h31
  ·refine Cb (fun K kk => by simp [go_sem, Af, Ba, A7, H1]; repeat first | exact kk | refine aK ?_) ?_
   have he := fun n => Ea n
   obtain ⟨Y2, cY2, qY2⟩ := got (Gw e1)
   refine B3 (fun K kk => by simp [go_sem, Af, Ba, A7, H1]; refine .l cY2 ?_; simp [go_sem, Af, Ba, A7, H1]; exact kk) ?_
   refine Cy (by rfl) fun K1 hK1 => ?_
   simp [go_sem, Af, Ba, A7, H1]
   repeat' with_reducible refine Ax ?_ ?_
   all_goals try (intros; (repeat' refine Ax ?_ ?_) <;> omega)
   all_goals try ((try have q1 := qY2); (try have q2 := Ea e2); (try have q3 := Ea e3); (try have q4 := Ea e4); omega)
   refine hK1 _ ?_; clear hK1
   refine Cb (fun K kk => by simp [go_sem, Af, Ba, A7, H1]; exact kk) ?_
   refine ⟨by omega, ((y1 ++ ([IntKind.u8.wrap (IntKind.i64.wrap (Int.tdiv (IntKind.i64.wrap (m.args.length - S.fix)) S.grp))])) ++ (Y2.1)), ?_, [0, 1, 2], Ds (by decide) ?_ ?_, by simp⟩
   ·refine ⟨?_, fun h => by first | exact hy1.2 h | exact ((hy1.2 h).app (Qq _)).app qY2.2 | exact (hy1.2 h).app qY2.2⟩; simp only [Bo, A6, List.length_nil]; (try have q1 := qY2); (try have q2 := Ea e2); (try have q3 := Ea e3); (try have q4 := Ea e4); omega
   all_goals simp [go_sem, Dt ((i1 : Int) + 1), H1, Af, Ba, A7]
  refine Bp ?_
  have he := fun n => Ea n
  obtain ⟨Y3, cY3, qY3⟩ := got (Gw e1)
  refine B3 (fun K kk => by simp [go_sem, Af, Ba, A7, H1]; refine .l cY3 ?_; simp [go_sem, Af, Ba, A7, H1]; exact kk) ?_
  refine Cy (by rfl) fun K1 hK1 => ?_
  simp [go_sem, Af, Ba, A7, H1]
  repeat' with_reducible refine Ax ?_ ?_
  all_goals try (intros; (repeat' refine Ax ?_ ?_) <;> omega)
  all_goals try ((try have q1 := qY3); (try have q2 := Ea e2); (try have q3 := Ea e3); (try have q4 := Ea e4); omega)
  refine hK1 _ ?_; clear hK1
  refine Cb (fun K kk => by simp [go_sem, Af, Ba, A7, H1]; exact kk) ?_
  refine ⟨by omega, (y1 ++ (Y3.1)), ?_, [0, 1, 2], Ds (by decide) ?_ ?_, by simp⟩
  ·refine ⟨?_, fun h => by first | exact hy1.2 h | exact ((hy1.2 h).app (Qq _)).app qY3.2 | exact (hy1.2 h).app qY3.2⟩; simp only [Bo, A6, List.length_nil]; (try have q1 := qY3); (try have q2 := Ea e2); (try have q3 := Ea e3); (try have q4 := Ea e4); omega
  all_goals simp [go_sem, Dt ((i1 : Int) + 1), H1, Af, Ba, A7]
 refine Bt <| .seq <| .S (fun K kk => by simp [go_sem, Af, Ba, A7]; exact kk) ?_
 refine Br ?_ ?_ <;> intro h64
 ·refine Cb (fun K kk => by simp [go_sem, Af, Ba, A7]; repeat first | exact kk | refine aK ?_) ?_
  refine B3 (fun K kk => by simp [go_sem, Af, Ba, A7]; repeat first | exact kk | refine aK ?_) ?_
  refine B2 ok0 2 ?_
  refine Bz (Ex ?_); simp [go_sem, Af, Ba, A7]
  exact ⟨(y1 ++ ([0])) ++ m.data, by first | rfl | simp [go_sem], (fun h1 h2 => by first | exact ((hy1.2 h1).app (fun x hx => by simp at hx; omega)).app h2 | exact (hy1.2 h1).app h2)⟩
 refine Bp <| .S (fun K kk => by simp [go_sem, Af, Ba, A7]; repeat first | exact kk | refine aK ?_) ?_
 refine B2 ok0 2 ?_
 refine Bz (Ex ?_); simp [go_sem, Af, Ba, A7]
 exact ⟨y1 ++ m.data, by first | rfl | simp [go_sem], (fun h1 h2 => by first | exact ((hy1.2 h1).app (fun x hx => by simp at hx; omega)).app h2 | exact (hy1.2 h1).app h2)⟩
noncomputable def F0 (m : Dz) (h1 : m.tok.length <= 10000) (h2 : m.args.length <= 10000) (h3 : m.data.length <= 10000) : List Int := (got (Hr m h1 h2 h3)).choose
theorem Ju (m : Dz) (h1 : m.tok.length <= 10000) (h2 : m.args.length <= 10000) (h3 : m.data.length <= 10000) : PP 78 [] [m.g] [] (.mY (F0 m h1 h2 h3)) := (got (Hr m h1 h2 h3)).choose_spec.1
theorem Jw (m : Dz) (h1 : m.tok.length <= 10000) (h2 : m.args.length <= 10000) (h3 : m.data.length <= 10000) : By m.tok -> By m.data -> By (F0 m h1 h2 h3) := (got (Hr m h1 h2 h3)).choose_spec.2
theorem R8 (l : List Int) (x : Int) (h : l.length <= 1000000) : Ct 248 [.mI l, .li x] (fun d : Int => .li d) (fun d => 0 <= d -> x ∈ l) := by
 refine Ek Tryz.func248 ?_
 refine Bq <| .seq ?_
 refine Bq <| .block ?_
 refine Bs l.length (fun i1 (y1 : Unit) => ⟨[(0, .mI l), (1, .li x), (7, .li l.length), (8, .li i1)], []⟩) (fun i1 y1 => True) () (wk ok0 []) (trivial) fun i1 y1 hi1 hy1 => ?_
 refine Bq <| .seq ?_
 refine Br ?_ ?_ <;> intro h9
 ·refine Bp <| .seq <| .block <| .R ?_
  obtain ⟨e1, H1⟩ := gx l i1
  refine Bu H1 ?_
  refine Br ?_ ?_ <;> intro h16
  ·refine Bu H1 ?_
   exact .ret (fin H1 i1 (by first | exact fun h => absurd h (by decide) | exact fun _ => h16 ▸ Ac H1))
  refine Bp <| .H1 H1 ?_
  exact ⟨by omega, (), trivial, wk (cj2 (Dt ((i1 : Int) + 1)) H1) []⟩
 refine Bt <| .R ?_
 exact .ret (fin ok0 (-1) (by first | exact fun h => absurd h (by decide) | exact fun _ => h16 ▸ Ac H1))
noncomputable def Sl (l : List Int) (x : Int) (h : l.length <= 1000000) : Int := (got (R8 l x h)).choose
theorem Agu (l : List Int) (x : Int) (h : l.length <= 1000000) : PP 248 [] [.mI l, .li x] [] (.li (Sl l x h)) := (got (R8 l x h)).choose_spec.1
theorem Ahe (l : List Int) (x : Int) (h : l.length <= 1000000) : 0 <= (Sl l x h) -> x ∈ l := (got (R8 l x h)).choose_spec.2
theorem Aae (l : List Int) (x : Int) (h : l.length <= 1000000) : Ct 223 [.mI l, .li x] (fun d : Bool => .lb d) (fun d => d = true -> x ∈ l) := by
 refine Ek Tryz.func223 ?_
 refine Bq ?_
 refine B8 ok0 (Agu l x (by first | assumption | omega)) ?_
 exact .ret (fin ok0 (decide ((0 : Int) <= (Sl l x (by first | assumption | omega)))) (fun h2 => Ahe l x h (by simpa using h2)))
theorem Vi (c : List Int) (l : List Int) (h : l.length <= 1000000) (hc : c.length <= 1000000) : Ct 177 [.mI c, .mI l] (fun d : Bool => .lb d) (fun d => True) := by
 refine Ek Tryz.func177 ?_
 refine Bq ?_
 refine VX.scope ?_
 refine Bq <| .seq ?_
 refine VX.label ?_
 refine Ca <| .R <| .block ?_
 refine Bs l.length (fun i1 (y1 : Bool) => ⟨[(0, .mI c), (1, .mI l), (5, .lb y1), (10, .mI l), (11, .li l.length), (12, .li i1)], []⟩) (fun i1 y1 => True) (false) (wk ok0 []) (trivial) fun i1 y1 hi1 hy1 => ?_
 refine Bq <| .seq ?_
 refine Br ?_ ?_ <;> intro h13
 ·refine Bp <| .seq <| .block ?_
  obtain ⟨e1, H1⟩ := gx l i1
  refine Bu H1 <| .seq ?_
  obtain ⟨Y1, cY1, qY1⟩ := got (Rl e1)
  refine B8 H1 cY1 ?_
  refine Br ?_ ?_ <;> intro h19
  ·refine Bt <| .H1 H1 ?_
   exact ⟨by omega, (y1), trivial, wk (cj2 (Dt ((i1 : Int) + 1)) H1) []⟩
  refine Bp <| .H H1 <| .block ?_
  refine Bs l.length (fun i2 (y2 : Bool) => ⟨[(0, .mI c), (1, .mI l), (5, .lb y2), (6, .li i1), (10, .mI l), (11, .li l.length), (12, .li i1), (20, .mI l), (21, .li l.length), (22, .li i2)], []⟩) (fun i2 y2 => True) (y1) (wk H1 []) (trivial) fun i2 y2 hi2 hy2 => ?_
  refine Bu H1 <| .seq ?_
  refine Br ?_ ?_ <;> intro h23
  ·refine Bp <| .seq <| .block ?_
   obtain ⟨e2, H2⟩ := gx l i2
   refine Bu (cj2 H1 H2) ?_
   refine B4 (by rfl) fun K1 hK1 => ?_
   simp [go_sem, H1, H2]
   obtain ⟨Y2, cY2, qY2⟩ := got (Rl e2)
   refine .l cY2 ?_
   simp [go_sem, H1, H2]
   refine RCG ?_
   simp [go_sem, H1, H2]
   first | refine .lo (Hl c i1 i2 (by first | assumption | omega)) rfl (by simp [AV.cln, Ez]) ?_ | refine .skip ?_
   simp [go_sem, H1, H2]
   refine hK1 _ ?_; clear hK1
   refine Br ?_ ?_ <;> intro h34
   ·refine Bu (cj2 H1 H2) <| .exit ?_
    refine Bu (cj2 H1 H2) ?_
    exact .ret (fin (cj2 H1 H2) true trivial)
   refine Bp <| .H1 (cj2 H1 H2) ?_
   exact ⟨by omega, (y2), trivial, wk (cj3 (Dt ((i2 : Int) + 1)) H1 H2) []⟩
  refine Bt <| .H1 H1 ?_
  exact ⟨by omega, (y2), trivial, wk (cj2 (Dt ((i1 : Int) + 1)) H1) []⟩
 refine Bt <| .R ?_
 exact .ret (fin ok0 y1 trivial)
section
variable {P : Program}
def Ar3 {γ : Type} (M : Nat) (sl : List (Nat × AV)) (f : γ -> List Ob) (I : γ -> Prop) (K : Exit -> St -> Prop) : Exit -> St -> Prop
 | .normal, s => ∃ x', I x' /\ WkE M s ⟨[], f x'⟩
 | .ret, s => ∃ ob', WkE M s ⟨[], ob'⟩ /\ K .ret ⟨sl, ob'⟩
 | .exit id, s => ∃ ob', WkE M s ⟨[], ob'⟩ /\ K (.exit id) ⟨sl, ob'⟩
 | .goto t, s => ∃ ob', WkE M s ⟨[], ob'⟩ /\ K (.goto t) ⟨sl, ob'⟩
 | _, _ => False
theorem I8.mono {k : Nat} {sl : List (Nat × AV)} {o : List Ob} {I I' : Prop} {K K' : Exit -> St -> Prop} (hI : I -> I') (hK : ∀ e s, K e s -> K' e s) {e : Exit} {s : St} (h : I8 k sl o I K e s) : I8 k sl o I' K' e s := by
 cases e with
 | normal => exact ⟨h.1, hI h.2⟩
 | ret => obtain ⟨ob, h1, h2⟩ := h; exact ⟨ob, h1, hK _ _ h2⟩
 | exit id => obtain ⟨ob, h1, h2⟩ := h; exact ⟨ob, h1, hK _ _ h2⟩
 | goto t => obtain ⟨ob, h1, h2⟩ := h; exact ⟨ob, h1, hK _ _ h2⟩
 | _ => exact h
theorem I8.jump {k : Nat} {sl : List (Nat × AV)} {o o' : List Ob} {I : Prop} {K : Exit -> St -> Prop} {e : Exit} {s : St} (h : I8 k sl o False K e s) : I8 k sl o' I K e s := by
 cases e with
 | normal => exact h.2.elim
 | _ => exact h
theorem VX.rangeFn {n m : Nat} {γ : Type} {sl : List (Nat × AV)} {K : Exit -> St -> Prop} {g : Tmp} {ps : List Tmp} {al : List Oper} {aid : Nat} {body : Code} {gf : FuncId} {caps : List AV} {items : List (List AV)} (hit : Wa P gf caps items) (f : γ -> List Ob) (M : Nat) (hM : ∀ x, (f x).length = M) (hg : El sl g = .fn gf caps)
    (hlive : ∀ x id, (St.mk sl (f x)).o id ≠ .gone -> ((St.mk sl (f x)).o id).live) (hps : ∀ p ∈ ps, p < n) (hal : Atd n al = true) (hcl : ∀ vs ∈ items, vs.length = ps.length /\ Mq (fun _ => none) vs = vs)
    (Inv : Nat -> γ -> Prop) (x0 : γ) (hI0 : Inv 0 x0) (hround : ∀ i vs x, items[i]? = some vs -> Inv i x -> VX P n M body (Adm al ⟨Rb ps vs sl, f x⟩) (Ar3 M sl f (Inv (i + 1)) K)) (hdone : ∀ x, Inv items.length x -> K .normal ⟨sl, f x⟩) :
    VX P n m (.rangeFunc (.tmp g) ps.toArray (.region aid al.toArray false) body) ⟨sl, f x0⟩ K := by
  have key : ∀ (k i : Nat) (x : γ), i + k = items.length -> Inv i x -> ∃ e s, K e s /\ ∃ (xs : Nat -> γ) (stop : Nat), xs i = x /\ i <= stop /\ stop <= items.length /\
      (∀ j vs, i <= j -> j < stop -> items[j]? = some vs -> VW P n M body (Adm al ⟨Rb ps vs sl, f (xs j)⟩) (I8 M sl (f (xs (j + 1))) True fun _ _ => False)) /\
      (stop = items.length -> e = .normal /\ s = ⟨sl, f (xs stop)⟩) /\ (∀ vs, items[stop]? = some vs -> VW P n M body (Adm al ⟨Rb ps vs sl, f (xs stop)⟩) (I8 M sl [] False fun e' s' => e' = e /\ s' = s)) := by
    intro k
    induction k with
    | zero =>
      intro i x hi hI
      refine ⟨.normal, ⟨sl, f x⟩, hdone x (by have : i = items.length := by omega
                                              rw [<- this]; exact hI), fun _ => x, i, rfl, Aj _, by omega, fun j vs h1 h2 => by omega, fun _ => ⟨rfl, rfl⟩, fun vs h => ?_⟩
      have := (Ab.1 h).1
      omega
    | succ k ih =>
      intro i x hi hI
      obtain ⟨vs, hvs⟩ : ∃ vs, items[i]? = some vs := ⟨_, Aa (by omega)⟩
      obtain ⟨e1, s1, h1, h2⟩ := hround i vs x hvs hI
      have other : ∀ (e : Exit) (s : St), K e s -> I8 M sl [] False (fun e' s' => e' = e /\ s' = s) e1 s1 -> ∃ e s, K e s /\ ∃ (xs : Nat -> γ) (stop : Nat), xs i = x /\ i <= stop /\ stop <= items.length /\
          (∀ j vs, i <= j -> j < stop -> items[j]? = some vs -> VW P n M body (Adm al ⟨Rb ps vs sl, f (xs j)⟩) (I8 M sl (f (xs (j + 1))) True fun _ _ => False)) /\
          (stop = items.length -> e = .normal /\ s = ⟨sl, f (xs stop)⟩) /\ (∀ vs, items[stop]? = some vs -> VW P n M body (Adm al ⟨Rb ps vs sl, f (xs stop)⟩) (I8 M sl [] False fun e' s' => e' = e /\ s' = s)) := by
        intro e s hK hR
        refine ⟨e, s, hK, fun _ => x, i, rfl, Aj _, by omega, fun j vs h1 h2 => by omega, fun h => by omega, fun vs' h => ?_⟩
        rw [hvs] at h
        injection h with h
        subst h
        refine h1.mono ?_
        rintro e' s' ⟨rfl, rfl⟩
        exact hR
      cases e1 with
      | normal =>
        obtain ⟨x', h3, h4⟩ := h2
        obtain ⟨e, s, hK, xs, stop, q1, q2, q3, q4, q5, q6⟩ := ih (i + 1) x' (by omega) h3
        refine ⟨e, s, hK, fun j => if j = i then x else xs j, stop, if_pos rfl, by omega, q3, fun j vs' hj1 hj2 hjv => ?_, fun h => ?_, fun vs' h => ?_⟩
        · by_cases e0 : j = i
          · subst e0
            rw [hvs] at hjv
            injection hjv with hjv
            subst hjv
            simp only [if_true]
            rw [if_neg (by omega), q1]
            refine h1.mono ?_
            rintro e' s' ⟨rfl, rfl⟩
            exact ⟨h4, trivial⟩
          · simp only
            rw [if_neg e0, if_neg (by omega)]
            exact q4 j vs' (by omega) hj2 hjv
        · obtain ⟨g1, g2⟩ := q5 h
          exact ⟨g1, by simp only; rw [if_neg (by omega)]; exact g2⟩
        · simp only
          rw [if_neg (by omega)]
          exact q6 vs' h
      | ret => obtain ⟨ob, h3, h4⟩ := h2; exact other _ _ h4 ⟨ob, h3, rfl, rfl⟩
      | exit id => obtain ⟨ob, h3, h4⟩ := h2; exact other _ _ h4 ⟨ob, h3, rfl, rfl⟩
      | goto t => obtain ⟨ob, h3, h4⟩ := h2; exact other _ _ h4 ⟨ob, h3, rfl, rfl⟩
      | panic ch => exact h2.elim
      | outgrown => exact h2.elim
  obtain ⟨e, s, hK, xs, stop, q1, q2, q3, q4, q5, q6⟩ := key items.length 0 x0 (by omega) hI0
  refine ⟨e, s, ?_, hK⟩
  have := VW.rangeFn (m := m) (K := fun e' s' => e' = e /\ s' = s) (body := body) (al := al) (aid := aid) (ps := ps) (n := n) (sl := sl) (g := g) hit (fun j => f (xs j)) hg (fun j id => hlive (xs j) id) hps hal hcl (fun j => j <= stop) (Ae _) (fun j vs hj hI => ?_) (fun hI => ?_)
  · simp only [q1] at this
    exact this
  · rw [hM]
    by_cases e0 : j = stop
    · subst e0
      exact (q6 vs hj).mono fun e' s' h => h.jump
    · exact (q4 j vs (Ae _) (by omega) hj).mono fun e' s' h => h.mono (fun _ => by omega) fun _ _ h => h.elim
  · have hs : stop = items.length := by omega
    obtain ⟨g1, g2⟩ := q5 hs
    rw [hs] at g2
    exact ⟨g1.symm, g2.symm⟩
abbrev Dk := @VX.rangeFn
def St.dull (st : St) (id : Nat) : St := st.set id (.row (Xq (st.o id)) (Q8 (st.o id)) false (An4 (st.o id)) (Kj (st.o id)))
theorem VX.dull {n m : Nat} {st : St} {K : Exit -> St -> Prop} {c : Code} (id : Nat) (h : Fp (st.o id) = true) (hv : VX P n m c (st.dull id) K) : VX P n m c st K := by
 obtain ⟨e, s, h1, h2⟩ := hv
 refine ⟨e, s, fun E F hE hF β a w r => h1 E F hE hF β a w ?_, h2⟩
 unfold St.dull
 cases hq : st.o id with
 | row ty k fr fz es => exact (r.flag hq (fun e => by cases e) fun e => e).1
 | _ => rw [hq] at h; exact absurd h (by simp [Fp])
abbrev Cu := @VX.dull
theorem Atg {sl : List (Nat × AV)} {ob : List Ob} {id : Nat} : (St.mk sl ob).dull id = St.mk sl (Nw ob id (.row (Xq (ob.getD id .gone)) (Q8 (ob.getD id .gone)) false (An4 (ob.getD id .gone)) (Kj (ob.getD id .gone)))) := rfl
attribute [go_sem] Atg
theorem Ag8 {m : Nat} {sl : List (Nat × AV)} {ob : List Ob} {rs : List ResultVar} {σr : List Ob} {res : AV} (sel : List Nat) (hc : Tl P ⟨sl, ob⟩ rs) (hnd : sel.Nodup) (hm : ∀ id, id < m -> sel[id]? = some id) (h : ((J0 P ⟨sl, ob⟩ rs).ren fun id => idx id sel 0).low = res) (ho : OL (fun i => ob.getD i .gone) (fun id => idx id sel 0) sel σr) : P0 P m rs σr res .normal ⟨sl, ob⟩ :=
 ⟨.inl rfl, hc, sel, Ds hnd (.cons (by rw [<- h]; exact Le.low _) .nil) ho, hm⟩
end
def I2 (r : Int) : List Fk -> Nat -> List Int
 | [], _ => []
 | p :: l, i => if p.ring = r then (i : Int) :: I2 r l (i + 1) else I2 r l (i + 1)
def Afo (l : List Fk) (r : Int) : List Int := I2 r l 0
theorem Acv (r : Int) : ∀ (l1 l2 : List Fk) (i : Nat), I2 r (l1 ++ l2) i = I2 r l1 i ++ I2 r l2 (i + l1.length)
 | [], l2, i => by simp [I2]
 | p :: l1, l2, i => by
  simp only [List.cons_append, I2, A6, Acv r l1 l2 (i + 1)]
  rw [show i + 1 + l1.length = i + (l1.length + 1) by omega]
  split <;> rfl
theorem Wt (r : Int) : ∀ (l : List Fk) (i : Nat) (x : Int), x ∈ I2 r l i -> (i : Int) <= x /\ x < i + l.length
 | [], i, x, h => by simp [I2] at h
 | p :: l, i, x, h => by
  unfold I2 at h
  split at h
  ·rcases List.mem_cons.1 h with rfl | h
   ·simp only [A6]; omega
   have := Wt r l (i + 1) x h; simp only [A6]; omega
  have := Wt r l (i + 1) x h; simp only [A6]; omega
theorem Yz {l : List Fk} {r x : Int} (h : x ∈ Afo l r) : 0 <= x /\ x < l.length := by
 have := Wt r l 0 x h
 omega
def rgN (l : List Fk) (r : Int) (k : Nat) : Nat := (I2 r (l.take k) 0).length
theorem Am6 {l : List Fk} {r : Int} {k : Nat} {p : Fk} (h : l[k]? = some p) : I2 r l 0 = I2 r (l.take k) 0 ++ ((if p.ring = r then [(k : Int)] else []) ++ I2 r (l.drop (k + 1)) (k + 1)) := by
 have hk := (Ab.1 h).1
 have e : l = l.take k ++ p :: l.drop (k + 1) := by
  have h1 := List.take_append_drop k l
  rw [List.drop_eq_getElem_cons hk, (Ab.1 h).2] at h1
  exact h1.symm
 have e2 : I2 r l 0 = I2 r (l.take k ++ p :: l.drop (k + 1)) 0 := congrArg (fun l => I2 r l 0) e
 rw [e2, Acv, I2]
 have hl : (l.take k).length = k := by rw [A5]; omega
 rw [hl, Bm]
 congr 1
 split <;> rfl
theorem Ajf {l : List Fk} {r : Int} {k : Nat} {p : Fk} (h : l[k]? = some p) : rgN l r (k + 1) = rgN l r k + if p.ring = r then 1 else 0 := by
 have hk := (Ab.1 h).1
 unfold rgN
 have h2 : (l.take (k + 1))[k]? = some p := by rw [Ag (by omega)]; exact h
 rw [Am6 h2, List.take_take, Nat.min_eq_left (by omega)]
 have h3 : (l.take (k + 1)).drop (k + 1) = [] := List.drop_of_length_le (by rw [A5]; omega)
 rw [h3]
 simp only [I2, List.append_nil, Bo]
 split <;> rfl
theorem At5 {l : List Fk} {r : Int} {k : Nat} {p : Fk} (h : l[k]? = some p) (hp : p.ring = r) : (Afo l r)[rgN l r k]? = some (k : Int) := by
 unfold Afo rgN
 rw [Am6 h, if_pos hp, Ao (Aj _), Nat.sub_self]
 rfl
theorem Asm (l : List Fk) (r : Int) {k : Nat} (h : l.length <= k) : rgN l r k = (Afo l r).length := by
 unfold rgN Afo
 rw [Bf h]
theorem T6 (j : Fr) (r : Int) (h : j.phs.length <= 1000000) : Wa Tryz.prog 182 [.iptr false [.sl 8 (Ps j.phs), .sl 1 (tI j.con), .li j.start] 0, .iptr false [.li r] 0] ((Afo j.phs r).map fun a => [.li a]) := by
 refine Abp Tryz.func182 rfl rfl rfl (by simp [Tryz.ntmps182]) rfl fun yl => ?_
 refine B9 (by rfl) fun K1 hK1 => ?_
 simp [go_sem]
 refine hK1 _ ?_; clear hK1
 refine Cv ?_
 refine Dm j.phs.length (fun k => ⟨[(0, .lit (.func (.yield yl) #[] #[])), (2, .iptr false [.li r] 0), (7, .mPhase j.phs), (8, .li j.phs.length), (9, .li k)], []⟩) (fun k => rgN j.phs r k)
  (fun k => True) ⟨[], Ds (by decide) ?_ ?_, by simp⟩ ⟨rfl, rfl, trivial⟩ fun k hk _ => ?_
 ·simp [go_sem]
 ·simp [go_sem]
 refine B9 (by rfl) fun K1 hK1 => ?_
 simp [go_sem]
 refine hK1 _ ?_; clear hK1
 refine Cw ?_
 refine VI.Q ?_ ?_ <;> intro h10
 ·refine Db ?_
  refine Cw ?_
  refine Cv ?_
  obtain ⟨e1, hx⟩ : ∃ e, j.phs[k]? = some e := ⟨_, Aa (by omega)⟩
  refine B9 (by rfl) fun K1 hK1 => ?_
  simp [go_sem, hx]
  repeat' with_reducible refine Ax ?_ ?_
  all_goals try (intros; (repeat' refine Ax ?_ ?_) <;> omega)
  refine hK1 _ ?_; clear hK1
  refine Cw (Dq ?_)
  refine VIL.first 7 (by rfl) fun K1 hK1 => ?_
  by_cases hr : e1.ring = r
  ·have hit := At5 hx hr
   have hnx := Ajf (r := r) hx
   rw [if_pos hr] at hnx
   simp [go_sem, hr]
   refine hK1 _ ?_; clear hK1
   refine VIL.yield (vs := [.li k]) (by simp [go_sem]) (by simp [go_sem]) (by decide) (by simp [go_sem]) (by simp [go_sem]) (by simp [go_sem]) (by simp [hit]) (by simp [go_sem]) rfl fun b => ?_
   refine VIL.rest (by rfl) fun K1 hK1 => ?_
   cases b with
   | true =>
    simp [go_sem]
    refine hK1 _ ?_; clear hK1
    refine C4 (by simp [go_sem]) (by simp [go_sem]) (fun h17 => ?_) (fun h17 => ?_) <;> simp [go_sem] at h17
    exact VI.ret ⟨.inr rfl, fun h => by cases h⟩
   | false =>
    simp [go_sem]
    refine hK1 _ ?_; clear hK1
    refine C4 (by simp [go_sem]) (by simp [go_sem]) (fun h17 => ?_) (fun h17 => ?_) <;> simp [go_sem] at h17
    refine Db ?_
    refine Cr (by rfl) fun K1 hK1 => ?_
    simp [go_sem]
    refine hK1 _ ?_; clear hK1
    refine ⟨by omega, hnx.symm, rfl, trivial, [], Ds (by decide) ?_ ?_, by simp⟩
    ·simp [go_sem, Dt ((k : Int) + 1)]
    simp [go_sem]
  have hnx := Ajf (r := r) hx
  rw [if_neg hr, Nat.add_zero] at hnx
  have hrb : (e1.ring == r) = false := by simpa using hr
  simp [go_sem, hrb]
  refine hK1 _ ?_; clear hK1
  refine VIL.noyield (d := 21) rfl (by simp [go_sem]) (by simp [go_sem]) (by decide) ?_
  refine VIL.rest (by rfl) fun K1 hK1 => ?_
  simp [go_sem, hrb]
  refine hK1 _ ?_; clear hK1
  refine C4 (by simp [go_sem]) (by simp [go_sem]) (fun h17 => ?_) (fun h17 => ?_) <;> simp [go_sem] at h17
  refine Db ?_
  refine Cr (by rfl) fun K1 hK1 => ?_
  simp [go_sem]
  refine hK1 _ ?_; clear hK1
  refine ⟨by omega, hnx.symm, rfl, trivial, [], Ds (by decide) ?_ ?_, by simp⟩
  ·simp [go_sem, Dt ((k : Int) + 1)]
  simp [go_sem]
 refine VI.exit ?_
 exact ⟨.inl rfl, fun _ => by rw [Asm _ _ (by omega)]; simp⟩
theorem Q3 (j : Fr) (r : Int) : PP 164 [] [.agg (Fr.a false j), .li r] [] (.fn 182 [.iptr false [.sl 8 (Ps j.phs), .sl 1 (tI j.con), .li j.start] 0, .iptr false [.li r] 0]) := by
 refine Ei.boxes (σr := [.box 88 [.mPhase j.phs, .mI j.con, .li j.start], .box 3 [.li r]]) (res := .fn 182 [.ptr 0 0, .ptr 1 0]) ?_ (by simp [go_sem, St.o])
 refine Eb Tryz.func164 ?_
 iterate 2 refine Bw ?_
 exact .ret (rW ok0 [0, 1])
theorem Zx {l : List Fi} : ∀ (n : Nat) (s x : Int), x ∈ Pq l n s -> Gg l x = true
 | 0, s, x, h => by simp [Pq] at h
 | n + 1, s, x, h => by
  unfold Pq at h
  split at h
  ·rename_i hu
   rcases List.mem_cons.1 h with rfl | h
   ·exact hu
   exact Zx n _ x h
  cases h
theorem Alb {l : List Fi} {s x : Int} (h : x ∈ Tc l s) : Gg l x = true := Zx 8 s x h
theorem M0 (j : Fr) (r : Int) (g : Int) (f : Int) (h : j.phs.length <= 1000000) : Ct 144 [j.g, .li r, .li g, .li f] (fun d : Int => .li d) (fun d => d = -1 \/ (0 <= d /\ d < j.phs.length)) := by
 refine Ek Tryz.func144 ?_
 refine Bq <| .seq ?_
 refine B8 ok0 (Q3 j r) <| .block ?_
 refine C3 (s' := ⟨[(4, .ptr 0 0), (6, .ptr 1 0), (7, .ptr 2 0), (8, .ptr 3 0), (12, .fn 182 [.iptr false [.sl 8 (Ps j.phs), .sl 1 (tI j.con), .li j.start] 0, .iptr false [.li r] 0])], (fun (y1 : Int) => [.box 88 [.mPhase j.phs, .mI j.con, .li j.start], .box 3 [.li g], .box 3 [.li f], .box 3 [.li y1]]) (0)⟩) ⟨[0, 1, 2, 3], Ds (by decide) ?_ ?_, by simp⟩ ?_
 ·simp [go_sem]
 ·simp [go_sem]
 refine Dk (T6 j r h) (fun (y1 : Int) => [.box 88 [.mPhase j.phs, .mI j.con, .li j.start], .box 3 [.li g], .box 3 [.li f], .box 3 [.li y1]]) 4 (fun _ => rfl) (by rfl) (fun _ => Qn rfl) (by decide) (by rfl) ?_ (fun j1 y1 => True) (0) (trivial) (fun j1 vs y1 hj1 hy1 => ?_) (fun y1 hy1 => ?_)
 ·intro vs hvs
  obtain ⟨a, _, rfl⟩ := A4.1 hvs
  simp [go_sem]
 ·
  obtain ⟨a1, ha1, rfl⟩ := D0 hj1
  have hm := Yz (Ac ha1)
  refine Dd ?_
  obtain ⟨e1, H1⟩ := gx j.phs a1.toNat
  refine C8 H1 ?_
  refine Br ?_ ?_ <;> intro h26
  ·refine Bu H1 ?_
   refine Bz ⟨[.box 88 [.mPhase j.phs, .mI j.con, .li j.start], .box 3 [.li g], .box 3 [.li f], .box 3 [.li a1]], ⟨[0, 1, 2, 3], Ds (by decide) ?_ ?_, Fu rfl⟩, ?_⟩
   ·simp [go_sem]
   ·simp [go_sem, H1]
   refine (Aqa (by simp [go_sem]) ?_)
   simp [go_sem, H1]
   exact ⟨a1, by first | rfl | simp [go_sem], (by first | exact .inl rfl | exact .inr hm)⟩
  refine Bp ?_
  refine ⟨(y1), ?_, ⟨[0, 1, 2, 3], Ds (by decide) ?_ ?_, Fu rfl⟩⟩
  ·trivial
  ·simp [go_sem]
  simp [go_sem, H1]
 -- done
 refine Bq ?_
 exact .ret (fin ok0 (-1) (by first | exact .inl rfl | exact .inr hm))
theorem Nt (j : Fr) (c : Mm) (r : Int) (h : j.phs.length <= 1000000) (hl : c.lights.length = j.phs.length) : Ct 226 [j.g, c.g, .li r] (fun d : Bool => .lb d) (fun d => True) := by
 refine Ek Tryz.func226 ?_
 refine Bq <| .seq ?_
 refine B8 ok0 (Q3 j r) <| .block ?_
 refine C3 (s' := ⟨[(4, .ptr 0 0), (6, .ptr 1 0), (10, .fn 182 [.iptr false [.sl 8 (Ps j.phs), .sl 1 (tI j.con), .li j.start] 0, .iptr false [.li r] 0])], (fun (y1 : Bool) => [.box 133 [.mLight c.lights, .li c.grp, .mI c.nxt, .li c.wt], .box 4 [.lb y1]]) (false)⟩) ⟨[1, 2], Ds (by decide) ?_ ?_, by simp⟩ ?_
 ·simp [go_sem]
 ·simp [go_sem]
 refine Dk (T6 j r h) (fun (y1 : Bool) => [.box 133 [.mLight c.lights, .li c.grp, .mI c.nxt, .li c.wt], .box 4 [.lb y1]]) 2 (fun _ => rfl) (by rfl) (fun _ => Qn rfl) (by decide) (by rfl) ?_ (fun j1 y1 => True) (false) (trivial) (fun j1 vs y1 hj1 hy1 => ?_) (fun y1 hy1 => ?_)
 ·intro vs hvs
  obtain ⟨a, _, rfl⟩ := A4.1 hvs
  simp [go_sem]
 ·
  obtain ⟨a1, ha1, rfl⟩ := D0 hj1
  have hm := Yz (Ac ha1)
  refine Dd ?_
  obtain ⟨e1, H1⟩ := gx c.lights a1.toNat
  refine Bu H1 ?_
  refine Br ?_ ?_ <;> intro h18
  ·refine Bu H1 ?_
   refine Bz ⟨[.box 133 [.mLight c.lights, .li c.grp, .mI c.nxt, .li c.wt], .box 4 [.lb false]], ⟨[0, 1], Ds (by decide) ?_ ?_, Fu rfl⟩, ?_⟩
   ·simp [go_sem]
   ·simp [go_sem, H1]
   refine (Aqa (by simp [go_sem]) ?_)
   simp [go_sem, H1]
   exact ⟨false, by first | rfl | simp [go_sem], trivial⟩
  refine Bp ?_
  refine ⟨(y1), ?_, ⟨[0, 1], Ds (by decide) ?_ ?_, Fu rfl⟩⟩
  ·trivial
  ·simp [go_sem]
  simp [go_sem, H1]
 -- done
 refine Bq ?_
 exact .ret (fin ok0 true trivial)
theorem Rk (j : Fr) (c : Mm) (r : Int) (t : Int) (h : j.phs.length <= 1000000) (hn : c.nxt.length = 2) (hr : 0 <= r /\ r < 2) (hc : j.con.length <= 1000000) : Ct 227 [j.g, c.g, .li r, .li t] (fun d : Int => .li d) (fun d => d = -1 \/ (0 <= d /\ d < j.phs.length)) := by
 refine Ek Tryz.func227 ?_
 refine Bq ?_
 refine Bq <| .seq ?_
 refine B8 ok0 (Q3 j r) <| .block ?_
 refine C3 (s' := ⟨[(4, .ptr 0 0), (5, .ptr 1 0), (6, .ptr 2 0), (7, .ptr 3 0), (8, .ptr 4 0), (9, .ptr 5 0), (13, .fn 182 [.iptr false [.sl 8 (Ps j.phs), .sl 1 (tI j.con), .li j.start] 0, .iptr false [.li r] 0])], (fun (y1 : Int × Int) => [.box 88 [.mPhase j.phs, .mI j.con, .li j.start], .box 133 [.mLight c.lights, .li c.grp, .mI c.nxt, .li c.wt], .box 3 [.li r], .box 3 [.li t], .box 3 [.li y1.1], .box 3 [.li y1.2]]) (0, (-1))⟩) ⟨[0, 1, 2, 3, 4, 5], Ds (by decide) ?_ ?_, by simp⟩ ?_
 ·simp [go_sem]
 ·simp [go_sem]
 refine Dk (T6 j r h) (fun (y1 : Int × Int) => [.box 88 [.mPhase j.phs, .mI j.con, .li j.start], .box 133 [.mLight c.lights, .li c.grp, .mI c.nxt, .li c.wt], .box 3 [.li r], .box 3 [.li t], .box 3 [.li y1.1], .box 3 [.li y1.2]]) 6 (fun _ => rfl) (by rfl) (fun _ => Qn rfl) (by decide) (by rfl) ?_ (fun j1 y1 => y1.2 = -1 \/ (0 <= y1.2 /\ y1.2 < j.phs.length)) (0, (-1)) (.inl rfl) (fun j1 vs y1 hj1 hy1 => ?_) (fun y1 hy1 => ?_)
 ·intro vs hvs
  obtain ⟨a, _, rfl⟩ := A4.1 hvs
  simp [go_sem]
 ·
  obtain ⟨a1, ha1, rfl⟩ := D0 hj1
  have hm := Yz (Ac ha1)
  refine Dd <| .seq <| .L ok0 (Hl j.con a1 t (by first | assumption | omega)) ?_
  refine Br ?_ ?_ <;> intro h19
  ·refine Bt ?_
   refine ⟨(y1.1, y1.2), ?_, ⟨[0, 1, 2, 3, 4, 5], Ds (by decide) ?_ ?_, Fu rfl⟩⟩
   ·first | exact hy1 | exact .inr hm
   all_goals simp [go_sem]
  refine Bp <| .seq ?_
  obtain ⟨e1, H1⟩ := gx c.nxt r.toNat
  refine Bu H1 ?_
  refine Br ?_ ?_ <;> intro h34
  ·refine Bu H1 ?_
   refine Bz ⟨[.box 88 [.mPhase j.phs, .mI j.con, .li j.start], .box 133 [.mLight c.lights, .li c.grp, .mI c.nxt, .li c.wt], .box 3 [.li r], .box 3 [.li t], .box 3 [.li a1], .box 3 [.li y1.2]], ⟨[0, 1, 2, 3, 4, 5], Ds (by decide) ?_ ?_, Fu rfl⟩, ?_⟩
   ·simp [go_sem]
   ·simp [go_sem, H1]
   refine (Aqa (by simp [go_sem]) ?_)
   simp [go_sem, H1]
   exact ⟨a1, by first | rfl | simp [go_sem], (by first | exact .inl rfl | exact .inr hm | exact hy1)⟩
  refine Bp <| .H H1 ?_
  refine Br ?_ ?_ <;> intro h37
  ·refine B0 H1 ?_
   refine ⟨(y1.1, a1), ?_, ⟨[0, 1, 2, 3, 4, 5], Ds (by decide) ?_ ?_, Fu rfl⟩⟩
   ·first | exact hy1 | exact .inr hm
   ·simp [go_sem]
   simp [go_sem, H1]
  refine Bp ?_
  refine ⟨(y1.1, y1.2), ?_, ⟨[0, 1, 2, 3, 4, 5], Ds (by decide) ?_ ?_, Fu rfl⟩⟩
  ·first | exact hy1 | exact .inr hm
  ·simp [go_sem]
  simp [go_sem, H1]
 -- done
 refine Bq ?_
 exact .ret (fin ok0 y1.2 (by first | exact .inl rfl | exact .inr hm | exact hy1))
theorem Pa (l : List Fi) (n : Int) (hl : l.length <= 1000000) (ht : ∀ t ∈ l, t.sec.length <= 1000000) : Ct 166 [.mTok l, .li n] (fun d : List Fi => .mTok d) (fun d => d.length = l.length /\ ∀ t ∈ d, t.sec.length <= 1000000) := by
 refine Ek Tryz.func166 ?_
 refine Bq ?_
 refine B8 ok0 (La l hl ht) <| .seq ?_
 refine Bq <| .block ?_
 refine Bs l.length (fun i1 (y1 : (List Fi)) => ⟨[(2, .ptr 0 0), (3, .ptr 1 0), (5, .ptr 3 0), (11, .li l.length), (12, .li i1)], [.box 61 [.mTok l], .box 3 [.li n], .row 73 6 false false (M9 y1), .box 61 [.own 2 y1.length]]⟩) (fun i1 y1 => y1.length = l.length /\ ∀ t ∈ y1, t.sec.length <= 1000000) (l) (wk ok0 [0, 1, 2, 3]) (⟨rfl, ht⟩) fun i1 y1 hi1 hy1 => ?_
 refine Bq <| .seq ?_
 refine Br ?_ ?_ <;> intro h13
 ·refine Bp <| .seq <| .block <| .R ?_
  refine B8 ok0 (Qa l i1) <| .block ?_
  refine C3 (s' := ⟨[(2, .ptr 0 0), (3, .ptr 1 0), (5, .ptr 3 0), (6, .ptr 4 0), (11, .li l.length), (12, .li i1), (17, .fn 206 [.iptr false [.li i1] 0, .iptr false [.sl 6 (M9 l)] 0])], (fun (y2 : (List Fi)) => [.box 61 [.mTok l], .box 3 [.li n], .row 73 6 false false (M9 y2), .box 61 [.own 2 y2.length], .box 3 [.li i1]]) (y1)⟩) ⟨[0, 1, 2, 3, 4], Ds (by decide) ?_ ?_, by simp⟩ ?_
  ·simp [go_sem]
  ·simp [go_sem]
  refine Dk (T7 l i1) (fun (y2 : (List Fi)) => [.box 61 [.mTok l], .box 3 [.li n], .row 73 6 false false (M9 y2), .box 61 [.own 2 y2.length], .box 3 [.li i1]]) 5 (fun _ => rfl) (by rfl) (fun _ => Qn rfl) (by decide) (by rfl) ?_ (fun j2 y2 => y2.length = l.length /\ ∀ t ∈ y2, t.sec.length <= 1000000) (y1) (hy1) (fun j2 vs y2 hj2 hy2 => ?_) (fun y2 hy2 => ?_)
  ·intro vs hvs
   obtain ⟨a, _, rfl⟩ := A4.1 hvs
   simp [go_sem]
  ·
   obtain ⟨a2, ha2, rfl⟩ := D0 hj2
   obtain ⟨hp0, tp, hp1, hp2⟩ := Po (Alb (Ac ha2))
   have hp3 := (Ab.1 hp1).1
   refine Dd ?_
   obtain ⟨e1, H1⟩ := gx l a2.toNat
   refine Da H1 (S4 e1 n) ?_
   refine Br ?_ ?_ <;> intro h24
   ·obtain ⟨e2, H2⟩ := gx y2 i1
    refine Da (cj2 H1 H2) (Sd) ?_
    refine Bt ⟨[.box 61 [.mTok l], .box 3 [.li n], .row 73 6 false false (M9 ((y2).set i1 Pp)), .box 61 [.own 2 y2.length], .box 3 [.li i1]], ⟨[0, 1, 2, 3, 4], Ds (by decide) ?_ ?_, Fu rfl⟩, ?_⟩
    ·simp [go_sem]
    ·simp [go_sem, H1, H2]
    refine B0 (cj2 H1 H2) ?_
    refine ⟨by omega, ((y2).set i1 Pp), ?_, wk (cj3 (Dt ((i1 : Int) + 1)) H1 H2) [0, 1, 2, 3]⟩
    first | exact hy2 | exact ⟨(List.length_set ..).trans hy2.1, Kb hy2.2 (by simp [Pp])⟩
   refine Bp ?_
   refine ⟨(y2), ?_, ⟨[0, 1, 2, 3, 4], Ds (by decide) ?_ ?_, Fu rfl⟩⟩
   ·exact hy2
   ·simp [go_sem]
   simp [go_sem, H1]
  -- done
  refine Ci ?_
  refine ⟨by omega, (y2), ?_, wk (Dt ((i1 : Int) + 1)) [0, 1, 2, 3]⟩
  first | exact hy2 | exact ⟨(List.length_set ..).trans hy2.1, Kb hy2.2 (by simp [Pp])⟩
 refine Bt <| .R ?_
 refine B2 ok0 2 ?_
 exact .ret (fin ok0 y1 hy1)
noncomputable def I3 (l : List Fi) (n : Int) (hl : l.length <= 1000000) (ht : ∀ t ∈ l, t.sec.length <= 1000000) : List Fi := (got (Pa l n hl ht)).choose
theorem Ab5 (l : List Fi) (n : Int) (hl : l.length <= 1000000) (ht : ∀ t ∈ l, t.sec.length <= 1000000) : PP 166 [] [.mTok l, .li n] [] (.mTok (I3 l n hl ht)) := (got (Pa l n hl ht)).choose_spec.1
theorem Acx (l : List Fi) (n : Int) (hl : l.length <= 1000000) (ht : ∀ t ∈ l, t.sec.length <= 1000000) : (I3 l n hl ht).length = l.length /\ ∀ t ∈ (I3 l n hl ht), t.sec.length <= 1000000 := (got (Pa l n hl ht)).choose_spec.2
structure Mn (j : Fr) : Prop where
  len : j.phs.length <= 1000000
  pos : 1 <= j.phs.length
  con : j.con.length <= 1000000
  ring : ∀ p ∈ j.phs, 0 <= p.ring /\ p.ring < 2
  grp : ∀ p ∈ j.phs, 0 <= p.grp /\ p.grp <= 3
structure Rf (j : Fr) (l : List Int) : Prop where
  len : l.length = 2
  ok : ∀ x ∈ l, x = -1 \/ (0 <= x /\ x < j.phs.length)
theorem Rf.set {j : Fr} {l : List Int} (h : Rf j l) (i : Nat) {x : Int} (hx : x = -1 \/ (0 <= x /\ x < j.phs.length)) : Rf j (l.set i x) := ⟨by rw [List.length_set]; exact h.len, fun y hy => by
 rcases Bi hy with h1 | h1
 ·exact h.ok y h1
 subst h1; exact hx⟩
theorem Pf (j : Fr) (c : Mm) (g : Int) (hj : Mn j) : Cx 113 [.box 133 [.own 1 c.lights.length, .li c.grp, .own 2 c.nxt.length, .li c.wt], .row 185 2 false false (Hq c.lights), .row 3 1 false false (tI c.nxt)] [j.g, .ptr 0 0, .li g] (fun d : Mm × (List Int) => [.box 133 [.own 1 d.1.lights.length, .li d.1.grp, .own 3 d.1.nxt.length, .li d.1.wt], .row 185 2 false false (Hq d.1.lights), .row 3 1 false false (tI d.2), .row 3 1 false false (tI d.1.nxt)]) (fun d => .tup []) (fun d => d.1.lights = c.lights /\ d.1.grp = g /\ d.1.wt = c.wt /\ Rf j d.1.nxt) := by
 refine R3 Tryz.func113 ?_
 iterate 2 refine Bq ?_
 refine Bu ok0 ?_
 refine Bq <| .block ?_
 refine Bs 2 (fun i1 (y1 : (List Fd) × (List Int) × (List Int)) => ⟨[(1, .ptr 0 0), (2, .li g), (3, .ptr 3 0), (19, .li 2), (20, .li i1)], [.box 133 [.own 1 y1.1.length, .li g, .own 4 y1.2.2.length, .li c.wt], .row 185 2 false false (Hq y1.1), .row 3 1 false false (tI y1.2.1), .box 88 [.mPhase j.phs, .mI j.con, .li j.start], .row 3 1 false false (tI y1.2.2)]⟩) (fun i1 y1 => y1.1 = c.lights /\ Rf j y1.2.2) (c.lights, c.nxt, List.replicate 2 0) (wk ok0 [0, 1, 2, 3, 4]) (⟨rfl, by simp, fun x hx => by have := hj.pos; simp at hx; omega⟩) fun i1 y1 hi1 hy1 => ?_
 refine Bq <| .seq ?_
 refine Br ?_ ?_ <;> intro h21
 ·refine Bp <| .seq <| .block <| .R ?_
  have hl2 := hy1.2.len
  obtain ⟨e1, H1⟩ := gx y1.2.2 i1
  obtain ⟨Y1, cY1, qY1⟩ := got (M0 j i1 g 0 hj.len)
  refine Co H1 cY1 ?_
  refine B0 H1 ?_
  refine ⟨by omega, (y1.1, y1.2.1, (y1.2.2).set i1 Y1), ?_, [0, 1, 2, 3, 4], Ds (by decide) ?_ ?_, Fu rfl⟩
  ·exact ⟨hy1.1, hy1.2.set _ qY1⟩
  all_goals simp [go_sem, Dt ((i1 : Int) + 1), H1, hy1.2.len]
 refine Bt ?_
 refine ⟨(⟨y1.1, g, y1.2.2, c.wt⟩, y1.2.1), Ag8 [0, 1, 2, 4] (by simp [go_sem]) (by decide) (Fu rfl) (by simp [go_sem]) ?_, ⟨hy1.1, rfl, rfl, hy1.2⟩⟩
 repeat' (first | exact .nil | refine .cons (by simp [go_sem]) ?_)
theorem Ic (j : Fr) (c : Mm) (p : Int) (hj : Mn j) (hl : c.lights.length = j.phs.length) (hn : Rf j c.nxt) (h0 : 0 <= p) (h1 : p < j.phs.length) : Cx 228 [.box 133 [.own 1 c.lights.length, .li c.grp, .own 2 c.nxt.length, .li c.wt], .row 185 2 false false (Hq c.lights), .row 3 1 false false (tI c.nxt)] [j.g, .ptr 0 0, .li p] (fun d : Mm × Bool × (List Int) => (bif d.2.1 then [.box 133 [.own 1 d.1.lights.length, .li d.1.grp, .own 3 d.1.nxt.length, .li d.1.wt], .row 185 2 false false (Hq d.1.lights), .row 3 1 false false (tI d.2.2), .row 3 1 false false (tI d.1.nxt)] else [.box 133 [.own 1 d.1.lights.length, .li d.1.grp, .own 2 d.1.nxt.length, .li d.1.wt], .row 185 2 false false (Hq d.1.lights), .row 3 1 false false (tI d.1.nxt)])) (fun d => .tup []) (fun d => d.1.lights.length = c.lights.length /\ d.1.wt = c.wt /\ Rf j d.1.nxt) := by
 refine R3 Tryz.func228 ?_
 have hjl := hj.len
 have hjc := hj.con
 have hnl := hn.len
 refine Bq <| .seq ?_
 refine Bq <| .block ?_
 refine Bs c.lights.length (fun i1 (y1 : Unit) => ⟨[(1, .ptr 0 0), (2, .li p), (3, .ptr 3 0), (12, .own 1 c.lights.length), (13, .li c.lights.length), (14, .li i1)], [.box 133 [.own 1 c.lights.length, .li c.grp, .own 2 c.nxt.length, .li c.wt], .row 185 2 false false (Hq c.lights), .row 3 1 false false (tI c.nxt), .box 88 [.mPhase j.phs, .mI j.con, .li j.start]]⟩) (fun i1 y1 => True) () (wk ok0 [0, 1, 2, 3]) (trivial) fun i1 y1 hi1 hy1 => ?_
 refine Bq <| .seq ?_
 refine Br ?_ ?_ <;> intro h15
 ·refine Bp <| .seq <| .block ?_
  obtain ⟨e1, H1⟩ := gx c.lights i1
  refine Bu H1 ?_
  refine B4 (by rfl) fun K1 hK1 => ?_
  simp [go_sem, H1]
  refine RCG ?_
  simp [go_sem, H1]
  first | refine .lo (Hl j.con p i1 (by first | assumption | omega)) rfl (by simp [AV.cln, Ez]) ?_ | refine .skip ?_
  simp [go_sem, H1]
  refine hK1 _ ?_; clear hK1
  refine Br ?_ ?_ <;> intro h28
  ·exact .ret ⟨(⟨c.lights, c.grp, c.nxt, c.wt⟩, false, []), rW H1 [0, 1, 2], ⟨rfl, rfl, hn⟩⟩
  refine Bp <| .H1 H1 ?_
  exact ⟨by omega, (), trivial, wk (cj2 (Dt ((i1 : Int) + 1)) H1) [0, 1, 2, 3]⟩
 refine Bt ?_
 obtain ⟨e2, H2⟩ := gx j.phs p.toNat
 refine Bu H2 ?_
 have hrg := hj.ring e2 (Ac H2)
 obtain ⟨e3, H3⟩ := gx c.lights p.toNat
 refine Bu (cj2 H2 H3) <| .seq ?_
 refine C8 (cj2 H2 H3) ?_
 refine Br ?_ ?_ <;> intro h48
 ·obtain ⟨N, hN, hqN⟩ := Pf j ⟨(c.lights).set p.toNat ⟨1, 0⟩, c.grp, c.nxt, c.wt⟩ e2.grp hj
  refine Cb (fun K kk => by simp [go_sem, H2, H3]; refine .o [0, 1, 2] (hN) ?_; simp [go_sem, H2, H3]; exact kk) ?_
  (try have hnl2 := hqN.2.2.2.len)
  have hw4 := Dt (p + 1 : Int)
  obtain ⟨e5, H5⟩ := gx N.1.nxt e2.ring.toNat
  obtain ⟨Y1, cY1, qY1⟩ := got (M0 j e2.ring e2.grp (p + 1) hj.len)
  refine Co (cj4 H2 H3 hw4 H5) cY1 ?_
  refine ⟨(⟨N.1.lights, N.1.grp, (N.1.nxt).set e2.ring.toNat Y1, N.1.wt⟩, true, N.2), Ag8 [0, 1, 2, 5] (by simp [go_sem]) (by decide) (Fu rfl) (by simp [go_sem, H2, H3, hw4, H5]) ?_, ⟨by dsimp only; rw [hqN.1]; simp, hqN.2.2.1, hqN.2.2.2.set _ qY1⟩⟩
  repeat' (first | exact .nil | refine .cons (by simp [go_sem, H2, H3, hw4, H5]) ?_)
 refine Bp ?_
 (try have hnl2 := hqN.2.2.2.len)
 have hw6 := Dt (p + 1 : Int)
 obtain ⟨e7, H7⟩ := gx c.nxt e2.ring.toNat
 obtain ⟨Y2, cY2, qY2⟩ := got (M0 j e2.ring e2.grp (p + 1) hj.len)
 refine Co (cj4 H2 H3 hw6 H7) cY2 ?_
 refine ⟨(⟨(c.lights).set p.toNat ⟨1, 0⟩, c.grp, (c.nxt).set e2.ring.toNat Y2, c.wt⟩, false, []), Ag8 [0, 1, 2] (by simp [go_sem]) (by decide) (Fu rfl) (by simp [go_sem, H2, H3, hw6, H7]) ?_, ⟨by simp, rfl, hn.set _ qY2⟩⟩
 repeat' (first | exact .nil | refine .cons (by simp [go_sem, H2, H3, hw6, H7]) ?_)
theorem Abx (j : Fr) (c : Mm) (t : Int) (hj : Mn j) (hl : c.lights.length = j.phs.length) (hn : Rf j c.nxt) (h0 : 0 <= t) (h1 : t < j.phs.length) : Cx 203 [.box 133 [.own 1 c.lights.length, .li c.grp, .own 2 c.nxt.length, .li c.wt], .row 185 2 false false (Hq c.lights), .row 3 1 false false (tI c.nxt)] [j.g, .ptr 0 0, .li t] (fun d : Mm × Bool × (List Int) => (bif d.2.1 then [.box 133 [.own 1 d.1.lights.length, .li d.1.grp, .own 3 d.1.nxt.length, .li d.1.wt], .row 185 2 false false (Hq d.1.lights), .row 3 1 false false (tI d.2.2), .row 3 1 false false (tI d.1.nxt)] else [.box 133 [.own 1 d.1.lights.length, .li d.1.grp, .own 2 d.1.nxt.length, .li d.1.wt], .row 185 2 false false (Hq d.1.lights), .row 3 1 false false (tI d.1.nxt)])) (fun d => .tup []) (fun d => d.1.lights.length = c.lights.length /\ d.1.wt = c.wt /\ Rf j d.1.nxt) := by
 refine R3 Tryz.func203 ?_
 have hjl := hj.len
 have hjc := hj.con
 have hnl := hn.len
 refine Bq ?_
 refine Bq <| .block ?_
 refine Bs 2 (fun i1 (y1 : Int × Int × (List Fd) × (List Int) × Bool × (List Int)) => ⟨[(1, .ptr 0 0), (2, .li t), (3, .ptr 3 0), (8, .li i1)], bif y1.2.2.2.2.1 then [.box 133 [.own 1 y1.2.2.1.length, .li y1.1, .own 4 y1.2.2.2.1.length, .li y1.2.1], .row 185 2 false false (Hq y1.2.2.1), .row 3 1 false false (tI y1.2.2.2.2.2), .box 88 [.mPhase j.phs, .mI j.con, .li j.start], .row 3 1 false false (tI y1.2.2.2.1)] else [.box 133 [.own 1 y1.2.2.1.length, .li y1.1, .own 2 y1.2.2.2.1.length, .li y1.2.1], .row 185 2 false false (Hq y1.2.2.1), .row 3 1 false false (tI y1.2.2.2.1), .box 88 [.mPhase j.phs, .mI j.con, .li j.start]]⟩) (fun i1 y1 => y1.2.2.1.length = j.phs.length /\ y1.2.1 = c.wt /\ Rf j y1.2.2.2.1) (c.grp, c.wt, c.lights, c.nxt, false, []) (wk ok0 [0, 1, 2, 3]) (⟨hl, rfl, hn⟩) fun i1 y1 hi1 hy1 => ?_
 cases hb1 : y1.2.2.2.2.1
 ·
  simp only [hb1, cond_false]
  refine Bq <| .seq ?_
  refine Br ?_ ?_ <;> intro h9
  ·refine Bp <| .seq <| .block <| .R <| .seq ?_
   have hnl1 := hy1.2.2.len
   have hll1 := hy1.1
   obtain ⟨Y1, cY1, qY1⟩ := got (Nt j ⟨y1.2.2.1, y1.1, y1.2.2.2.1, y1.2.1⟩ i1 (by first | assumption | omega) (by first | assumption | omega))
   refine Da ok0 cY1 ?_
   refine Br ?_ ?_ <;> intro h17
   ·refine Bt <| .R1 ?_
    refine ⟨by omega, (y1.1, y1.2.1, y1.2.2.1, y1.2.2.2.1, false, []), ?_, wk (Dt ((i1 : Int) + 1)) [0, 1, 2, 3]⟩
    first | exact hy1 | exact ⟨by dsimp only; rw [hqN.1]; exact hy1.1, hqN.2.1.trans hy1.2.1, hqN.2.2⟩
   refine Bp <| .R <| .seq ?_
   obtain ⟨e1, H1⟩ := gx j.phs t.toNat
   refine Bu H1 ?_
   refine Br ?_ ?_ <;> intro h26
   ·have hri : 0 <= (i1 : Int) /\ (i1 : Int) < 2 := by omega
    obtain ⟨Y2, cY2, qY2⟩ := got (Rk j ⟨y1.2.2.1, y1.1, y1.2.2.2.1, y1.2.1⟩ i1 t hj.len hnl1 hri hj.con)
    have hvc := cY2
    have hqc := qY2
    generalize Y2 = Q at hvc hqc
    refine Co H1 (hvc) ?_
    refine Bu H1 ?_
    refine Br ?_ ?_ <;> intro h35
    ·have hp : 0 <= Q /\ Q < j.phs.length := by first | exact ⟨h0, h1⟩ | (rcases hqc with hqc | hqc; exact absurd hqc h35; exact hqc)
     obtain ⟨⟨N, b, o⟩, hN, hqN⟩ := Ic j ⟨y1.2.2.1, y1.1, y1.2.2.2.1, y1.2.1⟩ Q hj (by first | exact hy1.1 | exact hl) (by first | exact hy1.2.2 | exact hn) hp.1 hp.2
     by_cases hc9 : b = true
     ·subst hc9
      simp only [cond_true] at hN hqN
      refine Cb (fun K kk => by simp [go_sem, H1]; refine .o [0, 1, 2] (hN) ?_; simp [go_sem, H1]; exact kk) ?_
      refine B0 H1 ?_
      refine ⟨by omega, (N.grp, N.wt, N.lights, N.nxt, true, o), ?_, wk (cj2 (Dt ((i1 : Int) + 1)) H1) [0, 1, 2, 3, 4]⟩
      first | exact hy1 | exact ⟨by dsimp only; rw [hqN.1]; exact hy1.1, hqN.2.1.trans hy1.2.1, hqN.2.2⟩
     have hc9 : b = false := by simpa using hc9
     subst hc9
     simp only [cond_false] at hN hqN
     refine Cb (fun K kk => by simp [go_sem, H1]; refine .o [0, 1, 2] (hN) ?_; simp [go_sem, H1]; exact kk) ?_
     refine B0 H1 ?_
     refine ⟨by omega, (N.grp, N.wt, N.lights, N.nxt, false, []), ?_, wk (cj2 (Dt ((i1 : Int) + 1)) H1) [0, 1, 2, 3]⟩
     first | exact hy1 | exact ⟨by dsimp only; rw [hqN.1]; exact hy1.1, hqN.2.1.trans hy1.2.1, hqN.2.2⟩
    refine Bp <| .H1 H1 ?_
    refine ⟨by omega, (y1.1, y1.2.1, y1.2.2.1, y1.2.2.2.1, false, []), ?_, wk (cj2 (Dt ((i1 : Int) + 1)) H1) [0, 1, 2, 3]⟩
    first | exact hy1 | exact ⟨by dsimp only; rw [hqN.1]; exact hy1.1, hqN.2.1.trans hy1.2.1, hqN.2.2⟩
   refine Bp <| .H H1 ?_
   refine Br ?_ ?_ <;> intro h35
   ·have hp : 0 <= t /\ t < j.phs.length := by first | exact ⟨h0, h1⟩ | (rcases hqc with hqc | hqc; exact absurd hqc h35; exact hqc)
    obtain ⟨⟨N, b, o⟩, hN, hqN⟩ := Ic j ⟨y1.2.2.1, y1.1, y1.2.2.2.1, y1.2.1⟩ t hj (by first | exact hy1.1 | exact hl) (by first | exact hy1.2.2 | exact hn) hp.1 hp.2
    by_cases hc9 : b = true
    ·subst hc9
     simp only [cond_true] at hN hqN
     refine Cb (fun K kk => by simp [go_sem, H1]; refine .o [0, 1, 2] (hN) ?_; simp [go_sem, H1]; exact kk) ?_
     refine B0 H1 ?_
     refine ⟨by omega, (N.grp, N.wt, N.lights, N.nxt, true, o), ?_, wk (cj2 (Dt ((i1 : Int) + 1)) H1) [0, 1, 2, 3, 4]⟩
     first | exact hy1 | exact ⟨by dsimp only; rw [hqN.1]; exact hy1.1, hqN.2.1.trans hy1.2.1, hqN.2.2⟩
    have hc9 : b = false := by simpa using hc9
    subst hc9
    simp only [cond_false] at hN hqN
    refine Cb (fun K kk => by simp [go_sem, H1]; refine .o [0, 1, 2] (hN) ?_; simp [go_sem, H1]; exact kk) ?_
    refine B0 H1 ?_
    refine ⟨by omega, (N.grp, N.wt, N.lights, N.nxt, false, []), ?_, wk (cj2 (Dt ((i1 : Int) + 1)) H1) [0, 1, 2, 3]⟩
    first | exact hy1 | exact ⟨by dsimp only; rw [hqN.1]; exact hy1.1, hqN.2.1.trans hy1.2.1, hqN.2.2⟩
   refine Bp <| .H1 H1 ?_
   refine ⟨by omega, (y1.1, y1.2.1, y1.2.2.1, y1.2.2.2.1, false, []), ?_, wk (cj2 (Dt ((i1 : Int) + 1)) H1) [0, 1, 2, 3]⟩
   first | exact hy1 | exact ⟨by dsimp only; rw [hqN.1]; exact hy1.1, hqN.2.1.trans hy1.2.1, hqN.2.2⟩
  refine Bt ?_
  refine ⟨(⟨y1.2.2.1, y1.1, y1.2.2.2.1, y1.2.1⟩, false, []), Ag8 [0, 1, 2] (by simp [go_sem]) (by decide) (Fu rfl) (by simp [go_sem]) ?_, ⟨hy1.1.trans hl.symm, hy1.2⟩⟩
  repeat' (first | exact .nil | refine .cons (by simp [go_sem]) ?_)
 -- the row is a new one
 simp only [hb1, cond_true]
 refine Bq <| .seq ?_
 refine Br ?_ ?_ <;> intro h9
 ·refine Bp <| .seq <| .block <| .R <| .seq ?_
  have hnl1 := hy1.2.2.len
  have hll1 := hy1.1
  obtain ⟨Y3, cY3, qY3⟩ := got (Nt j ⟨y1.2.2.1, y1.1, y1.2.2.2.1, y1.2.1⟩ i1 (by first | assumption | omega) (by first | assumption | omega))
  refine Da ok0 cY3 ?_
  refine Br ?_ ?_ <;> intro h17
  ·refine Bt <| .R1 ?_
   refine ⟨by omega, (y1.1, y1.2.1, y1.2.2.1, y1.2.2.2.1, true, y1.2.2.2.2.2), ?_, wk (Dt ((i1 : Int) + 1)) [0, 1, 2, 3, 4]⟩
   first | exact hy1 | exact ⟨by dsimp only; rw [hqN.1]; exact hy1.1, hqN.2.1.trans hy1.2.1, hqN.2.2⟩
  refine Bp <| .R <| .seq ?_
  obtain ⟨e2, H2⟩ := gx j.phs t.toNat
  refine Bu H2 ?_
  refine Br ?_ ?_ <;> intro h26
  ·have hri : 0 <= (i1 : Int) /\ (i1 : Int) < 2 := by omega
   obtain ⟨Y4, cY4, qY4⟩ := got (Rk j ⟨y1.2.2.1, y1.1, y1.2.2.2.1, y1.2.1⟩ i1 t hj.len hnl1 hri hj.con)
   have hvc := cY4
   have hqc := qY4
   generalize Y4 = Q at hvc hqc
   refine Co H2 (hvc) ?_
   refine Bu H2 ?_
   refine Br ?_ ?_ <;> intro h35
   ·have hp : 0 <= Q /\ Q < j.phs.length := by first | exact ⟨h0, h1⟩ | (rcases hqc with hqc | hqc; exact absurd hqc h35; exact hqc)
    obtain ⟨⟨N, b, o⟩, hN, hqN⟩ := Ic j ⟨y1.2.2.1, y1.1, y1.2.2.2.1, y1.2.1⟩ Q hj (by first | exact hy1.1 | exact hl) (by first | exact hy1.2.2 | exact hn) hp.1 hp.2
    by_cases hc9 : b = true
    ·subst hc9
     simp only [cond_true] at hN hqN
     refine Cb (fun K kk => by simp [go_sem, H2]; refine .o [0, 1, 4] (hN) ?_; simp [go_sem, H2]; exact kk) ?_
     refine B0 H2 ?_
     refine ⟨by omega, (N.grp, N.wt, N.lights, N.nxt, true, y1.2.2.2.2.2), ?_, wk (cj2 (Dt ((i1 : Int) + 1)) H2) [0, 1, 2, 3, 5]⟩
     first | exact hy1 | exact ⟨by dsimp only; rw [hqN.1]; exact hy1.1, hqN.2.1.trans hy1.2.1, hqN.2.2⟩
    have hc9 : b = false := by simpa using hc9
    subst hc9
    simp only [cond_false] at hN hqN
    refine Cb (fun K kk => by simp [go_sem, H2]; refine .o [0, 1, 4] (hN) ?_; simp [go_sem, H2]; exact kk) ?_
    refine B0 H2 ?_
    refine ⟨by omega, (N.grp, N.wt, N.lights, N.nxt, true, y1.2.2.2.2.2), ?_, wk (cj2 (Dt ((i1 : Int) + 1)) H2) [0, 1, 2, 3, 4]⟩
    first | exact hy1 | exact ⟨by dsimp only; rw [hqN.1]; exact hy1.1, hqN.2.1.trans hy1.2.1, hqN.2.2⟩
   refine Bp <| .H1 H2 ?_
   refine ⟨by omega, (y1.1, y1.2.1, y1.2.2.1, y1.2.2.2.1, true, y1.2.2.2.2.2), ?_, wk (cj2 (Dt ((i1 : Int) + 1)) H2) [0, 1, 2, 3, 4]⟩
   first | exact hy1 | exact ⟨by dsimp only; rw [hqN.1]; exact hy1.1, hqN.2.1.trans hy1.2.1, hqN.2.2⟩
  refine Bp <| .H H2 ?_
  refine Br ?_ ?_ <;> intro h35
  ·have hp : 0 <= t /\ t < j.phs.length := by first | exact ⟨h0, h1⟩ | (rcases hqc with hqc | hqc; exact absurd hqc h35; exact hqc)
   obtain ⟨⟨N, b, o⟩, hN, hqN⟩ := Ic j ⟨y1.2.2.1, y1.1, y1.2.2.2.1, y1.2.1⟩ t hj (by first | exact hy1.1 | exact hl) (by first | exact hy1.2.2 | exact hn) hp.1 hp.2
   by_cases hc9 : b = true
   ·subst hc9
    simp only [cond_true] at hN hqN
    refine Cb (fun K kk => by simp [go_sem, H2]; refine .o [0, 1, 4] (hN) ?_; simp [go_sem, H2]; exact kk) ?_
    refine B0 H2 ?_
    refine ⟨by omega, (N.grp, N.wt, N.lights, N.nxt, true, y1.2.2.2.2.2), ?_, wk (cj2 (Dt ((i1 : Int) + 1)) H2) [0, 1, 2, 3, 5]⟩
    first | exact hy1 | exact ⟨by dsimp only; rw [hqN.1]; exact hy1.1, hqN.2.1.trans hy1.2.1, hqN.2.2⟩
   have hc9 : b = false := by simpa using hc9
   subst hc9
   simp only [cond_false] at hN hqN
   refine Cb (fun K kk => by simp [go_sem, H2]; refine .o [0, 1, 4] (hN) ?_; simp [go_sem, H2]; exact kk) ?_
   refine B0 H2 ?_
   refine ⟨by omega, (N.grp, N.wt, N.lights, N.nxt, true, y1.2.2.2.2.2), ?_, wk (cj2 (Dt ((i1 : Int) + 1)) H2) [0, 1, 2, 3, 4]⟩
   first | exact hy1 | exact ⟨by dsimp only; rw [hqN.1]; exact hy1.1, hqN.2.1.trans hy1.2.1, hqN.2.2⟩
  refine Bp <| .H1 H2 ?_
  refine ⟨by omega, (y1.1, y1.2.1, y1.2.2.1, y1.2.2.2.1, true, y1.2.2.2.2.2), ?_, wk (cj2 (Dt ((i1 : Int) + 1)) H2) [0, 1, 2, 3, 4]⟩
  first | exact hy1 | exact ⟨by dsimp only; rw [hqN.1]; exact hy1.1, hqN.2.1.trans hy1.2.1, hqN.2.2⟩
 refine Bt ?_
 refine ⟨(⟨y1.2.2.1, y1.1, y1.2.2.2.1, y1.2.1⟩, true, y1.2.2.2.2.2), Ag8 [0, 1, 2, 4] (by simp [go_sem]) (by decide) (Fu rfl) (by simp [go_sem]) ?_, ⟨hy1.1.trans hl.symm, hy1.2⟩⟩
 repeat' (first | exact .nil | refine .cons (by simp [go_sem]) ?_)
theorem Tq (j : Fr) (hj : Mn j) : Ct 222 [j.g] (fun d : Int => .li d) (fun d => 1 <= d /\ d <= 4) := by
 refine Ek Tryz.func222 ?_
 have hjl := hj.len
 refine Bq ?_
 refine Bq <| .seq ?_
 refine Bq <| .block ?_
 refine Bs j.phs.length (fun i1 (y1 : Int) => ⟨[(3, .li y1), (7, .mPhase j.phs), (8, .li j.phs.length), (9, .li i1)], []⟩) (fun i1 y1 => 0 <= y1 /\ y1 <= 4 /\ (0 < i1 -> 1 <= y1)) (0) (wk ok0 []) (⟨by omega, by omega, fun h => by omega⟩) fun i1 y1 hi1 hy1 => ?_
 refine Bq <| .seq ?_
 refine Br ?_ ?_ <;> intro h10
 ·refine Bp <| .seq <| .block ?_
  obtain ⟨e1, H1⟩ := gx j.phs i1
  refine Bu H1 ?_
  have hg := hj.grp e1 (Ac H1)
  have hw2 := Dt (e1.grp + 1 : Int)
  refine B0 (cj2 H1 hw2) ?_
  refine B0 (cj2 H1 hw2) ?_
  refine ⟨by omega, ((if y1 < (e1.grp + 1) then (e1.grp + 1) else y1)), ?_, wk (cj3 (Dt ((i1 : Int) + 1)) H1 hw2) []⟩
  (split <;> omega)
 refine Bt <| .R ?_
 exact .ret (fin ok0 y1 (by have := hj.pos; omega))
theorem Aby (j : Fr) (c : Mm) (hj : Mn j) (hl : c.lights.length = j.phs.length) (hn : Rf j c.nxt) : Cx 204 [.box 133 [.own 1 c.lights.length, .li c.grp, .own 2 c.nxt.length, .li c.wt], .row 185 2 false false (Hq c.lights), .row 3 1 false false (tI c.nxt)] [j.g, .ptr 0 0] (fun d : Mm × Bool × (List Int) => (bif d.2.1 then [.box 133 [.own 1 d.1.lights.length, .li d.1.grp, .own 3 d.1.nxt.length, .li d.1.wt], .row 185 2 false false (Hq d.1.lights), .row 3 1 false false (tI d.2.2), .row 3 1 false false (tI d.1.nxt)] else [.box 133 [.own 1 d.1.lights.length, .li d.1.grp, .own 2 d.1.nxt.length, .li d.1.wt], .row 185 2 false false (Hq d.1.lights), .row 3 1 false false (tI d.1.nxt)])) (fun d => .tup []) (fun d => d.1.lights.length = c.lights.length /\ d.1.wt = c.wt /\ Rf j d.1.nxt) := by
 refine R3 Tryz.func204 ?_
 have hjl := hj.len
 have hjc := hj.con
 have hnl := hn.len
 have hll : c.lights.length <= 1000000 := by omega
 refine Bq ?_
 obtain ⟨Y1, cY1, qY1⟩ := got (Vq c hll)
 refine B8 ok0 cY1 <| .seq ?_
 refine Bq <| .block ?_
 refine Bs c.nxt.length (fun i1 (y1 : Bool) => ⟨[(1, .ptr 0 0), (2, .ptr 3 0), (4, .lb y1), (15, .own 2 c.nxt.length), (16, .li c.nxt.length), (17, .li i1)], [.box 133 [.own 1 c.lights.length, .li c.grp, .own 2 c.nxt.length, .li c.wt], .row 185 2 false false (Hq c.lights), .row 3 1 false false (tI c.nxt), .box 88 [.mPhase j.phs, .mI j.con, .li j.start]]⟩) (fun i1 y1 => True) (Y1) (wk ok0 [0, 1, 2, 3]) (trivial) fun i1 y1 hi1 hy1 => ?_
 refine Bq <| .seq ?_
 refine Br ?_ ?_ <;> intro h18
 ·refine Bp <| .seq <| .block ?_
  obtain ⟨e1, H1⟩ := gx c.nxt i1
  refine Bu H1 ?_
  refine Bu H1 ?_
  refine Br ?_ ?_ <;> intro h22
  ·refine B0 H1 ?_
   refine B0 H1 ?_
   exact ⟨by omega, (false), trivial, wk (cj2 (Dt ((i1 : Int) + 1)) H1) [0, 1, 2, 3]⟩
  refine Bp <| .H1 H1 ?_
  exact ⟨by omega, (y1), trivial, wk (cj2 (Dt ((i1 : Int) + 1)) H1) [0, 1, 2, 3]⟩
 refine Bt <| .seq <| .R ?_
 refine Br ?_ ?_ <;> intro h24
 ·obtain ⟨Y2, cY2, qY2⟩ := got (Tq j hj)
  have hvg := cY2
  have hqg := qY2
  generalize Y2 = G at hvg hqg
  obtain ⟨E, hE, hqE⟩ := Pf j ⟨c.lights, c.grp, c.nxt, c.wt⟩ (Int.tmod (IntKind.i64.wrap (c.grp + 1)) G) hj
  refine De (fun K kk => by simp [go_sem]; refine .l (hvg) ?_; simp [go_sem]; (repeat refine aK ?_); refine .o [0, 1, 2] (hE) ?_; simp [go_sem]; exact kk) ?_
  refine Bq <| .block ?_
  refine Bs 2 (fun i2 (y2 : Int × Int × (List Fd) × (List Int) × (List Int)) => ⟨[(1, .ptr 0 0), (2, .ptr 3 0), (36, .li i2)], [.box 133 [.own 1 y2.2.2.1.length, .li y2.1, .own 4 y2.2.2.2.2.length, .li y2.2.1], .row 185 2 false false (Hq y2.2.2.1), .row 3 1 false false (tI y2.2.2.2.1), .box 88 [.mPhase j.phs, .mI j.con, .li j.start], .row 3 1 false false (tI y2.2.2.2.2)]⟩) (fun i2 y2 => y2.2.2.1.length = j.phs.length /\ y2.2.1 = c.wt /\ Rf j y2.2.2.2.2) (E.1.grp, E.1.wt, E.1.lights, E.2, E.1.nxt) (wk ok0 [0, 1, 2, 3, 4]) (⟨by rw [hqE.1]; exact hl, hqE.2.2.1, hqE.2.2.2⟩) fun i2 y2 hi2 hy2 => ?_
  refine Bq <| .seq ?_
  refine Br ?_ ?_ <;> intro h37
  ·refine Bp <| .seq <| .block <| .R ?_
   first | (have hnl1 := hy2.2.2.len; have hll1 := hy2.1) | (have hnl1 := hy3.2.2.len; have hll1 := hy3.1)
   obtain ⟨e2, H2⟩ := gx y2.2.2.2.2 i2
   obtain ⟨Y3, cY3, qY3⟩ := got (Nt j ⟨y2.2.2.1, y2.1, y2.2.2.2.2, y2.2.1⟩ i2 (by first | assumption | omega) (by first | assumption | omega))
   refine Da H2 cY3 ?_
   refine Br ?_ ?_ <;> intro h54
   ·have hp : 0 <= e2 /\ e2 < j.phs.length := by (have hq := Rf.ok (by first | exact hy3.2.2 | exact hy2.2.2) _ (Ac H2); rcases hq with hq | hq; exact absurd hq h54.2; exact hq)
    obtain ⟨⟨N, b, o⟩, hN, hqN⟩ := Ic j ⟨y2.2.2.1, y2.1, y2.2.2.2.2, y2.2.1⟩ e2 hj (by first | exact hy3.1 | exact hy2.1) (by first | exact hy3.2.2 | exact hy2.2.2) hp.1 hp.2
    by_cases hc14 : b = true
    ·subst hc14
     simp only [cond_true] at hN hqN
     refine De (fun K kk => by simp [go_sem, H2]; (repeat refine aK ?_); refine .o [0, 1, 4] (hN) ?_; simp [go_sem, H2]; exact kk) ?_
     refine B0 H2 ?_
     refine ⟨by omega, (N.grp, N.wt, N.lights, y2.2.2.2.1, N.nxt), ?_, wk (cj2 (Dt ((i2 : Int) + 1)) H2) [0, 1, 2, 3, 5]⟩
     first | exact hy2 | exact ⟨by dsimp only; rw [hqN.1]; exact hy2.1, hqN.2.1.trans hy2.2.1, hqN.2.2⟩
    have hc14 : b = false := by simpa using hc14
    subst hc14
    simp only [cond_false] at hN hqN
    refine De (fun K kk => by simp [go_sem, H2]; (repeat refine aK ?_); refine .o [0, 1, 4] (hN) ?_; simp [go_sem, H2]; exact kk) ?_
    refine B0 H2 ?_
    refine ⟨by omega, (N.grp, N.wt, N.lights, y2.2.2.2.1, N.nxt), ?_, wk (cj2 (Dt ((i2 : Int) + 1)) H2) [0, 1, 2, 3, 4]⟩
    first | exact hy2 | exact ⟨by dsimp only; rw [hqN.1]; exact hy2.1, hqN.2.1.trans hy2.2.1, hqN.2.2⟩
   refine Bp <| .H1 H2 ?_
   refine ⟨by omega, (y2.1, y2.2.1, y2.2.2.1, y2.2.2.2.1, y2.2.2.2.2), ?_, wk (cj2 (Dt ((i2 : Int) + 1)) H2) [0, 1, 2, 3, 4]⟩
   first | exact hy2 | exact ⟨by dsimp only; rw [hqN.1]; exact hy2.1, hqN.2.1.trans hy2.2.1, hqN.2.2⟩
  refine Bt ?_
  refine ⟨(⟨y2.2.2.1, y2.1, y2.2.2.2.2, y2.2.1⟩, true, y2.2.2.2.1), Ag8 [0, 1, 2, 4] (by simp [go_sem]) (by decide) (Fu rfl) (by simp [go_sem]) ?_, ⟨hy2.1.trans hl.symm, hy2.2⟩⟩
  repeat' (first | exact .nil | refine .cons (by simp [go_sem]) ?_)
 refine Bp <| .R <| .block ?_
 refine Bs 2 (fun i3 (y3 : Int × Int × (List Fd) × (List Int) × Bool × (List Int)) => ⟨[(1, .ptr 0 0), (2, .ptr 3 0), (36, .li i3)], bif y3.2.2.2.2.1 then [.box 133 [.own 1 y3.2.2.1.length, .li y3.1, .own 4 y3.2.2.2.1.length, .li y3.2.1], .row 185 2 false false (Hq y3.2.2.1), .row 3 1 false false (tI y3.2.2.2.2.2), .box 88 [.mPhase j.phs, .mI j.con, .li j.start], .row 3 1 false false (tI y3.2.2.2.1)] else [.box 133 [.own 1 y3.2.2.1.length, .li y3.1, .own 2 y3.2.2.2.1.length, .li y3.2.1], .row 185 2 false false (Hq y3.2.2.1), .row 3 1 false false (tI y3.2.2.2.1), .box 88 [.mPhase j.phs, .mI j.con, .li j.start]]⟩) (fun i3 y3 => y3.2.2.1.length = j.phs.length /\ y3.2.1 = c.wt /\ Rf j y3.2.2.2.1) (c.grp, c.wt, c.lights, c.nxt, false, []) (wk ok0 [0, 1, 2, 3]) (⟨hl, rfl, hn⟩) fun i3 y3 hi3 hy3 => ?_
 cases hb3 : y3.2.2.2.2.1
 ·
  simp only [hb3, cond_false]
  refine Bq <| .seq ?_
  refine Br ?_ ?_ <;> intro h37
  ·refine Bp <| .seq <| .block <| .R ?_
   first | (have hnl1 := hy2.2.2.len; have hll1 := hy2.1) | (have hnl1 := hy3.2.2.len; have hll1 := hy3.1)
   obtain ⟨e3, H3⟩ := gx y3.2.2.2.1 i3
   obtain ⟨Y4, cY4, qY4⟩ := got (Nt j ⟨y3.2.2.1, y3.1, y3.2.2.2.1, y3.2.1⟩ i3 (by first | assumption | omega) (by first | assumption | omega))
   refine Da H3 cY4 ?_
   refine Br ?_ ?_ <;> intro h54
   ·have hp : 0 <= e3 /\ e3 < j.phs.length := by (have hq := Rf.ok (by first | exact hy3.2.2 | exact hy2.2.2) _ (Ac H3); rcases hq with hq | hq; exact absurd hq h54.2; exact hq)
    obtain ⟨⟨N, b, o⟩, hN, hqN⟩ := Ic j ⟨y3.2.2.1, y3.1, y3.2.2.2.1, y3.2.1⟩ e3 hj (by first | exact hy3.1 | exact hy2.1) (by first | exact hy3.2.2 | exact hy2.2.2) hp.1 hp.2
    by_cases hc14 : b = true
    ·subst hc14
     simp only [cond_true] at hN hqN
     refine De (fun K kk => by simp [go_sem, H3]; (repeat refine aK ?_); refine .o [0, 1, 2] (hN) ?_; simp [go_sem, H3]; exact kk) ?_
     refine B0 H3 ?_
     refine ⟨by omega, (N.grp, N.wt, N.lights, N.nxt, true, o), ?_, wk (cj2 (Dt ((i3 : Int) + 1)) H3) [0, 1, 2, 3, 4]⟩
     first | exact hy3 | exact ⟨by dsimp only; rw [hqN.1]; exact hy3.1, hqN.2.1.trans hy3.2.1, hqN.2.2⟩
    have hc14 : b = false := by simpa using hc14
    subst hc14
    simp only [cond_false] at hN hqN
    refine De (fun K kk => by simp [go_sem, H3]; (repeat refine aK ?_); refine .o [0, 1, 2] (hN) ?_; simp [go_sem, H3]; exact kk) ?_
    refine B0 H3 ?_
    refine ⟨by omega, (N.grp, N.wt, N.lights, N.nxt, false, []), ?_, wk (cj2 (Dt ((i3 : Int) + 1)) H3) [0, 1, 2, 3]⟩
    first | exact hy3 | exact ⟨by dsimp only; rw [hqN.1]; exact hy3.1, hqN.2.1.trans hy3.2.1, hqN.2.2⟩
   refine Bp <| .H1 H3 ?_
   refine ⟨by omega, (y3.1, y3.2.1, y3.2.2.1, y3.2.2.2.1, false, []), ?_, wk (cj2 (Dt ((i3 : Int) + 1)) H3) [0, 1, 2, 3]⟩
   first | exact hy3 | exact ⟨by dsimp only; rw [hqN.1]; exact hy3.1, hqN.2.1.trans hy3.2.1, hqN.2.2⟩
  refine Bt ?_
  refine ⟨(⟨y3.2.2.1, y3.1, y3.2.2.2.1, y3.2.1⟩, false, []), Ag8 [0, 1, 2] (by simp [go_sem]) (by decide) (Fu rfl) (by simp [go_sem]) ?_, ⟨hy3.1.trans hl.symm, hy3.2⟩⟩
  repeat' (first | exact .nil | refine .cons (by simp [go_sem]) ?_)
 -- the row is a new one
 simp only [hb3, cond_true]
 refine Bq <| .seq ?_
 refine Br ?_ ?_ <;> intro h37
 ·refine Bp <| .seq <| .block <| .R ?_
  first | (have hnl1 := hy2.2.2.len; have hll1 := hy2.1) | (have hnl1 := hy3.2.2.len; have hll1 := hy3.1)
  obtain ⟨e4, H4⟩ := gx y3.2.2.2.1 i3
  obtain ⟨Y5, cY5, qY5⟩ := got (Nt j ⟨y3.2.2.1, y3.1, y3.2.2.2.1, y3.2.1⟩ i3 (by first | assumption | omega) (by first | assumption | omega))
  refine Da H4 cY5 ?_
  refine Br ?_ ?_ <;> intro h54
  ·have hp : 0 <= e4 /\ e4 < j.phs.length := by (have hq := Rf.ok (by first | exact hy3.2.2 | exact hy2.2.2) _ (Ac H4); rcases hq with hq | hq; exact absurd hq h54.2; exact hq)
   obtain ⟨⟨N, b, o⟩, hN, hqN⟩ := Ic j ⟨y3.2.2.1, y3.1, y3.2.2.2.1, y3.2.1⟩ e4 hj (by first | exact hy3.1 | exact hy2.1) (by first | exact hy3.2.2 | exact hy2.2.2) hp.1 hp.2
   by_cases hc14 : b = true
   ·subst hc14
    simp only [cond_true] at hN hqN
    refine De (fun K kk => by simp [go_sem, H4]; (repeat refine aK ?_); refine .o [0, 1, 4] (hN) ?_; simp [go_sem, H4]; exact kk) ?_
    refine B0 H4 ?_
    refine ⟨by omega, (N.grp, N.wt, N.lights, N.nxt, true, y3.2.2.2.2.2), ?_, wk (cj2 (Dt ((i3 : Int) + 1)) H4) [0, 1, 2, 3, 5]⟩
    first | exact hy3 | exact ⟨by dsimp only; rw [hqN.1]; exact hy3.1, hqN.2.1.trans hy3.2.1, hqN.2.2⟩
   have hc14 : b = false := by simpa using hc14
   subst hc14
   simp only [cond_false] at hN hqN
   refine De (fun K kk => by simp [go_sem, H4]; (repeat refine aK ?_); refine .o [0, 1, 4] (hN) ?_; simp [go_sem, H4]; exact kk) ?_
   refine B0 H4 ?_
   refine ⟨by omega, (N.grp, N.wt, N.lights, N.nxt, true, y3.2.2.2.2.2), ?_, wk (cj2 (Dt ((i3 : Int) + 1)) H4) [0, 1, 2, 3, 4]⟩
   first | exact hy3 | exact ⟨by dsimp only; rw [hqN.1]; exact hy3.1, hqN.2.1.trans hy3.2.1, hqN.2.2⟩
  refine Bp <| .H1 H4 ?_
  refine ⟨by omega, (y3.1, y3.2.1, y3.2.2.1, y3.2.2.2.1, true, y3.2.2.2.2.2), ?_, wk (cj2 (Dt ((i3 : Int) + 1)) H4) [0, 1, 2, 3, 4]⟩
  first | exact hy3 | exact ⟨by dsimp only; rw [hqN.1]; exact hy3.1, hqN.2.1.trans hy3.2.1, hqN.2.2⟩
 refine Bt ?_
 refine ⟨(⟨y3.2.2.1, y3.1, y3.2.2.2.1, y3.2.1⟩, true, y3.2.2.2.2.2), Ag8 [0, 1, 2, 4] (by simp [go_sem]) (by decide) (Fu rfl) (by simp [go_sem]) ?_, ⟨hy3.1.trans hl.symm, hy3.2⟩⟩
 repeat' (first | exact .nil | refine .cons (by simp [go_sem]) ?_)
end Go.Proofs.YtkkimgjinbaemaaGreat
