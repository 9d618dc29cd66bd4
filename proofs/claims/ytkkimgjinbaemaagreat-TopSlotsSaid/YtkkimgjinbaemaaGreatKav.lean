/- The walk. -/
import Derived.Test.YtkkimgjinbaemaaGreatKau
namespace Go.Proofs.YtkkimgjinbaemaaGreat
open Go.RowKit
set_option linter.unusedVariables false
set_option linter.unusedSimpArgs false
set_option maxRecDepth 100000
set_option maxHeartbeats 4000000
theorem P5 (k : Int) (p : List Int) (h : p.length <= 10000) : ∃ d : List Int × Int, PP 68 [] [.li k, .mY p] [.row 5 1 false false (tY d.1)] (.tup [.own 0 d.1.length, .li d.2]) /\ (d.1.length <= 210 /\ (By p -> By d.1)) := by
 refine Mi (D := List Int × Int) (F := fun d => .tup [.own 0 d.1.length, .li d.2]) (S := fun d => [.row 5 1 false false (tY d.1)]) (Q := fun d => d.1.length <= 210 /\ (By p -> By d.1)) Tryz.func68 rfl rfl rfl (by simp [Tryz.ntmps68]) ?_
 have h7 : (6 + (p.length : Int)).toNat - 2 = p.length + 4 := by omega
 refine Bq <| .seq <| .block ?_
 refine Bq ?_
 refine Br ?_ ?_ <;> intro h9
 ·refine Bq ?_
  refine Cg 4 5 1 (by decide) (k' := 1) (by simp [go_sem]) ?_
  simp [go_sem, -Prod.exists]
  exact .ret ⟨([], 8), rW ok0 [0], (by first | exact ⟨Ae _, fun _ => Mo⟩ | exact ⟨by simp; omega, fun h => (hBy h).app (fun x hx => by simp at hx; rcases hx with rfl | rfl | rfl | rfl <;> exact Ae8 _)⟩)⟩
 refine Bq ?_
 refine Br ?_ ?_ <;> intro h16
 ·refine Bq ?_
  refine Cg 4 5 1 (by decide) (k' := 1) (by simp [go_sem]) ?_
  simp [go_sem, -Prod.exists]
  exact .ret ⟨([], 7), rW ok0 [0], (by first | exact ⟨Ae _, fun _ => Mo⟩ | exact ⟨by simp; omega, fun h => (hBy h).app (fun x hx => by simp at hx; rcases hx with rfl | rfl | rfl | rfl <;> exact Ae8 _)⟩)⟩
 refine Bp <| .R ?_
 refine Bu ok0 ?_
 obtain ⟨B, hBe⟩ : ∃ B, B = (([90, 165, 1, IntKind.u8.wrap k, IntKind.u8.wrap (Int.fdiv p.length (2 ^ min (Int.toNat 8) 64)), IntKind.u8.wrap p.length]) ++ p) := ⟨_, rfl⟩
 have hB : B.length = 6 + p.length := by rw [hBe]; simp; omega
 have hBy : By p -> By B := fun h => by rw [hBe]; exact By.app (fun x hx => by simp at hx; rcases hx with rfl | rfl | rfl | rfl | rfl | rfl <;> first | exact Ae8 _ | omega) h
 refine VX.rowIs 0 (tY B) rfl (by simp [go_sem, hBe]) ?_
 simp [go_sem, -Prod.exists]
 obtain ⟨Y1, cY1, qY1⟩ := got (Rh (B.drop 2) (by simp; omega))
 refine B3 (fun K kk => by simp [go_sem, hB]; (repeat refine aK ?_); refine .lo cY1 (by simp [go_sem, hB, h7]; rw [Bf (by simp; omega)]) (by simp [AV.cln, Ez]) ?_; simp [go_sem, hB]; exact kk) ?_
 refine Bu hB ?_
 exact .ret ⟨(B ++ ([IntKind.u8.wrap (Int.fdiv Y1 (2 ^ min (Int.toNat 24) 32)), IntKind.u8.wrap (Int.fdiv Y1 (2 ^ min (Int.toNat 16) 32)), IntKind.u8.wrap (Int.fdiv Y1 (2 ^ min (Int.toNat 8) 32)), IntKind.u8.wrap Y1]), 0), rW hB [0], (by first | exact ⟨Ae _, fun _ => Mo⟩ | exact ⟨by simp; omega, fun h => (hBy h).app (fun x hx => by simp at hx; rcases hx with rfl | rfl | rfl | rfl <;> exact Ae8 _)⟩)⟩
theorem P4 (m : Dz) (h1 : m.tok.length <= 10000) (h2 : m.args.length <= 10000) (h3 : m.data.length <= 10000) : ∃ d : List Int × Int, PP 46 [] [m.g] [.row 5 1 false false (tY d.1)] (.tup [.own 0 d.1.length, .li d.2]) /\ (d.1.length <= 210 /\ (By m.tok -> By m.data -> By d.1)) := by
 refine Mi (D := List Int × Int) (F := fun d => .tup [.own 0 d.1.length, .li d.2]) (S := fun d => [.row 5 1 false false (tY d.1)]) (Q := fun d => d.1.length <= 210 /\ (By m.tok -> By m.data -> By d.1)) Tryz.func46 rfl rfl rfl (by simp [Tryz.ntmps46]) ?_
 obtain ⟨Y1, cY1, qY1⟩ := got (Pd m h1 h2 h3)
 have hq := qY1
 have hq2 : Y1.1.length <= 10000 := by omega
 obtain ⟨Y2, cY2, qY2⟩ := P5 m.kind Y1.1 hq2
 have hXv := cY2
 have hXq := qY2
 generalize Y2 = X at hXv hXq
 refine Bq ?_
 refine B8 ok0 cY1 <| .seq ?_
 refine Bq ?_
 refine Br ?_ ?_ <;> intro h12
 ·refine Bq ?_
  refine Cg 2 5 1 (by decide) (k' := 1) (by simp [go_sem]) ?_
  simp [go_sem, -Prod.exists]
  exact .ret ⟨([], Y1.2), rW ok0 [1], (by first | exact ⟨Ae _, fun _ _ => Mo⟩ | exact ⟨hXq.1, fun a b => hXq.2 (hq.2 a b)⟩)⟩
 refine Bp <| .L ok0 (hXv) ?_
 exact .ret ⟨(X.1, X.2), rW ok0 [1], (by first | exact ⟨Ae _, fun _ _ => Mo⟩ | exact ⟨hXq.1, fun a b => hXq.2 (hq.2 a b)⟩)⟩
theorem Qw (m : Dz) (h1 : m.tok.length <= 10000) (h2 : m.args.length <= 10000) (h3 : m.data.length <= 10000) : ∃ d : List Int, PP 18 [] [m.g] [.row 5 1 false false (tY d)] (.own 0 d.length) /\ (d.length <= 210 /\ (By m.tok -> By m.data -> By d)) := by
 refine Mi (D := List Int) (F := fun d => .own 0 d.length) (S := fun d => [.row 5 1 false false (tY d)]) (Q := fun d => d.length <= 210 /\ (By m.tok -> By m.data -> By d)) Tryz.func18 rfl rfl rfl (by simp [Tryz.ntmps18]) ?_
 obtain ⟨Y1, cY1, qY1⟩ := P4 m h1 h2 h3
 have hXv := cY1
 have hXq := qY1
 generalize Y1 = X at hXv hXq
 refine Bq ?_
 refine B8 ok0 (hXv) ?_
 refine Bq ?_
 exact .ret ⟨X.1, rW ok0 [1], hXq⟩
theorem Ns (k : Eo) (n : Int) (h : k.l.length <= 300) (h0 : 0 <= k.pos) (h1 : 0 <= n) (h2 : n <= 1000) : Cx 59 [.box 84 (k.a false)] [.ptr 0 0, .li n] (fun d : List Int × Eo => [.box 84 (d.2.a false), .row 5 1 false false (tY d.1)]) (fun d => .own 1 d.1.length) (fun d => d.2.l = k.l /\ 0 <= d.2.pos /\ d.1.length <= n.toNat /\ By d.1) := by
 refine R3 Tryz.func59 ?_
 refine Bq ?_
 refine Bq <| .seq ?_
 obtain ⟨N1, hN1, hq1⟩ := F9 k (n + 1) h h0 (by omega) (by omega)
 have hw1 := Dt (n + 1 : Int)
 refine B3 (fun K kk => by simp [go_sem, hw1]; refine .o [0] (hN1) ?_; simp [go_sem, hw1]; exact kk) <| .block ?_
 refine Cg 5 5 1 (by decide) (k' := 1) (by simp [go_sem]) ?_
 simp [go_sem, -Prod.exists]
 refine Cj (fun (y1 : (List Int) × Int × (List Int) × Int) => ⟨[(0, .ptr 0 0), (5, .own 1 y1.2.2.1.length), (6, .li y1.2.2.2)], [.box 84 [.mI y1.1, .li y1.2.1], .row 5 1 false false (tY y1.2.2.1)]⟩) (fun y1 => y1.1 = k.l /\ k.pos <= y1.2.1 /\ y1.2.2.1.length + y1.2.2.2 <= n /\ 0 <= y1.2.2.2 /\ By y1.2.2.1) (fun y1 => y1.2.2.2.toNat) (N1.2.l, N1.2.pos, [], N1.1) (wk hw1 [0, 1]) (⟨hq1.1, hq1.2.1, by simp; omega, hq1.2.2.1, Mo⟩) fun y1 hy1 => ?_
 refine Ca <| .H hw1 ?_
 refine Br ?_ ?_ <;> intro h12
 ·refine Bp <| .seq <| .block ?_
  obtain ⟨N2, hN2, hq2⟩ := F9 ⟨y1.1, y1.2.1⟩ 256 (by show y1.1.length <= 300; rw [hy1.1]; exact h) (by show 0 <= y1.2.1; omega) (by omega) (by omega)
  dsimp only at hq2
  refine Cb (fun K kk => by simp [go_sem, hw1]; refine .o [0] (hN2) ?_; simp [go_sem, hw1]; (repeat first | exact kk | refine aK ?_)) ?_
  have hw2 := Dt (y1.2.2.2 - 1 : Int)
  refine B0 (cj2 hw1 hw2) ?_
  refine ⟨(N2.2.l, N2.2.pos, y1.2.2.1 ++ ([IntKind.u8.wrap N2.1]), (y1.2.2.2 - 1)), ?_, ?_, [0, 1], Ds (by decide) ?_ ?_, by simp⟩
  ·dsimp only; omega
  ·exact ⟨hq2.1.trans hy1.1, by dsimp only; omega, by simp; omega, by dsimp only; omega, hy1.2.2.2.2.app (Qq _)⟩
  all_goals simp [go_sem, hw1, hw2]
 refine Bt <| .H hw1 ?_
 exact .ret ⟨(y1.2.2.1, ⟨y1.1, y1.2.1⟩), rW hw1 [0, 1], ⟨hy1.1, by have := hy1.2.1; dsimp only; omega, by dsimp only; omega, hy1.2.2.2.2⟩⟩
theorem My (k : Eo) (c : Fa) (l : List Int) (h : k.l.length <= 300) (h0 : 0 <= k.pos) (hj : 1 <= c.juns.length /\ c.juns.length <= 2) (hp : ∀ j ∈ c.juns, j.phs.length <= 8 /\ 1 <= j.phs.length) (hl : l.length <= 1000) : Cx 45 [.box 84 [.mI k.l, .li k.pos], .row 3 1 true false (tI l)] [.ptr 0 0, c.g, .own 1 l.length] (fun d : List Int × Eo => [.box 84 (d.2.a false), .row 3 1 false false (tI d.1)]) (fun d => .own 1 d.1.length) (fun d => d.2.l = k.l /\ 0 <= d.2.pos /\ d.1.length <= l.length + 8) := by
 refine R3 Tryz.func45 ?_
 refine Cu 1 rfl ?_
 simp [go_sem, -Prod.exists]
 refine Bq ?_
 obtain ⟨D1, hD1, hd1, hl1, hp1⟩ := dN k 2
 have hw1 := Dt (1 + D1.1)
 refine B3 (fun K kk => by simp [go_sem, hw1]; refine .o [0] (hD1) ?_; simp [go_sem, hw1]; exact kk) <| .seq ?_
 refine Bq <| .block ?_
 refine Bs ((1 + D1.1).toNat) (fun i1 (y1 : (List Int) × Int × (List Int)) => ⟨[(0, .ptr 0 0), (2, .own 1 y1.2.2.length), (4, .ptr 2 0), (15, .li (1 + D1.1)), (16, .li i1)], [.box 84 [.mI y1.1, .li y1.2.1], .row 3 1 false false (tI y1.2.2), .box 30 [.mJun c.juns, .mAg c.ags, .li c.per, .li c.cap, .li c.hold, .li c.lock]]⟩) (fun i1 y1 => y1.1 = k.l /\ 0 <= y1.2.1 /\ y1.2.2.length = l.length + 4 * i1) (D1.2.l, D1.2.pos, l) (wk ok0 [0, 1, 2]) (⟨hd1.1, hp1, by simp⟩) fun i1 y1 hi1 hy1 => ?_
 refine Bq <| .seq ?_
 refine Br ?_ ?_ <;> intro h17
 ·refine Bp <| .seq <| .block <| .R ?_
  have hyl : (⟨y1.1, y1.2.1⟩ : Eo).l.length <= 300 := by show y1.1.length <= 300; rw [hy1.1]; exact h
  have hyp : 0 <= (⟨y1.1, y1.2.1⟩ : Eo).pos := hy1.2.1
  obtain ⟨D2, hD2, hd2, hl2, hp2⟩ := dN ⟨y1.1, y1.2.1⟩ 3
  obtain ⟨D3, hD3, hd3, hl3, hp3⟩ := dN D2.2 12
  have hE : 0 <= Int.tdiv D3.1 11 /\ Int.tdiv D3.1 11 <= 1 := by rw [Int.tdiv_eq_ediv_of_nonneg (by omega)]; omega
  have hq1 := Dt (D2.1 + i1)
  have hq2 := Dt (Int.tdiv D3.1 11)
  have hq3 := Dt ((c.juns.length : Int) + Int.tdiv D3.1 11)
  obtain ⟨JJ, hJJ⟩ : ∃ JJ, Int.tmod (D2.1 + i1) (if 1 < (c.juns.length : Int) + Int.tdiv D3.1 11 then (c.juns.length : Int) + Int.tdiv D3.1 11 else 1) = JJ := ⟨_, rfl⟩
  have hJ0 : 0 <= JJ := by rw [<- hJJ]; exact Int.tmod_nonneg _ (by omega)
  refine C9 (by kernel_rfl) (by rfl) (by kernel_rfl) fun K1 hK1 => ?_
  simp [go_sem, hq1, hq2, hq3, hJJ]
  refine .o [0] (hD2) ?_
  simp [go_sem, hq1, hq2, hq3, hJJ]
  refine .o [0] (hD3) ?_
  simp [go_sem, hq1, hq2, hq3, hJJ]
  repeat' with_reducible refine Ax ?_ ?_
  all_goals try (intros; (repeat' refine Ax ?_ ?_) <;> omega)
  all_goals try (split <;> omega)
  refine hK1 _ _ (by kernel_rfl) ?_; clear hK1
  refine Bq <| .seq ?_
  refine Bq ?_
  refine Br ?_ ?_ <;> intro h36
  ·obtain ⟨e1, H1⟩ := gx c.juns JJ.toNat
   refine B0 H1 ?_
   obtain ⟨D4, hD4, hd4, hl4, hp4⟩ := dN D3.2 3
   refine B3 (fun K kk => by simp [go_sem, H1]; refine .o [0] (hD4) ?_; simp [go_sem, H1]; exact kk) ?_
   obtain ⟨D5, hD5, hd5, hl5, hp5⟩ := dN D4.2 12
   have hF : 0 <= Int.tdiv D5.1 11 /\ Int.tdiv D5.1 11 <= 1 := by rw [Int.tdiv_eq_ediv_of_nonneg (by omega)]; omega
   have hq4 := Dt (Int.tdiv D5.1 11)
   have hpb : 1 <= (e1.phs.length : Int) /\ (e1.phs.length : Int) <= 8 := by first | (have := hp e1 (Ac H1); omega) | omega
   obtain ⟨PN, hPN⟩ : ∃ PN, ((e1.phs.length : Int) + Int.tdiv D5.1 11) = PN := ⟨_, rfl⟩
   have hq5 := Dt PN
   obtain ⟨D6, hD6, hd6, hl6, hp6⟩ := dN D5.2 PN
   obtain ⟨D7, hD7, hd7, hl7, hp7⟩ := dN D6.2 50
   have hq6 := Dt (D4.1 + D7.1)
   refine Cb (fun K kk => by simp [go_sem, H1, hq4, hq5, hPN, hq6]; refine .o [0] (hD5) ?_; simp [go_sem, H1, hq4, hq5, hPN, hq6]; (repeat refine aK ?_); refine .o [0] (hD6) ?_; simp [go_sem, H1, hq4, hq5, hPN, hq6]; refine .o [0] (hD7) ?_; simp [go_sem, H1, hq4, hq5, hPN, hq6]; (repeat first | exact kk | refine aK ?_)) ?_
   refine B0 H1 ?_
   exact ⟨by omega, (D7.2.l, D7.2.pos, y1.2.2 ++ ([JJ, D6.1, D4.1, (D4.1 + D7.1)])), ⟨by rw [hd7.1, hd6.1, hd5.1, hd4.1, hd3.1, hd2.1]; exact hy1.1, hp7, by simp; omega⟩, wk (cj2 (Dt ((i1 : Int) + 1)) H1) [0, 1, 2]⟩
  refine Bp ?_
  obtain ⟨D4, hD4, hd4, hl4, hp4⟩ := dN D3.2 3
  refine B3 (fun K kk => by simp [go_sem]; refine .o [0] (hD4) ?_; simp [go_sem]; exact kk) ?_
  obtain ⟨D5, hD5, hd5, hl5, hp5⟩ := dN D4.2 12
  have hF : 0 <= Int.tdiv D5.1 11 /\ Int.tdiv D5.1 11 <= 1 := by rw [Int.tdiv_eq_ediv_of_nonneg (by omega)]; omega
  have hq4 := Dt (Int.tdiv D5.1 11)
  have hpb : 1 <= (2 : Int) /\ (2 : Int) <= 8 := by first | (have := hp e1 (Ac H1); omega) | omega
  obtain ⟨PN, hPN⟩ : ∃ PN, ((2 : Int) + Int.tdiv D5.1 11) = PN := ⟨_, rfl⟩
  have hq5 := Dt PN
  obtain ⟨D6, hD6, hd6, hl6, hp6⟩ := dN D5.2 PN
  obtain ⟨D7, hD7, hd7, hl7, hp7⟩ := dN D6.2 50
  have hq6 := Dt (D4.1 + D7.1)
  refine Cb (fun K kk => by simp [go_sem, hq4, hq5, hPN, hq6]; refine .o [0] (hD5) ?_; simp [go_sem, hq4, hq5, hPN, hq6]; (repeat refine aK ?_); refine .o [0] (hD6) ?_; simp [go_sem, hq4, hq5, hPN, hq6]; refine .o [0] (hD7) ?_; simp [go_sem, hq4, hq5, hPN, hq6]; (repeat first | exact kk | refine aK ?_)) ?_
  refine Ci ?_
  exact ⟨by omega, (D7.2.l, D7.2.pos, y1.2.2 ++ ([JJ, D6.1, D4.1, (D4.1 + D7.1)])), ⟨by rw [hd7.1, hd6.1, hd5.1, hd4.1, hd3.1, hd2.1]; exact hy1.1, hp7, by simp; omega⟩, wk (Dt ((i1 : Int) + 1)) [0, 1, 2]⟩
 refine Bt <| .R ?_
 exact .ret ⟨(y1.2.2, ⟨y1.1, y1.2.1⟩), rW ok0 [0, 1], ⟨hy1.1, hy1.2.1, by dsimp only; omega⟩⟩
def MkQ (m : Dz) : Prop := m.tok.length = 10 /\ By m.tok /\ m.args.length <= 20 /\ m.data = []
theorem Ai1 {a s : Int} {n : Int} {h : (Dx n).length <= 1000} : (Eh a s (Dx n) h).length = 10 /\ By (Eh a s (Dx n) h) := by
 have h1 := P6 a s (Dx n) h
 have h2 := Ik n
 exact ⟨by rw [h1.1, h2.1], h1.2 h2.2⟩
theorem Ald {l : List Int} {i : Nat} {e : Int} (h : l[i]? = some e) : (l.map fun x => [T.lit (Value.int IntKind.i64 x)])[i]? = some [T.lit (Value.int IntKind.i64 e)] := by rw [Ap, h]; rfl
theorem Ai9 (n : Int) : (Dx n).length <= 1000 := by rw [(Ik n).1]; decide
theorem Ih (k : Eo) (c : Fa) (ag : Int) (cal : Bool) (h : k.l.length <= 300) (h0 : 0 <= k.pos) (hj : 1 <= c.juns.length /\ c.juns.length <= 2) (hp : ∀ j ∈ c.juns, j.phs.length <= 8 /\ 1 <= j.phs.length) : Cx 17 [.box 84 (k.a false)] [.ptr 0 0, c.g, .li ag, .lb cal] (fun d : Dz × Eo => [.box 84 (d.2.a false)]) (fun d => d.1.g) (fun d => d.2.l = k.l /\ 0 <= d.2.pos /\ MkQ d.1) := by
 refine R3 Tryz.func17 ?_
 refine Bq ?_
 obtain ⟨D1, hD1, hd1, hl1, hp1⟩ := dN k 12
 have hw1 := Dt (1 + D1.1)
 refine B3 (fun K kk => by simp [go_sem, hw1]; refine .o [0] (hD1) ?_; simp [go_sem, hw1]; refine .l (Fw (IntKind.i64.wrap (1000 + ag))) ?_; simp [go_sem, hw1]; refine .lo (Ha ag 0 (Dx (IntKind.i64.wrap (1000 + ag))) (Ai9 _)) rfl (by simp [AV.cln, Ez]) ?_; simp [go_sem, hw1]; exact kk) ?_
 refine VX.cut (fun s => ∃ (DL1 : List Int) (DP1 : Int) (TK : List Int), (DL1 = k.l /\ 0 <= DP1 /\ TK.length = 10 /\ By TK) /\ s = ⟨[(0, .ptr 0 0), (3, .lb cal), (5, .ptr 1 0), (8, .ptr 2 0), (9, .ptr 3 0)], [.box 84 [.mI DL1, .li DP1], .box 30 [.mJun c.juns, .mAg c.ags, .li c.per, .li c.cap, .li c.hold, .li c.lock], .box 56 [.li 0, .nil 1, .nil 1, .nil 1], .box 56 [.li (1 + D1.1), .mY TK, .nil 1, .nil 1]]⟩) ?_ ?_
 ·obtain ⟨D2, hD2, hd2, hl2, hp2⟩ := dN D1.2 9
  refine B3 (fun K kk => by simp [go_sem]; refine .o [0] (hD2) ?_; simp [go_sem]; exact kk) <| .block ?_
  refine Bq ?_
  refine Br ?_ ?_ <;> intro h24
  ·obtain ⟨D3, hD3, hd3, hl3, hp3⟩ := dN D2.2 4
   obtain ⟨D4, hD4, hd4, hl4, hp4⟩ := dN D3.2 3
   refine Cb (fun K kk => by simp [go_sem]; refine .o [0] (hD3) ?_; simp [go_sem]; refine .o [0] (hD4) ?_; simp [go_sem]; refine .l (Fw (IntKind.i64.wrap (IntKind.i64.wrap (2000 + (IntKind.i64.wrap (10 * ag))) + D4.1))) ?_; simp [go_sem]; refine .lo (Ha ag D3.1 (Dx (IntKind.i64.wrap (IntKind.i64.wrap (2000 + (IntKind.i64.wrap (10 * ag))) + D4.1))) (Ai9 _)) rfl (by simp [AV.cln, Ez]) ?_; simp [go_sem]; exact kk) ?_
   refine ⟨[0, 1, 2, 3], _, Ds (by decide) ?_ ?_, by simp, D4.2.l, D4.2.pos, (Eh ag D3.1 (Dx (IntKind.i64.wrap (IntKind.i64.wrap (2000 + (IntKind.i64.wrap (10 * ag))) + D4.1))) (Ai9 _)), ⟨hd4.1.trans (hd3.1.trans (hd2.1.trans hd1.1)), hp4, Ai1.1, Ai1.2⟩, rfl⟩
   all_goals simp [go_sem]
  refine Bq ?_
  refine Br ?_ ?_ <;> intro h38
  ·obtain ⟨D5, hD5, hd5, hl5, hp5⟩ := dN D2.2 3
   obtain ⟨D6, hD6, hd6, hl6, hp6⟩ := dN D5.2 3
   refine Cb (fun K kk => by simp [go_sem]; refine .o [0] (hD5) ?_; simp [go_sem]; refine .o [0] (hD6) ?_; simp [go_sem]; refine .l (Fw (IntKind.i64.wrap (1000 + D6.1))) ?_; simp [go_sem]; refine .lo (Ha D5.1 0 (Dx (IntKind.i64.wrap (1000 + D6.1))) (Ai9 _)) rfl (by simp [AV.cln, Ez]) ?_; simp [go_sem]; exact kk) ?_
   refine ⟨[0, 1, 2, 3], _, Ds (by decide) ?_ ?_, by simp, D6.2.l, D6.2.pos, (Eh D5.1 0 (Dx (IntKind.i64.wrap (1000 + D6.1))) (Ai9 _)), ⟨hd6.1.trans (hd5.1.trans (hd2.1.trans hd1.1)), hp6, Ai1.1, Ai1.2⟩, rfl⟩
   all_goals simp [go_sem]
  refine Bp ?_
  refine ⟨[0, 1, 2, 3], _, Ds (by decide) ?_ ?_, by simp, D2.2.l, D2.2.pos, (Eh ag 0 (Dx (IntKind.i64.wrap (1000 + ag))) (Ai9 _)), ⟨hd2.1.trans hd1.1, hp2, Ai1.1, Ai1.2⟩, rfl⟩
  all_goals simp [go_sem]
 rintro _ ⟨DL1, DP1, TK, hc1, rfl⟩
 refine VX.cut (fun s => ∃ (DL2 : List Int) (DP2 : Int) (KD : Int), (DL2 = k.l /\ 0 <= DP2) /\ s = ⟨[(0, .ptr 0 0), (3, .lb cal), (5, .ptr 1 0), (8, .ptr 2 0), (9, .ptr 3 0)], [.box 84 [.mI DL2, .li DP2], .box 30 [.mJun c.juns, .mAg c.ags, .li c.per, .li c.cap, .li c.hold, .li c.lock], .box 56 [.li 0, .nil 1, .nil 1, .nil 1], .box 56 [.li KD, .mY TK, .nil 1, .nil 1]]⟩) ?_ ?_
 ·have hyl : (⟨DL1, DP1⟩ : Eo).l.length <= 300 := by show DL1.length <= 300; rw [hc1.1]; exact h
  have hyp : 0 <= (⟨DL1, DP1⟩ : Eo).pos := hc1.2.1
  obtain ⟨D7, hD7, hd7, hl7, hp7⟩ := dN ⟨DL1, DP1⟩ 2
  refine B3 (fun K kk => by simp [go_sem]; refine .o [0] (hD7) ?_; simp [go_sem]; exact kk) ?_
  refine Br ?_ ?_ <;> intro h50
  ·obtain ⟨D8, hD8, hd8, hl8, hp8⟩ := dN D7.2 4
   obtain ⟨e1, H1⟩ := gx ([6, 4, 6, 7] : List Int) D8.1.toNat
   have hxte1 : [[T.lit (Value.int IntKind.i64 6)], [T.lit (Value.int IntKind.i64 4)], [T.lit (Value.int IntKind.i64 6)], [T.lit (Value.int IntKind.i64 7)]][D8.1.toNat]? = some [T.lit (Value.int IntKind.i64 e1)] := Ald (l := [6, 4, 6, 7]) H1
   refine Cb (fun K kk => by simp [go_sem, H1, hxte1]; refine .o [0] (hD8) ?_; simp [go_sem, H1, hxte1]; (repeat first | exact kk | refine aK ?_)) ?_
   refine ⟨[0, 1, 2, 3], _, Ds (by decide) ?_ ?_, by simp, D8.2.l, D8.2.pos, e1, ⟨hd8.1.trans (hd7.1.trans hc1.1), hp8⟩, rfl⟩
   all_goals simp [go_sem, H1, hxte1]
  refine Bp ?_
  refine ⟨[0, 1, 2, 3], _, Ds (by decide) ?_ ?_, by simp, D7.2.l, D7.2.pos, (1 + D1.1), ⟨hd7.1.trans hc1.1, hp7⟩, rfl⟩
  all_goals simp [go_sem]
 rintro _ ⟨DL2, DP2, KD, hc2, rfl⟩
 have hyl : (⟨DL2, DP2⟩ : Eo).l.length <= 300 := by show DL2.length <= 300; rw [hc2.1]; exact h
 have hyp : 0 <= (⟨DL2, DP2⟩ : Eo).pos := hc2.2
 obtain ⟨D9, hD9, hd9, hl9, hp9⟩ := dN ⟨DL2, DP2⟩ 4
 refine B3 (fun K kk => by simp [go_sem]; refine .o [0] (hD9) ?_; simp [go_sem]; exact kk) ?_
 refine VX.cut (fun s => ∃ (CL : Int) (DL3 : List Int) (DP3 : Int), (DL3 = k.l /\ 0 <= DP3) /\ s = ⟨[(0, .ptr 0 0), (5, .ptr 1 0), (8, .ptr 2 0), (9, .ptr 3 0), (10, .li CL)], [.box 84 [.mI DL3, .li DP3], .box 30 [.mJun c.juns, .mAg c.ags, .li c.per, .li c.cap, .li c.hold, .li c.lock], .box 56 [.li 0, .nil 1, .nil 1, .nil 1], .box 56 [.li KD, .mY TK, .nil 1, .nil 1]]⟩) ?_ ?_
 ·refine Bq ?_
  refine Br ?_ ?_ <;> intro h59
  ·obtain ⟨D10, hD10, hd10, hl10, hp10⟩ := dN D9.2 2
   refine Cb (fun K kk => by simp [go_sem]; refine .o [0] (hD10) ?_; simp [go_sem]; exact kk) ?_
   refine ⟨[0, 1, 2, 3], _, Ds (by decide) ?_ ?_, by simp, D10.1, D10.2.l, D10.2.pos, ⟨hd10.1.trans (hd9.1.trans hc2.1), hp10⟩, rfl⟩
   all_goals simp [go_sem]
  refine Bp ?_
  refine ⟨[0, 1, 2, 3], _, Ds (by decide) ?_ ?_, by simp, D9.1, D9.2.l, D9.2.pos, ⟨hd9.1.trans hc2.1, hp9⟩, rfl⟩
  all_goals simp [go_sem]
 rintro _ ⟨CL, DL3, DP3, hc3, rfl⟩
 refine Ca <| .R <| .block ?_
 refine Bq ?_
 refine Br ?_ ?_ <;> intro h64
 ·have hyl : (⟨DL3, DP3⟩ : Eo).l.length <= 300 := by show DL3.length <= 300; rw [hc3.1]; exact h
  have hyp : 0 <= (⟨DL3, DP3⟩ : Eo).pos := hc3.2
  obtain ⟨D11, hD11, hd11, hl11, hp11⟩ := dN ⟨DL3, DP3⟩ 5
  obtain ⟨D12, hD12, hd12, hl12, hp12⟩ := dN D11.2 5
  obtain ⟨D13, hD13, hd13, hl13, hp13⟩ := dN D12.2 4
  obtain ⟨e2, H2⟩ := gx ([63, 1, 3, 47, 64] : List Int) D11.1.toNat
  have hxte2 : [[T.lit (Value.int IntKind.i64 63)], [T.lit (Value.int IntKind.i64 1)], [T.lit (Value.int IntKind.i64 3)], [T.lit (Value.int IntKind.i64 47)], [T.lit (Value.int IntKind.i64 64)]][D11.1.toNat]? = some [T.lit (Value.int IntKind.i64 e2)] := Ald (l := [63, 1, 3, 47, 64]) H2
  obtain ⟨e3, H3⟩ := gx ([0, 5, 30, 700] : List Int) D13.1.toNat
  have hxte3 : [[T.lit (Value.int IntKind.i64 0)], [T.lit (Value.int IntKind.i64 5)], [T.lit (Value.int IntKind.i64 30)], [T.lit (Value.int IntKind.i64 700)]][D13.1.toNat]? = some [T.lit (Value.int IntKind.i64 e3)] := Ald (l := [0, 5, 30, 700]) H3
  refine De (fun K kk => by simp [go_sem, H2, hxte2, H3, hxte3]; refine .o [0] (hD11) ?_; simp [go_sem, H2, hxte2, H3, hxte3]; (repeat refine aK ?_); refine .o [0] (hD12) ?_; simp [go_sem, H2, hxte2, H3, hxte3]; refine .o [0] (hD13) ?_; simp [go_sem, H2, hxte2, H3, hxte3]; (repeat first | exact kk | refine aK ?_)) ?_
  refine Bu (cj4 H2 hxte2 H3 hxte3) ?_
  refine B2 ok0 6 ?_
  exact .ret ⟨(⟨KD, TK, [e2, D12.1, e3], []⟩, D13.2), rW (cj4 H2 hxte2 H3 hxte3) [0], ⟨by first | exact hc3.1 | exact hd14.1.trans hc3.1 | exact hd15.1.trans hc3.1 | exact hy1.1 | exact hlg.1.trans (hd18.1.trans (hd17.1.trans (hd16.1.trans hc3.1))) | exact hd13.1.trans (hd12.1.trans (hd11.1.trans hc3.1)), by first | exact hc3.2 | exact hp14 | exact hp15 | exact hp13 | exact hlg.2.1 | exact hy1.2.1, hc1.2.2.1, hc1.2.2.2, by first | (simp; done) | (have h9 := hlg.2.2; simp at h9; dsimp only; omega) | (dsimp only; omega), rfl⟩⟩
 refine Cf (by rfl) fun K1 hK1 => ?_
 simp [go_sem]
 refine hK1 _ ⟨_, _, _, _, _, _, _, _, rfl, .more (by decide) rfl rfl (.more (by decide) rfl rfl (.more (by decide) rfl rfl (.one (by decide) rfl rfl))), by decide, rfl, by simp [go_sem]; rfl, by simp [go_sem]; rfl, by simp [go_sem], ?_⟩; clear hK1
 refine Br ?_ ?_ <;> intro h80
 ·have hyl : (⟨DL3, DP3⟩ : Eo).l.length <= 300 := by show DL3.length <= 300; rw [hc3.1]; exact h
  have hyp : 0 <= (⟨DL3, DP3⟩ : Eo).pos := hc3.2
  obtain ⟨D14, hD14, hd14, hl14, hp14⟩ := dN ⟨DL3, DP3⟩ 4
  refine Cb (fun K kk => by simp [go_sem]; refine .o [0] (hD14) ?_; simp [go_sem]; exact kk) ?_
  refine Bq ?_
  refine B2 ok0 4 ?_
  exact .ret ⟨(⟨KD, TK, [D14.1], []⟩, D14.2), rW ok0 [0], ⟨by first | exact hc3.1 | exact hd14.1.trans hc3.1 | exact hd15.1.trans hc3.1 | exact hy1.1 | exact hlg.1.trans (hd18.1.trans (hd17.1.trans (hd16.1.trans hc3.1))) | exact hd13.1.trans (hd12.1.trans (hd11.1.trans hc3.1)), by first | exact hc3.2 | exact hp14 | exact hp15 | exact hp13 | exact hlg.2.1 | exact hy1.2.1, hc1.2.2.1, hc1.2.2.2, by first | (simp; done) | (have h9 := hlg.2.2; simp at h9; dsimp only; omega) | (dsimp only; omega), rfl⟩⟩
 refine Bq ?_
 refine Br ?_ ?_ <;> intro h90
 ·have hyl : (⟨DL3, DP3⟩ : Eo).l.length <= 300 := by show DL3.length <= 300; rw [hc3.1]; exact h
  have hyp : 0 <= (⟨DL3, DP3⟩ : Eo).pos := hc3.2
  obtain ⟨D15, hD15, hd15, hl15, hp15⟩ := dN ⟨DL3, DP3⟩ 4
  refine Cb (fun K kk => by simp [go_sem]; refine .o [0] (hD15) ?_; simp [go_sem]; exact kk) ?_
  refine Bq ?_
  refine B2 ok0 4 ?_
  exact .ret ⟨(⟨KD, TK, [D15.1, CL], []⟩, D15.2), rW ok0 [0], ⟨by first | exact hc3.1 | exact hd14.1.trans hc3.1 | exact hd15.1.trans hc3.1 | exact hy1.1 | exact hlg.1.trans (hd18.1.trans (hd17.1.trans (hd16.1.trans hc3.1))) | exact hd13.1.trans (hd12.1.trans (hd11.1.trans hc3.1)), by first | exact hc3.2 | exact hp14 | exact hp15 | exact hp13 | exact hlg.2.1 | exact hy1.2.1, hc1.2.2.1, hc1.2.2.2, by first | (simp; done) | (have h9 := hlg.2.2; simp at h9; dsimp only; omega) | (dsimp only; omega), rfl⟩⟩
 refine Bq ?_
 refine Br ?_ ?_ <;> intro h97
 ·have hyl : (⟨DL3, DP3⟩ : Eo).l.length <= 300 := by show DL3.length <= 300; rw [hc3.1]; exact h
  have hyp : 0 <= (⟨DL3, DP3⟩ : Eo).pos := hc3.2
  obtain ⟨D16, hD16, hd16, hl16, hp16⟩ := dN ⟨DL3, DP3⟩ 4
  obtain ⟨D17, hD17, hd17, hl17, hp17⟩ := dN D16.2 4
  obtain ⟨D18, hD18, hd18, hl18, hp18⟩ := dR D17.2 1 60
  obtain ⟨LG, hLG, hlg⟩ := My D18.2 c [D16.1, D17.1, D18.1] (by first | assumption | omega) (by first | assumption | omega) hj hp (by simp)
  refine De (fun K kk => by simp [go_sem]; refine .o [0] (hD16) ?_; simp [go_sem]; refine .o [0] (hD17) ?_; simp [go_sem]; refine .o [0] (hD18) ?_; simp [go_sem]; refine .o [0, 4] (hLG) ?_; simp [go_sem]; exact kk) ?_
  refine Bq ?_
  refine B2 ok0 4 ?_
  exact .ret ⟨(⟨KD, TK, LG.1, []⟩, LG.2), rW ok0 [0], ⟨by first | exact hc3.1 | exact hd14.1.trans hc3.1 | exact hd15.1.trans hc3.1 | exact hy1.1 | exact hlg.1.trans (hd18.1.trans (hd17.1.trans (hd16.1.trans hc3.1))) | exact hd13.1.trans (hd12.1.trans (hd11.1.trans hc3.1)), by first | exact hc3.2 | exact hp14 | exact hp15 | exact hp13 | exact hlg.2.1 | exact hy1.2.1, hc1.2.2.1, hc1.2.2.2, by first | (simp; done) | (have h9 := hlg.2.2; simp at h9; dsimp only; omega) | (dsimp only; omega), rfl⟩⟩
 refine Bq ?_
 refine Br ?_ ?_ <;> intro h110
 ·have hyl : (⟨DL3, DP3⟩ : Eo).l.length <= 300 := by show DL3.length <= 300; rw [hc3.1]; exact h
  have hyp : 0 <= (⟨DL3, DP3⟩ : Eo).pos := hc3.2
  obtain ⟨D19, hD19, hd19, hl19, hp19⟩ := dN ⟨DL3, DP3⟩ 4
  refine B3 (fun K kk => by simp [go_sem]; refine .o [0] (hD19) ?_; simp [go_sem]; exact kk) ?_
  obtain ⟨D20, hD20, hd20, hl20, hp20⟩ := dN D19.2 2
  have hw27 := Dt (1 + D20.1)
  refine B3 (fun K kk => by simp [go_sem, hw27]; refine .o [0] (hD20) ?_; simp [go_sem, hw27]; exact kk) <| .block ?_
  refine Cj (fun (y1 : (List Int) × Int × (List Int) × Int) => ⟨[(0, .ptr 0 0), (8, .ptr 1 0), (9, .ptr 2 0), (11, .li y1.2.2.2)], [.box 84 [.mI y1.1, .li y1.2.1], .box 56 [.li 0, .nil 1, .nil 1, .nil 1], .box 56 [.li KD, .mY TK, .own 3 y1.2.2.1.length, .nil 1], .row 3 1 false false (tI y1.2.2.1)]⟩) (fun y1 => y1.1 = k.l /\ 0 <= y1.2.1 /\ y1.2.2.1.length + 2 * y1.2.2.2 <= 10 /\ 0 <= y1.2.2.2) (fun y1 => y1.2.2.2.toNat) (D20.2.l, D20.2.pos, [D19.1], (1 + D20.1)) (wk ok0 [0, 2, 3, 4]) (⟨hd20.1.trans (hd19.1.trans hc3.1), hp20, by simp; omega, by dsimp only; omega⟩) fun y1 hy1 => ?_
  refine Ca <| .R ?_
  refine Br ?_ ?_ <;> intro h120
  ·refine Bp <| .seq <| .block ?_
   have hyl : (⟨y1.1, y1.2.1⟩ : Eo).l.length <= 300 := by show y1.1.length <= 300; rw [hy1.1]; exact h
   have hyp : 0 <= (⟨y1.1, y1.2.1⟩ : Eo).pos := hy1.2.1
   obtain ⟨D21, hD21, hd21, hl21, hp21⟩ := dN ⟨y1.1, y1.2.1⟩ 3
   refine B3 (fun K kk => by simp [go_sem]; refine .o [0] (hD21) ?_; simp [go_sem]; exact kk) ?_
   obtain ⟨D22, hD22, hd22, hl22, hp22⟩ := dN D21.2 40
   have hw4 := Dt (D21.1 + D22.1 : Int)
   refine De (fun K kk => by simp [go_sem, hw4]; refine .o [0] (hD22) ?_; simp [go_sem, hw4]; (repeat first | exact kk | refine aK ?_)) ?_
   have hw5 := Dt (y1.2.2.2 - 1 : Int)
   refine B0 (cj2 hw4 hw5) ?_
   refine ⟨(D22.2.l, D22.2.pos, y1.2.2.1 ++ ([D21.1, (D21.1 + D22.1)]), (y1.2.2.2 - 1)), ?_, ?_, [0, 1, 2, 3], Ds (by decide) ?_ ?_, by simp⟩
   ·(dsimp only; omega)
   ·(exact ⟨hd22.1.trans (hd21.1.trans hy1.1), hp22, by simp; omega, by dsimp only; omega⟩)
   all_goals simp [go_sem, hw4, hw5]
  refine Bt <| .R ?_
  refine B2 ok0 3 ?_
  exact .ret ⟨(⟨KD, TK, y1.2.2.1, []⟩, ⟨y1.1, y1.2.1⟩), rW ok0 [0], ⟨by first | exact hc3.1 | exact hd14.1.trans hc3.1 | exact hd15.1.trans hc3.1 | exact hy1.1 | exact hlg.1.trans (hd18.1.trans (hd17.1.trans (hd16.1.trans hc3.1))) | exact hd13.1.trans (hd12.1.trans (hd11.1.trans hc3.1)), by first | exact hc3.2 | exact hp14 | exact hp15 | exact hp13 | exact hlg.2.1 | exact hy1.2.1, hc1.2.2.1, hc1.2.2.2, by first | (simp; done) | (have h9 := hlg.2.2; simp at h9; dsimp only; omega) | (dsimp only; omega), rfl⟩⟩
 refine Bp <| .R ?_
 exact .ret ⟨(⟨KD, TK, [], []⟩, ⟨DL3, DP3⟩), rW ok0 [0], ⟨by first | exact hc3.1 | exact hd14.1.trans hc3.1 | exact hd15.1.trans hc3.1 | exact hy1.1 | exact hlg.1.trans (hd18.1.trans (hd17.1.trans (hd16.1.trans hc3.1))) | exact hd13.1.trans (hd12.1.trans (hd11.1.trans hc3.1)), by first | exact hc3.2 | exact hp14 | exact hp15 | exact hp13 | exact hlg.2.1 | exact hy1.2.1, hc1.2.2.1, hc1.2.2.2, by first | (simp; done) | (have h9 := hlg.2.2; simp at h9; dsimp only; omega) | (dsimp only; omega), rfl⟩⟩
def skJ (s : List (Int × Int)) (x : Bool) : Fr := ⟨s.map fun p => ⟨p.1, p.2, 0, 0, 0, 0, 0, 0⟩, (List.range s.length).map fun t => Ug s x t s.length, 0⟩
def Ash (s : List (Int × Int)) (x : Bool) : Bool := Sp (skJ s x).con && (Eu .and .i64 (Xy (skJ s x) s.length) (IntKind.i64.wrap (Xy (skJ s x) s.length + 1)) == 0) && Vd (skJ s x)
theorem At2 : (U9.all fun s => Ash s true && Ash s false) = true := by decide +kernel
theorem Aps {s : List (Int × Int)} {x : Bool} {j : Fr} (h : V9 s j.phs) (hl : j.phs.length = s.length) (p : Nat) : (Mr j p).ring = (Mr (skJ s x) p).ring /\ (Mr j p).grp = (Mr (skJ s x) p).grp := by
 unfold Mr skJ
 by_cases hp : p < j.phs.length
 ·have h1 := Aa hp
  obtain ⟨t, ht, h2, h3, _⟩ := h p _ h1
  rw [h1, Ap, ht]
  exact ⟨h2, h3⟩
 rw [Ar (by omega), Ap, Ar (by omega)]
 exact ⟨rfl, rfl⟩
theorem Am8 {s : List (Int × Int)} {x : Bool} {j : Fr} (h : V9 s j.phs) (hl : j.phs.length = s.length) : ∀ n, Xy j n = Xy (skJ s x) n
 | 0 => rfl
 | n + 1 => by rw [Xy, Xy, Am8 h hl n, (Aps (x := x) h hl n).2]
theorem Alt {s : List (Int × Int)} {x : Bool} {j : Fr} (h : V9 s j.phs) (hl : j.phs.length = s.length) (hc : j.con = (skJ s x).con) : Vd j = Vd (skJ s x) := by
 unfold Vd
 have e : (skJ s x).phs.length = j.phs.length := by rw [hl]; simp [skJ]
 rw [e]
 congr 1
 funext p
 congr 1
 funext q
 unfold Xz
 rw [(Aps (x := x) h hl p).1, (Aps (x := x) h hl p).2, (Aps (x := x) h hl q).1, (Aps (x := x) h hl q).2, hc]
theorem Ao8.ok {j : Fr} (h : Ao8 j) : Px j = true /\ Mn j /\ j.phs.length <= 8 := by
 obtain ⟨s, hs, x, h1, h2, h3, h4, h5⟩ := h
 have hsl := Am4 hs
 have hsk : Ash s x = true := by
  have := Am.1 At2 s hs
  simp only [Ah] at this
  cases x
  ·exact this.2
  exact this.1
 simp only [Ash, Ah] at hsk
 have hcl : j.con.length = j.phs.length := by rw [h3, h2]; simp
 have hph : ∀ p, p < j.phs.length -> It (Mr j p) = true := fun p hp => by
  have hq := Aa hp
  obtain ⟨t, ht, g1, g2, g3, g4, g5, g6, g7, g8, g9⟩ := h1 p _ hq
  have hw := Dt (j.phs[p].wa + j.phs[p].cl)
  have htr : ∀ s ∈ U9, ∀ t ∈ s, 0 <= t.1 /\ t.1 <= 1 /\ 0 <= t.2 /\ t.2 <= 3 := by decide
  have htb := htr s hs t (Ac ht)
  have hwc : ((j.phs[p].wa == 0) == (j.phs[p].cl == 0)) = true := by
   rcases g6 with ⟨a, b⟩ | g6
   ·rw [a, b]; rfl
   have a : (j.phs[p].wa == 0) = false := by simp; omega
   have b : (j.phs[p].cl == 0) = false := by simp; omega
   rw [a, b]; rfl
  unfold Mr
  rw [hq]
  simp only [Bh, It, Ej, Ah, decide_eq_true_eq, hw]
  exact ⟨⟨⟨⟨⟨by omega, by omega⟩, by omega, by omega⟩, ⟨⟨by omega, by omega⟩, by omega, by omega⟩, by omega, by omega⟩, ⟨⟨by omega, by omega⟩, by omega, by omega⟩, by omega, by omega⟩, ⟨by omega, by omega⟩, hwc⟩
 have hcon : j.con = (skJ s x).con := h3
 refine ⟨?_, ⟨by omega, by omega, by omega, fun p hp => ?_, fun p hp => ?_⟩, by omega⟩
 ·simp only [Px, Ah, decide_eq_true_eq]
  refine ⟨⟨⟨⟨⟨⟨⟨by omega, by omega⟩, hcl⟩, by rw [hcon]; exact hsk.1.1⟩, ?_⟩, Ly hph⟩, ?_⟩, by rw [Alt h1 h2 hcon]; exact hsk.2⟩
  ·simp only [Ej, Ah, decide_eq_true_eq]; omega
  rw [h2, Am8 (x := x) h1 h2]; exact hsk.1.2
 all_goals
  obtain ⟨i, hi⟩ := A3.1 hp
  have hil := (Ab.1 hi).1
  have hq := Ql (hph i hil)
  unfold Mr at hq
  rw [hi] at hq
  simp only [Bh] at hq
  omega
theorem AgQ.ok {ri : Int} (hr : 0 <= ri /\ ri <= 63) {a : TAg} (h : AgQ ri a) : Aew a = true := by
 obtain ⟨h1, h2, h3, h4, h5, h6, h7, h8, h9, h10⟩ := h
 simp only [Aew, Ah, decide_eq_true_eq, Ej]
 refine ⟨⟨⟨h1, h2⟩, Ly fun i hi => ?_⟩, ⟨⟨⟨⟨⟨by omega, by omega⟩, by omega, by omega⟩, by omega, by omega⟩, by omega, by omega⟩, by omega, by omega⟩, by omega, by omega⟩
 have hq := Aa hi
 have hb := h3 _ (Ac hq)
 unfold Rc
 rw [hq]
 simp only [Bh, Ah, decide_eq_true_eq]
 omega
theorem Abf.pl {ri : Int} (hr : 0 <= ri /\ ri <= 63) {c : Fa} (h : Abf ri c) : Mt c = true := by
 have h1 := h.per
 have h2 := h.cap
 have h3 := h.hold
 have h4 := h.lock
 have h5 := h.nj
 have h6 := h.na
 simp only [Mt, Ah, decide_eq_true_eq, Ej]
 exact ⟨⟨⟨⟨⟨by omega, by omega⟩, by omega, by omega⟩, Am.2 fun j hj => (h.jun j hj).ok.1⟩, Am.2 fun a ha => (h.ag a ha).ok hr⟩, ⟨⟨⟨by omega, by omega⟩, by omega, by omega⟩, by omega, by omega⟩, by omega, by omega⟩
theorem Abf.b {ri : Int} {c : Fa} (h : Abf ri c) : Zn c := ⟨by have := h.nj; omega, by have := h.na; omega, fun j hj => ⟨(h.jun j hj).ok.2.1.len, (h.jun j hj).ok.2.1.con⟩, fun a ha => ⟨by rw [(h.ag a ha).1]; decide, by rw [(h.ag a ha).2.1]; decide⟩⟩
theorem Abf.hj {ri : Int} {c : Fa} (h : Abf ri c) : ∀ j ∈ c.juns, Mn j /\ j.phs.length <= 8 := fun j hj => (h.jun j hj).ok.2
theorem Abf.ha {ri : Int} {c : Fa} (h : Abf ri c) : ∀ a ∈ c.ags, a.sec.length <= 1000000 /\ a.lims.length <= 1000000 /\ a.rq <= 3 := fun a ha => ⟨by rw [(h.ag a ha).1]; decide, by rw [(h.ag a ha).2.1]; decide, by have := (h.ag a ha).2.2.2.2.2.1; omega⟩
theorem Abf.hs {ri : Int} {c : Fa} (h : Abf ri c) : ∀ x ∈ c.ags, 1 <= x.se /\ x.se <= 2 := fun a ha => (h.ag a ha).2.2.2.2.2.2.1
theorem W5 (n : Nat) : By (List.replicate n (0 : Int)) := fun x hx => by rw [List.eq_of_mem_replicate hx]; decide
theorem Hd {e : TEv} (h : e.bytes = []) : EvQ e := by rw [EvQ, h]; exact ⟨by simp, Mo⟩
theorem Qp {e : TEv} {n : Int} (h : e.bytes = Dx n) : EvQ e := by
 have hq := Ik n
 rw [EvQ, h]; exact ⟨by rw [hq.1]; decide, hq.2⟩
theorem Rj (c : Fa) (h : c.ags.length <= 1000000) (hs : ∀ a ∈ c.ags, 1 <= a.se /\ a.se <= 2) : Ct 31 [c.g] (fun d : Int => .li d) (fun d => 0 <= d /\ d <= 2 * c.ags.length) := by
 refine Ek Tryz.func31 ?_
 refine Bq ?_
 refine Bq <| .seq ?_
 refine Bq <| .block ?_
 refine Bs c.ags.length (fun i1 (y1 : Int) => ⟨[(3, .li y1), (7, .mAg c.ags), (8, .li c.ags.length), (9, .li i1)], []⟩) (fun i1 y1 => 0 <= y1 /\ y1 <= 2 * i1) (0) (wk ok0 []) (⟨by decide, by decide⟩) fun i1 y1 hi1 hy1 => ?_
 refine Bq <| .seq ?_
 refine Br ?_ ?_ <;> intro h10
 ·refine Bp <| .seq <| .block ?_
  obtain ⟨e1, H1⟩ := gx c.ags i1
  refine Bu H1 ?_
  have hse := hs e1 (Ac H1)
  have hw2 := Dt (y1 + e1.se : Int)
  refine B0 (cj2 H1 hw2) ?_
  refine B0 (cj2 H1 hw2) ?_
  exact ⟨by omega, ((y1 + e1.se)), ⟨by omega, by omega⟩, wk (cj3 (Dt ((i1 : Int) + 1)) H1 hw2) []⟩
 refine Bt <| .R ?_
 exact .ret (fin ok0 y1 ⟨hy1.1, by omega⟩)
theorem Nr (k : Eo) (c : Fa) (s : Int) (cal : Bool) (h : k.l.length <= 300) (h0 : 0 <= k.pos) : Cx 35 [.box 84 (k.a false)] [.ptr 0 0, c.g, .li s, .lb cal] (fun d : TEv × Eo => [.box 84 (d.2.a false)]) (fun d => d.1.g) (fun d => d.2.l = k.l /\ 0 <= d.2.pos /\ EvQ d.1) := by
 refine R3 Tryz.func35 ?_
 refine Bq <| .seq ?_
 obtain ⟨D1, hD1, hd1, hl1, hp1⟩ := dN k 6
 refine B3 (fun K kk => by simp [go_sem]; refine .o [0] (hD1) ?_; simp [go_sem]; exact kk) <| .block ?_
 refine Bq ?_
 refine Br ?_ ?_ <;> intro h12
 ·refine Bq ?_
  refine Bz ⟨(⟨2, s, 0, 0, []⟩, D1.2), Ry [0] (by simp [go_sem]) (by decide) (by simp) (by simp [go_sem]) ?_, ⟨by first | exact hb1.1.trans hd1.1 | exact hd6.1.trans hd1.1 | exact hd5.1.trans (hd4.1.trans hd1.1) | exact hd3.1.trans (hd2.1.trans hd1.1) | exact hd1.1, by first | exact hb1.2.1 | exact hp6 | exact hp5 | exact hp3 | exact hp1, by first | exact Hd rfl | exact Qp rfl | exact ⟨by simp; omega, W5 _⟩ | exact ⟨by have := hb1.2.2.1; dsimp only; omega, hb1.2.2.2⟩⟩⟩
  repeat' (first | exact .nil | refine .cons (by simp [go_sem]) ?_)
 refine Bq ?_
 refine Br ?_ ?_ <;> intro h17
 ·refine Bq ?_
  refine Bz ⟨(⟨1, s, 0, 0, []⟩, D1.2), Ry [0] (by simp [go_sem]) (by decide) (by simp) (by simp [go_sem]) ?_, ⟨by first | exact hb1.1.trans hd1.1 | exact hd6.1.trans hd1.1 | exact hd5.1.trans (hd4.1.trans hd1.1) | exact hd3.1.trans (hd2.1.trans hd1.1) | exact hd1.1, by first | exact hb1.2.1 | exact hp6 | exact hp5 | exact hp3 | exact hp1, by first | exact Hd rfl | exact Qp rfl | exact ⟨by simp; omega, W5 _⟩ | exact ⟨by have := hb1.2.2.1; dsimp only; omega, hb1.2.2.2⟩⟩⟩
  repeat' (first | exact .nil | refine .cons (by simp [go_sem]) ?_)
 refine Bq ?_
 refine Br ?_ ?_ <;> intro h22
 ·obtain ⟨D2, hD2, hd2, hl2, hp2⟩ := dN D1.2 4
  obtain ⟨D3, hD3, hd3, hl3, hp3⟩ := dN D2.2 50
  refine B3 (fun K kk => by simp [go_sem]; refine .o [0] (hD2) ?_; simp [go_sem]; refine .o [0] (hD3) ?_; simp [go_sem]; refine .l (Fw D3.1) ?_; simp [go_sem]; exact kk) ?_
  refine Bz ⟨(⟨4, 0, D2.1, 0, (Dx D3.1)⟩, D3.2), Ry [0] (by simp [go_sem]) (by decide) (by simp) (by simp [go_sem]) ?_, ⟨by first | exact hb1.1.trans hd1.1 | exact hd6.1.trans hd1.1 | exact hd5.1.trans (hd4.1.trans hd1.1) | exact hd3.1.trans (hd2.1.trans hd1.1) | exact hd1.1, by first | exact hb1.2.1 | exact hp6 | exact hp5 | exact hp3 | exact hp1, by first | exact Hd rfl | exact Qp rfl | exact ⟨by simp; omega, W5 _⟩ | exact ⟨by have := hb1.2.2.1; dsimp only; omega, hb1.2.2.2⟩⟩⟩
  repeat' (first | exact .nil | refine .cons (by simp [go_sem]) ?_)
 refine Bq ?_
 refine Br ?_ ?_ <;> intro h31
 ·refine Bq ?_
  refine Bz ⟨(⟨6, 0, 0, 0, []⟩, D1.2), Ry [0] (by simp [go_sem]) (by decide) (by simp) (by simp [go_sem]) ?_, ⟨by first | exact hb1.1.trans hd1.1 | exact hd6.1.trans hd1.1 | exact hd5.1.trans (hd4.1.trans hd1.1) | exact hd3.1.trans (hd2.1.trans hd1.1) | exact hd1.1, by first | exact hb1.2.1 | exact hp6 | exact hp5 | exact hp3 | exact hp1, by first | exact Hd rfl | exact Qp rfl | exact ⟨by simp; omega, W5 _⟩ | exact ⟨by have := hb1.2.2.1; dsimp only; omega, hb1.2.2.2⟩⟩⟩
  repeat' (first | exact .nil | refine .cons (by simp [go_sem]) ?_)
 refine Bq ?_
 refine Br ?_ ?_ <;> intro h34
 ·obtain ⟨D4, hD4, hd4, hl4, hp4⟩ := dN D1.2 3
  obtain ⟨D5, hD5, hd5, hl5, hp5⟩ := dN D4.2 9
  refine B3 (fun K kk => by simp [go_sem]; refine .o [0] (hD4) ?_; simp [go_sem]; refine .o [0] (hD5) ?_; simp [go_sem]; exact kk) ?_
  refine Bz ⟨(⟨5, 0, D4.1, D5.1, []⟩, D5.2), Ry [0] (by simp [go_sem]) (by decide) (by simp) (by simp [go_sem]) ?_, ⟨by first | exact hb1.1.trans hd1.1 | exact hd6.1.trans hd1.1 | exact hd5.1.trans (hd4.1.trans hd1.1) | exact hd3.1.trans (hd2.1.trans hd1.1) | exact hd1.1, by first | exact hb1.2.1 | exact hp6 | exact hp5 | exact hp3 | exact hp1, by first | exact Hd rfl | exact Qp rfl | exact ⟨by simp; omega, W5 _⟩ | exact ⟨by have := hb1.2.2.1; dsimp only; omega, hb1.2.2.2⟩⟩⟩
  repeat' (first | exact .nil | refine .cons (by simp [go_sem]) ?_)
 refine Bq ?_
 refine Br ?_ ?_ <;> intro h42
 ·obtain ⟨D6, hD6, hd6, hl6, hp6⟩ := dN D1.2 120
  have hw1 := Dt (150 + D6.1)
  refine B3 (fun K kk => by simp [go_sem, hw1]; refine .o [0] (hD6) ?_; simp [go_sem, hw1]; (repeat first | exact kk | refine aK ?_)) ?_
  refine Dg 3 ?_
  simp [go_sem, -Prod.exists]
  refine Bz ⟨(⟨3, s, 0, 0, List.replicate ((150 + D6.1).toNat) 0⟩, D6.2), Ry [0] (by simp [go_sem]) (by decide) (by simp) (by simp [go_sem]) ?_, ⟨by first | exact hb1.1.trans hd1.1 | exact hd6.1.trans hd1.1 | exact hd5.1.trans (hd4.1.trans hd1.1) | exact hd3.1.trans (hd2.1.trans hd1.1) | exact hd1.1, by first | exact hb1.2.1 | exact hp6 | exact hp5 | exact hp3 | exact hp1, by first | exact Hd rfl | exact Qp rfl | exact ⟨by simp; omega, W5 _⟩ | exact ⟨by have := hb1.2.2.1; dsimp only; omega, hb1.2.2.2⟩⟩⟩
  repeat' (first | exact .nil | refine .cons (by simp [go_sem]) ?_)
 refine Bp ?_
 obtain ⟨B1, hB1, hb1⟩ := Ns D1.2 9 (by first | assumption | omega) (by first | assumption | omega) (by omega) (by omega)
 refine B3 (fun K kk => by simp [go_sem]; refine .o [0] (hB1) ?_; simp [go_sem]; exact kk) ?_
 refine Dg 3 ?_
 simp [go_sem, -Prod.exists]
 refine Bz ⟨(⟨3, s, 0, 0, B1.1⟩, B1.2), Ry [0] (by simp [go_sem]) (by decide) (by simp) (by simp [go_sem]) ?_, ⟨by first | exact hb1.1.trans hd1.1 | exact hd6.1.trans hd1.1 | exact hd5.1.trans (hd4.1.trans hd1.1) | exact hd3.1.trans (hd2.1.trans hd1.1) | exact hd1.1, by first | exact hb1.2.1 | exact hp6 | exact hp5 | exact hp3 | exact hp1, by first | exact Hd rfl | exact Qp rfl | exact ⟨by simp; omega, W5 _⟩ | exact ⟨by have := hb1.2.2.1; dsimp only; omega, hb1.2.2.2⟩⟩⟩
 repeat' (first | exact .nil | refine .cons (by simp [go_sem]) ?_)
theorem Af8 {P : Program} {d : Option Tmp} {ty : TypeId} {os : List VO} {st : St} {K : St -> Prop} {f : FuncId} {xs : List Operand} {ts : Array TypeId} {v : AV} {want : Bool} {args' : List AV} {σa σr : List Ob} {res : AV} (sel : List Nat) (hp : Ei P f σa args' σr res) (hv : Hh v.sv = true /\ (v.sb && (Ew v.sv == want)) = true) (hb : (xs.all fun x => (st.raw x).sb) = true)
 (hσ : (sel.map fun id => ((st.o id).passR st.o fun id => idx id sel 0).low) = σa) (ha : Jn (Gu st.o (fun id => idx id sel 0) (xs.map fun x => (st.raw x).sv)) = args') (hc : Ad0 (xs.map fun x => (st.raw x).sv) st sel σr res) (h : runs P os (st.after d (.gd true (Oy sel st.ob.length σr res).1) (Oy sel st.ob.length σr res).2) K) :
  Wz P d (.call ⟨.value (.func f), xs.toArray, ts⟩) ty v want os st K :=
 Akq hv ⟨_, ⟨⟨rfl, by simpa using hb⟩, .inr ⟨f, [], sel, σr, res, rfl, by simpa using Wb.of sel hp hσ ha hc _, rfl⟩⟩, h⟩
theorem EvQ.one {e : TEv} (h : EvQ e) : ∀ x ∈ [e], EvQ x := fun x hx => by simp at hx; rw [hx]; exact h
theorem Axp {kd a s n : Int} {h : (Dx n).length <= 1000} {args : List Int} (hl : args.length <= 20) : MkQ ⟨kd, Eh a s (Dx n) h, args, []⟩ := ⟨(Ai1 (h := h)).1, (Ai1 (h := h)).2, hl, rfl⟩
theorem Axs {j : Fr} (h : Ao8 j) : 1 <= j.phs.length := by
 obtain ⟨s, hs, x, _, hl, _⟩ := h
 rw [hl]
 have : ∀ s ∈ U9, 1 <= s.length := by decide +kernel
 exact this s hs
theorem EvQ.app {l : List TEv} {e : TEv} (hl : ∀ x ∈ l, EvQ x) (h : EvQ e) : ∀ x ∈ l ++ [e], EvQ x := fun x hx => by
 rcases A0.1 hx with h1 | h1
 ·exact hl x h1
 exact EvQ.one h x h1
theorem mkF {m : Dz} (h : MkQ m) : ∃ d : List Int, PP 18 [] [m.g] [.row 5 1 false false (tY d)] (.own 0 d.length) /\ d.length <= 210 /\ By d := by
 obtain ⟨d, h1, h2, h3⟩ := Qw m (by rw [h.1]; decide) (Ak h.2.2.1 (by decide)) (by rw [h.2.2.2]; exact Ae _)
 exact ⟨d, h1, h2, h3 h.2.1 (by rw [h.2.2.2]; exact Mo)⟩
theorem Ei.bright {P : Program} {f : FuncId} {σa : List Ob} {args : List AV} {ty k : Nat} {fr fz : Bool} {es : List (List T)} {res : AV} (h : Ei P f σa args [.row ty k fr fz es] res) (hp : es.all (fun e => e.all T.plain) = true) : Ei P f σa args [.row ty k true fz es] res :=
 ⟨h.1, fun E β us hn ho hβ r => (h.2 E β us hn ho hβ r).mono fun e w' ⟨v, β', he, r'⟩ => ⟨v, β', he, (r'.flag (id := 0) rfl (fun _ => .inr hp) (fun h => h)).1⟩⟩
theorem Awa {m : Dz} (h : MkQ m) : ∃ d : List Int, PP 18 [] [m.g] [] (.imm true 1 (tY d)) /\ d.length <= 210 /\ By d := by
 obtain ⟨d, h1, h2⟩ := mkF h
 exact ⟨d, Ei.froz (es := tY d) (by rw [A2]; exact h1.bright (by simp [T.plain])), h2⟩
theorem L4 (k : Eo) (c : Fa) (cal : Bool) (h : k.l.length <= 300) (h0 : 0 <= k.pos) (hc : Abf 63 c) : Cx 13 [.box 84 (k.a false)] [.ptr 0 0, c.g, .lb cal] (fun d : List TEv × Eo => [.box 84 (d.2.a false)]) (fun d => .mEv d.1) (fun d => d.2.l = k.l /\ 0 <= d.2.pos /\ (2 <= d.1.length /\ d.1.length <= 200) /\ ∀ e ∈ d.1, EvQ e) := by
 refine R3 Tryz.func13 ?_
 have hag : c.ags.length <= 1000000 := Ak hc.na.2 (by decide)
 have hna := hc.na
 have hph : ∀ j ∈ c.juns, j.phs.length <= 8 /\ 1 <= j.phs.length := fun j hj => ⟨(hc.hj j hj).2, Axs (hc.jun j hj)⟩
 obtain ⟨Y1, cY1, qY1⟩ := got (Rj c hag hc.hs)
 have hSv := cY1
 have hSq := qY1
 generalize Y1 = NS at hSv hSq
 iterate 2 refine Bq ?_
 refine B8 ok0 (hSv) <| .seq ?_
 refine Bq <| .block ?_
 refine Cg 7 46 5 (by decide) (k' := 5) (by simp [go_sem]) ?_
 simp [go_sem, -Prod.exists]
 refine Bs NS.toNat (fun i1 (y1 : (List TEv)) => ⟨[(0, .ptr 0 0), (2, .lb cal), (4, .ptr 1 0), (7, .own 2 y1.length), (8, .li NS), (17, .li NS), (18, .li i1)], [.box 84 [.mI k.l, .li k.pos], .box 30 [.mJun c.juns, .mAg c.ags, .li c.per, .li c.cap, .li c.hold, .li c.lock], .row 46 5 false false (tEv y1)]⟩) (fun i1 y1 => y1.length = i1 /\ ∀ e ∈ y1, EvQ e) ([]) (wk ok0 [0, 1, 2]) (⟨rfl, fun e he => by cases he⟩) fun i1 y1 hi1 hy1 => ?_
 refine Bq <| .seq ?_
 refine Br ?_ ?_ <;> intro h19
 ·refine Bp <| .seq <| .block <| .R ?_
  refine B0 ok0 ?_
  refine Ci ?_
  exact ⟨by omega, (y1 ++ ([⟨1, i1, 0, 0, []⟩])), ⟨by simp; omega, EvQ.app hy1.2 (Hd rfl)⟩, wk (Dt ((i1 : Int) + 1)) [0, 1, 2]⟩
 refine Bt <| .seq <| .R <| .block ?_
 refine Bs c.ags.length (fun i2 (y2 : (List TEv)) => ⟨[(0, .ptr 0 0), (2, .lb cal), (4, .ptr 1 0), (7, .own 2 y2.length), (8, .li NS), (29, .li c.ags.length), (30, .li i2)], [.box 84 [.mI k.l, .li k.pos], .box 30 [.mJun c.juns, .mAg c.ags, .li c.per, .li c.cap, .li c.hold, .li c.lock], .row 46 5 false false (tEv y2)]⟩) (fun i2 y2 => y2.length <= 6 + 4 * i2 /\ ∀ e ∈ y2, EvQ e) (y1) (wk ok0 [0, 1, 2]) (⟨by omega, hy1.2⟩) fun i2 y2 hi2 hy2 => ?_
 refine Bq <| .seq ?_
 refine Br ?_ ?_ <;> intro h31
 ·refine Bp <| .seq <| .block <| .R ?_
  refine B8 ok0 (Fw (IntKind.i64.wrap (2000 + (IntKind.i64.wrap (10 * i2))))) ?_
  refine Bq <| .block ?_
  refine Bs 3 (fun i3 (y3 : (List TEv)) => ⟨[(0, .ptr 0 0), (2, .lb cal), (4, .ptr 1 0), (7, .own 2 y3.length), (8, .li NS), (10, .li i2), (29, .li c.ags.length), (30, .li i2), (42, .li i3)], [.box 84 [.mI k.l, .li k.pos], .box 30 [.mJun c.juns, .mAg c.ags, .li c.per, .li c.cap, .li c.hold, .li c.lock], .row 46 5 false false (tEv y3)]⟩) (fun i3 y3 => y3.length <= 7 + 4 * i2 + i3 /\ ∀ e ∈ y3, EvQ e) (y2 ++ ([⟨4, 0, i2, 0, (Dx (IntKind.i64.wrap (2000 + (IntKind.i64.wrap (10 * i2)))))⟩])) (wk ok0 [0, 1, 2]) (⟨by simp; omega, EvQ.app hy2.2 (Qp rfl)⟩) fun i3 y3 hi3 hy3 => ?_
  refine Bq <| .seq ?_
  refine Br ?_ ?_ <;> intro h43
  ·refine Bp <| .seq <| .block <| .R ?_
   obtain ⟨FR, hFR, hfr⟩ := Awa (m := ⟨4, Eh i2 0 (Dx (IntKind.i64.wrap (1000 + (i2 : Int)))) (Ai9 _), [(i3 : Int), Int.tmod i3 2], []⟩) (Axp (by simp))
   refine Cb (fun K kk => by simp [go_sem]; refine .l (Ro c i2 hag) ?_; simp [go_sem]; refine .l (Fw (IntKind.i64.wrap (1000 + i2))) ?_; simp [go_sem]; refine .lo (Ha i2 0 (Dx (IntKind.i64.wrap (1000 + i2))) (Ai9 _)) rfl (by simp [AV.cln, Ez]) ?_; simp [go_sem]; (repeat refine aK ?_); refine .l (hFR) ?_; simp [go_sem]; (repeat first | exact kk | refine aK ?_)) ?_
   refine Ci ?_
   exact ⟨by omega, (y3 ++ [⟨3, Ls c (i2 : Int) hag, 0, 0, FR⟩]), ⟨by simp; omega, EvQ.app hy3.2 ⟨by dsimp only; omega, hfr.2⟩⟩, wk (Dt ((i3 : Int) + 1)) [0, 1, 2]⟩
  refine Bt <| .R1 ?_
  exact ⟨by omega, (y3), ⟨by omega, hy3.2⟩, wk (Dt ((i2 : Int) + 1)) [0, 1, 2]⟩
 refine Bt <| .H ok0 <| .seq <| .block ?_
 refine Cj (fun (y4 : (List Int) × Int × (List TEv)) => ⟨[(0, .ptr 0 0), (2, .lb cal), (4, .ptr 1 0), (7, .own 2 y4.2.2.length), (8, .li NS)], [.box 84 [.mI y4.1, .li y4.2.1], .box 30 [.mJun c.juns, .mAg c.ags, .li c.per, .li c.cap, .li c.hold, .li c.lock], .row 46 5 false false (tEv y4.2.2)]⟩) (fun y4 => y4.1 = k.l /\ 0 <= y4.2.1 /\ (1 <= y4.2.2.length /\ y4.2.2.length <= 160) /\ ∀ e ∈ y4.2.2, EvQ e) (fun y4 => 150 - y4.2.2.length) (k.l, k.pos, y2 ++ ([⟨6, 0, 0, 0, []⟩])) (wk ok0 [0, 1, 2]) (⟨rfl, h0, ⟨by simp, by simp; omega⟩, EvQ.app hy2.2 (Hd rfl)⟩) fun y4 hy4 => ?_
 refine Ca ?_
 have hyl : (⟨y4.1, y4.2.1⟩ : Eo).l.length <= 300 := by show y4.1.length <= 300; rw [hy4.1]; exact h
 have hyp : 0 <= (⟨y4.1, y4.2.1⟩ : Eo).pos := hy4.2.1
 have hyk : (⟨y4.1, y4.2.1⟩ : Eo).l = k.l := hy4.1
 obtain ⟨⟨LB, LD⟩, hLF, hlf⟩ := Mz ⟨y4.1, y4.2.1⟩ hyl
 dsimp only at hlf hLF
 subst hlf
 refine B3 (fun K kk => by simp [go_sem]; refine .o [0] (hLF) ?_; simp [go_sem]; exact kk) ?_
 refine Br ?_ ?_ <;> intro h75
 ·refine Bp <| .block ?_
  obtain ⟨NN, hNN⟩ : ∃ NN, (if 1 < NS then NS else 1) = NN := ⟨_, rfl⟩
  have hnb : 1 <= NN /\ NN <= 100 := by rw [<- hNN]; split <;> omega
  obtain ⟨D1, hD1, hd1, hl1, hp1⟩ := dN ⟨y4.1, y4.2.1⟩ NN
  have hk1 : D1.2.l = k.l := hd1.1.trans (by assumption)
  refine B3 (fun K kk => by simp [go_sem, hNN]; refine .o [0] (hD1) ?_; simp [go_sem, hNN]; exact kk) ?_
  obtain ⟨D2, hD2, hd2, hl2, hp2⟩ := dN D1.2 12
  have hk2 : D2.2.l = k.l := hd2.1.trans (by assumption)
  refine B3 (fun K kk => by simp [go_sem]; refine .o [0] (hD2) ?_; simp [go_sem]; exact kk) <| .block ?_
  refine Cf (by rfl) fun K1 hK1 => ?_
  simp [go_sem]
  refine hK1 _ ⟨_, _, _, _, _, _, _, _, rfl, .more (by decide) rfl rfl (.more (by decide) rfl rfl (.one (by decide) rfl rfl)), by decide, rfl, by simp [go_sem]; rfl, by simp [go_sem]; rfl, by simp [go_sem], ?_⟩; clear hK1
  refine Br ?_ ?_ <;> intro h122
  ·refine B0 ok0 ?_
   refine ⟨(D2.2.l, D2.2.pos, y4.2.2 ++ ([⟨6, 0, 0, 0, []⟩])), ?_, ?_, [0, 1, 2], Ds (by decide) ?_ ?_, by simp⟩
   ·(first | (simp; omega) | omega)
   ·exact ⟨hk2, hp2, ⟨by simp, by simp; omega⟩, EvQ.app hy4.2.2.2 (Hd rfl)⟩
   all_goals simp [go_sem]
  refine Bq ?_
  refine Br ?_ ?_ <;> intro h131
  ·obtain ⟨D3, hD3, hd3, hl3, hp3⟩ := dN D2.2 6
   have hk3 : D3.2.l = k.l := hd3.1.trans (by assumption)
   refine B3 (fun K kk => by simp [go_sem]; refine .o [0] (hD3) ?_; simp [go_sem]; exact kk) <| .block ?_
   refine Cj (fun (y5 : (List TEv) × Int) => ⟨[(0, .ptr 0 0), (2, .lb cal), (4, .ptr 1 0), (7, .own 2 y5.1.length), (8, .li NS), (13, .li y5.2)], [.box 84 [.mI D3.2.l, .li D3.2.pos], .box 30 [.mJun c.juns, .mAg c.ags, .li c.per, .li c.cap, .li c.hold, .li c.lock], .row 46 5 false false (tEv y5.1)]⟩) (fun y5 => y5.1.length + y5.2 = y4.2.2.length + D3.1 /\ -1 <= y5.2 /\ ∀ e ∈ y5.1, EvQ e) (fun y5 => (y5.2 + 1).toNat) (y4.2.2, D3.1) (wk ok0 [0, 1, 2]) (⟨by simp, by dsimp only; omega, hy4.2.2.2⟩) fun y5 hy5 => ?_
   refine Ca <| .R ?_
   refine Br ?_ ?_ <;> intro h136
   ·refine Bp <| .seq <| .block <| .H1 ok0 ?_
    have hw1 := Dt (y5.2 - 1 : Int)
    refine B0 hw1 ?_
    refine ⟨(y5.1 ++ ([⟨6, 0, 0, 0, []⟩]), (y5.2 - 1)), ?_, ?_, [0, 1, 2], Ds (by decide) ?_ ?_, by simp⟩
    ·(dsimp only; omega)
    ·exact ⟨by simp; omega, by dsimp only; omega, EvQ.app hy5.2.2 (Hd rfl)⟩
    all_goals simp [go_sem, hw1]
   refine Bt ?_
   refine ⟨(D3.2.l, D3.2.pos, y5.1), ?_, ?_, [0, 1, 2], Ds (by decide) ?_ ?_, by simp⟩
   ·(first | (simp; omega) | omega)
   ·exact ⟨hk3, hp3, ⟨by dsimp only; omega, by dsimp only; omega⟩, hy5.2.2⟩
   all_goals simp [go_sem]
  refine Bq ?_
  refine Br ?_ ?_ <;> intro h143
  ·obtain ⟨O1, hO1, ho1⟩ := Nr D2.2 c D1.1 cal (by assumption) (by assumption)
   refine Cb (fun K kk => by simp [go_sem]; refine .o [0] (hO1) ?_; simp [go_sem]; (repeat first | exact kk | refine aK ?_)) ?_
   refine ⟨(O1.2.l, O1.2.pos, y4.2.2 ++ ([O1.1])), ?_, ?_, [0, 1, 2], Ds (by decide) ?_ ?_, by simp⟩
   ·(first | (simp; omega) | omega)
   ·exact ⟨ho1.1.trans hk2, ho1.2.1, ⟨by simp, by simp; omega⟩, EvQ.app hy4.2.2.2 ho1.2.2⟩
   all_goals simp [go_sem]
  obtain ⟨Y2, cY2, qY2⟩ := got (Qv c D1.1 hag)
  obtain ⟨M1, hM1, hm1⟩ := Ih D2.2 c Y2 cal (by assumption) (by assumption) hc.nj hph
  have hlM1 : M1.2.l.length <= 300 := by rw [hm1.1]; assumption
  have hpM1 := hm1.2.1
  have hkM1 : M1.2.l = k.l := hm1.1.trans (by assumption)
  obtain ⟨F1, hF1, hf1⟩ := mkF hm1.2.2
  refine Cz (fun K kk => by simp [go_sem]; refine .l cY2 ?_; simp [go_sem]; refine .o [0] (hM1) ?_; simp [go_sem]; refine .l (hF1) ?_; simp [go_sem]; exact kk) <| .seq ?_
  obtain ⟨D4, hD4, hd4, hl4, hp4⟩ := dN M1.2 3
  have hk4 : D4.2.l = k.l := hd4.1.trans (by assumption)
  refine B3 (fun K kk => by simp [go_sem]; refine .o [0] (hD4) ?_; simp [go_sem]; exact kk) ?_
  refine Br ?_ ?_ <;> intro h92
  ·obtain ⟨M2, hM2, hm2⟩ := Ih D4.2 c Y2 cal (by assumption) (by assumption) hc.nj hph
   have hlM2 : M2.2.l.length <= 300 := by rw [hm2.1]; assumption
   have hpM2 := hm2.2.1
   have hkM2 : M2.2.l = k.l := hm2.1.trans (by assumption)
   obtain ⟨F2, hF2, hf2⟩ := Awa hm2.2.2
   refine De (fun K kk => by simp [go_sem]; refine .l cY2 ?_; simp [go_sem]; refine .o [0] (hM2) ?_; simp [go_sem]; refine .l (hF2) ?_; simp [go_sem]; (repeat first | exact kk | refine aK ?_)) <| .seq ?_
   by_cases hc25 : cal = false
   ·have hcl : (M2.2 : Eo).l.length <= 300 := by assumption
    have hcp : 0 <= (M2.2 : Eo).pos := by assumption
    have hck : (M2.2 : Eo).l = k.l := by assumption
    have hB25 : ((F1 ++ F2)).length <= 1000 /\ By ((F1 ++ F2)) := by first | exact ⟨by omega, hf1.2⟩ | exact ⟨by simp; omega, hf1.2.app hf2.2⟩
    obtain ⟨D5, hD5, hd5, hl5, hp5⟩ := dN M2.2 7
    have hk5 : D5.2.l = k.l := hd5.1.trans (by assumption)
    refine B2 hc25 3 ?_
    refine B3 (fun K kk => by simp [go_sem, hc25]; refine Af8 [0] (hD5) (by simp [go_sem, hc25]) (by simp [go_sem, hc25]) (by simp [go_sem, hc25]) (by simp [go_sem, hc25]) (by constructor <;> simp [go_sem]) ?_; simp [go_sem, hc25]; exact kk) ?_
    refine Br ?_ ?_ <;> intro h109
    ·obtain ⟨D6, hD6, hd6, hl6, hp6⟩ := dN D5.2 99
     have hk6 : D6.2.l = k.l := hd6.1.trans (by assumption)
     obtain ⟨D7, hD7, hd7, hl7, hp7⟩ := dN D6.2 1024
     have hk7 : D7.2.l = k.l := hd7.1.trans (by assumption)
     have hq26 := Kr ((F1 ++ F2)) D6.1 D7.1 hB25.1
     refine Cb (fun K kk => by simp [go_sem, hc25]; refine .o [0] (hD6) ?_; simp [go_sem, hc25]; refine .o [0] (hD7) ?_; simp [go_sem, hc25]; refine .lo (Kq (F1 ++ F2) D6.1 D7.1 hB25.1) (by simp [go_sem]) (by simp [AV.cln, Ez]) ?_; simp [go_sem, hc25]; exact kk) ?_
     refine B0 hc25 ?_
     refine ⟨(D7.2.l, D7.2.pos, y4.2.2 ++ ([⟨3, D1.1, 0, 0, (Ge (F1 ++ F2) D6.1 D7.1 hB25.1)⟩])), ?_, ?_, [0, 1, 2], Ds (by decide) ?_ ?_, by simp⟩
     ·(first | (simp; omega) | omega)
     ·exact ⟨by assumption, by assumption, ⟨by simp, by simp; omega⟩, EvQ.app hy4.2.2.2 ⟨by dsimp only; omega, hq26.2 hB25.2⟩⟩
     all_goals simp [go_sem, hc25]
    refine Bp <| .H1 hc25 ?_
    refine ⟨(D5.2.l, D5.2.pos, y4.2.2 ++ ([⟨3, D1.1, 0, 0, F1 ++ F2⟩])), ?_, ?_, [0, 1, 2], Ds (by decide) ?_ ?_, by simp⟩
    ·(first | (simp; omega) | omega)
    ·exact ⟨by assumption, by assumption, ⟨by simp, by simp; omega⟩, EvQ.app hy4.2.2.2 ⟨by dsimp only; omega, hB25.2⟩⟩
    all_goals simp [go_sem, hc25]
   have hcl : (M2.2 : Eo).l.length <= 300 := by assumption
   have hcp : 0 <= (M2.2 : Eo).pos := by assumption
   have hck : (M2.2 : Eo).l = k.l := by assumption
   have hB25 : ((F1 ++ F2)).length <= 1000 /\ By ((F1 ++ F2)) := by first | exact ⟨by omega, hf1.2⟩ | exact ⟨by simp; omega, hf1.2.app hf2.2⟩
   refine B2 hc25 3 ?_
   refine B3 (fun K kk => by simp [go_sem, hc25]; refine Yb (by simp [go_sem, hc25]) ?_; simp [go_sem, hc25]; exact kk) ?_
   refine C5 ?_ ?_ <;> intro h109 <;> simp [go_sem] at h109
   refine Bp <| .H1 hc25 ?_
   refine ⟨(M2.2.l, M2.2.pos, y4.2.2 ++ ([⟨3, D1.1, 0, 0, F1 ++ F2⟩])), ?_, ?_, [0, 1, 2], Ds (by decide) ?_ ?_, by simp⟩
   ·(first | (simp; omega) | omega)
   ·exact ⟨by assumption, by assumption, ⟨by simp, by simp; omega⟩, EvQ.app hy4.2.2.2 ⟨by dsimp only; omega, hB25.2⟩⟩
   all_goals simp [go_sem, hc25]
  refine Bp <| .seq ?_
  by_cases hc25 : cal = false
  ·have hcl : (D4.2 : Eo).l.length <= 300 := by assumption
   have hcp : 0 <= (D4.2 : Eo).pos := by assumption
   have hck : (D4.2 : Eo).l = k.l := by assumption
   have hB25 : (F1).length <= 1000 /\ By (F1) := by first | exact ⟨by omega, hf1.2⟩ | exact ⟨by simp; omega, hf1.2.app hf2.2⟩
   obtain ⟨D5, hD5, hd5, hl5, hp5⟩ := dN D4.2 7
   have hk5 : D5.2.l = k.l := hd5.1.trans (by assumption)
   refine B2 hc25 3 ?_
   refine B3 (fun K kk => by simp [go_sem, hc25]; refine Af8 [0] (hD5) (by simp [go_sem, hc25]) (by simp [go_sem, hc25]) (by simp [go_sem, hc25]) (by simp [go_sem, hc25]) (by constructor <;> simp [go_sem]) ?_; simp [go_sem, hc25]; exact kk) ?_
   refine Br ?_ ?_ <;> intro h109
   ·obtain ⟨D6, hD6, hd6, hl6, hp6⟩ := dN D5.2 99
    have hk6 : D6.2.l = k.l := hd6.1.trans (by assumption)
    obtain ⟨D7, hD7, hd7, hl7, hp7⟩ := dN D6.2 1024
    have hk7 : D7.2.l = k.l := hd7.1.trans (by assumption)
    have hq26 := Kr (F1) D6.1 D7.1 hB25.1
    refine Cb (fun K kk => by simp [go_sem, hc25]; refine .o [0] (hD6) ?_; simp [go_sem, hc25]; refine .o [0] (hD7) ?_; simp [go_sem, hc25]; refine .lo (Kq F1 D6.1 D7.1 hB25.1) (by simp [go_sem]) (by simp [AV.cln, Ez]) ?_; simp [go_sem, hc25]; exact kk) ?_
    refine B0 hc25 ?_
    refine ⟨(D7.2.l, D7.2.pos, y4.2.2 ++ ([⟨3, D1.1, 0, 0, (Ge F1 D6.1 D7.1 hB25.1)⟩])), ?_, ?_, [0, 1, 2], Ds (by decide) ?_ ?_, by simp⟩
    ·(first | (simp; omega) | omega)
    ·exact ⟨by assumption, by assumption, ⟨by simp, by simp; omega⟩, EvQ.app hy4.2.2.2 ⟨by dsimp only; omega, hq26.2 hB25.2⟩⟩
    all_goals simp [go_sem, hc25]
   refine Bp <| .H1 hc25 ?_
   refine ⟨(D5.2.l, D5.2.pos, y4.2.2 ++ ([⟨3, D1.1, 0, 0, F1⟩])), ?_, ?_, [0, 1, 2], Ds (by decide) ?_ ?_, by simp⟩
   ·(first | (simp; omega) | omega)
   ·exact ⟨by assumption, by assumption, ⟨by simp, by simp; omega⟩, EvQ.app hy4.2.2.2 ⟨by dsimp only; omega, hB25.2⟩⟩
   all_goals simp [go_sem, hc25]
  have hcl : (D4.2 : Eo).l.length <= 300 := by assumption
  have hcp : 0 <= (D4.2 : Eo).pos := by assumption
  have hck : (D4.2 : Eo).l = k.l := by assumption
  have hB25 : (F1).length <= 1000 /\ By (F1) := by first | exact ⟨by omega, hf1.2⟩ | exact ⟨by simp; omega, hf1.2.app hf2.2⟩
  refine B2 hc25 3 ?_
  refine B3 (fun K kk => by simp [go_sem, hc25]; refine Yb (by simp [go_sem, hc25]) ?_; simp [go_sem, hc25]; exact kk) ?_
  refine C5 ?_ ?_ <;> intro h109 <;> simp [go_sem] at h109
  refine Bp <| .H1 hc25 ?_
  refine ⟨(D4.2.l, D4.2.pos, y4.2.2 ++ ([⟨3, D1.1, 0, 0, F1⟩])), ?_, ?_, [0, 1, 2], Ds (by decide) ?_ ?_, by simp⟩
  ·(first | (simp; omega) | omega)
  ·exact ⟨by assumption, by assumption, ⟨by simp, by simp; omega⟩, EvQ.app hy4.2.2.2 ⟨by dsimp only; omega, hB25.2⟩⟩
  all_goals simp [go_sem, hc25]
 refine Bt <| .H ok0 ?_
 refine B2 ok0 2 ?_
 exact .ret ⟨(y4.2.2 ++ ([⟨6, 0, 0, 0, []⟩]), (⟨y4.1, y4.2.1⟩ : Eo)), rW ok0 [0], ⟨hy4.1, hy4.2.1, ⟨by simp; omega, by first | (simp; done) | (simp; omega)⟩, EvQ.app hy4.2.2.2 (Hd rfl)⟩⟩
end Go.Proofs.YtkkimgjinbaemaaGreat
