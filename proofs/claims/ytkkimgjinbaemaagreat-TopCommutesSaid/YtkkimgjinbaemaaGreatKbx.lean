/- The walk. -/
import Derived.Test.YtkkimgjinbaemaaGreatKbw
namespace Go.Proofs.YtkkimgjinbaemaaGreat
open Go.RowKit
set_option linter.unusedVariables false
set_option linter.unusedSimpArgs false
set_option maxRecDepth 100000
set_option maxHeartbeats 4000000
theorem Nv (k : Int) (p : List Int) (h : p.length <= 10000) : ∃ d : List Int × Int, PP 68 [] [.li k, .mY p] [.row 5 1 false false (tY d.1)] (.tup [.own 0 d.1.length, .li d.2]) /\ (d.1.length <= 210 /\ (By p -> By d.1)) := by
 refine Km (D := List Int × Int) (F := fun d => .tup [.own 0 d.1.length, .li d.2]) (S := fun d => [.row 5 1 false false (tY d.1)]) (Q := fun d => d.1.length <= 210 /\ (By p -> By d.1)) Tryz.func68 rfl rfl rfl (by simp [Tryz.ntmps68]) ?_
 have h7 : (6 + (p.length : Int)).toNat - 2 = p.length + 4 := by omega
 refine VX.R <| .seq <| .block ?_
 refine VX.R ?_
 refine VX.C ?_ ?_ <;> intro h9 <;> simp [go_sem] at h9
 ·refine VX.R ?_
  refine VX.own0 4 5 1 (by decide) (k' := 1) (by simp [go_sem]) ?_
  simp [go_sem, -Prod.exists]
  exact .ret ⟨([], 8), rW ok0 [0], (by first | exact ⟨Ae _, fun _ => Kt⟩ | exact ⟨by simp; omega, fun h => (hBy h).app (fun x hx => by simp at hx; rcases hx with rfl | rfl | rfl | rfl <;> exact Acg _)⟩)⟩
 refine VX.R ?_
 refine VX.C ?_ ?_ <;> intro h16 <;> simp [go_sem] at h16
 ·refine VX.R ?_
  refine VX.own0 4 5 1 (by decide) (k' := 1) (by simp [go_sem]) ?_
  simp [go_sem, -Prod.exists]
  exact .ret ⟨([], 7), rW ok0 [0], (by first | exact ⟨Ae _, fun _ => Kt⟩ | exact ⟨by simp; omega, fun h => (hBy h).app (fun x hx => by simp at hx; rcases hx with rfl | rfl | rfl | rfl <;> exact Acg _)⟩)⟩
 refine VX.skip <| .R ?_
 refine VX.H ok0 ?_
 obtain ⟨B, hBe⟩ : ∃ B, B = (([90, 165, 1, IntKind.u8.wrap k, IntKind.u8.wrap (Int.fdiv p.length (2 ^ min (Int.toNat 8) 64)), IntKind.u8.wrap p.length]) ++ p) := ⟨_, rfl⟩
 have hB : B.length = 6 + p.length := by rw [hBe]; simp; omega
 have hBy : By p -> By B := fun h => by rw [hBe]; exact By.app (fun x hx => by simp at hx; rcases hx with rfl | rfl | rfl | rfl | rfl | rfl <;> first | exact Acg _ | omega) h
 refine VX.rowIs 0 (tY B) rfl (by simp [go_sem, hBe]) ?_
 simp [go_sem, -Prod.exists]
 obtain ⟨Y1, cY1, qY1⟩ := got (Pa (B.drop 2) (by simp; omega))
 refine VX.S (fun K kk => by simp [go_sem, hB]; (repeat refine aK ?_); refine .lo cY1 (by simp [go_sem, hB, h7]; rw [Bf (by simp; omega)]) (by simp [AV.cln, Cp]) ?_; simp [go_sem, hB]; exact kk) ?_
 refine VX.H hB ?_
 exact .ret ⟨(B ++ ([IntKind.u8.wrap (Int.fdiv Y1 (2 ^ min (Int.toNat 24) 32)), IntKind.u8.wrap (Int.fdiv Y1 (2 ^ min (Int.toNat 16) 32)), IntKind.u8.wrap (Int.fdiv Y1 (2 ^ min (Int.toNat 8) 32)), IntKind.u8.wrap Y1]), 0), rW hB [0], (by first | exact ⟨Ae _, fun _ => Kt⟩ | exact ⟨by simp; omega, fun h => (hBy h).app (fun x hx => by simp at hx; rcases hx with rfl | rfl | rfl | rfl <;> exact Acg _)⟩)⟩
theorem Nu (m : B3) (h1 : m.tok.length <= 10000) (h2 : m.args.length <= 10000) (h3 : m.data.length <= 10000) : ∃ d : List Int × Int, PP 46 [] [m.g] [.row 5 1 false false (tY d.1)] (.tup [.own 0 d.1.length, .li d.2]) /\ (d.1.length <= 210 /\ (By m.tok -> By m.data -> By d.1)) := by
 refine Km (D := List Int × Int) (F := fun d => .tup [.own 0 d.1.length, .li d.2]) (S := fun d => [.row 5 1 false false (tY d.1)]) (Q := fun d => d.1.length <= 210 /\ (By m.tok -> By m.data -> By d.1)) Tryz.func46 rfl rfl rfl (by simp [Tryz.ntmps46]) ?_
 obtain ⟨Y1, cY1, qY1⟩ := got (M4 m h1 h2 h3)
 have hq := qY1
 have hq2 : Y1.1.length <= 10000 := by omega
 obtain ⟨Y2, cY2, qY2⟩ := Nv m.kind Y1.1 hq2
 have hXv := cY2
 have hXq := qY2
 generalize Y2 = X at hXv hXq
 refine VX.R ?_
 refine VX.L ok0 cY1 <| .seq ?_
 refine VX.R ?_
 refine VX.C ?_ ?_ <;> intro h12 <;> simp [go_sem] at h12
 ·refine VX.R ?_
  refine VX.own0 2 5 1 (by decide) (k' := 1) (by simp [go_sem]) ?_
  simp [go_sem, -Prod.exists]
  exact .ret ⟨([], Y1.2), rW ok0 [1], (by first | exact ⟨Ae _, fun _ _ => Kt⟩ | exact ⟨hXq.1, fun a b => hXq.2 (hq.2 a b)⟩)⟩
 refine VX.skip <| .L ok0 (hXv) ?_
 exact .ret ⟨(X.1, X.2), rW ok0 [1], (by first | exact ⟨Ae _, fun _ _ => Kt⟩ | exact ⟨hXq.1, fun a b => hXq.2 (hq.2 a b)⟩)⟩
theorem Oq (m : B3) (h1 : m.tok.length <= 10000) (h2 : m.args.length <= 10000) (h3 : m.data.length <= 10000) : ∃ d : List Int, PP 18 [] [m.g] [.row 5 1 false false (tY d)] (.own 0 d.length) /\ (d.length <= 210 /\ (By m.tok -> By m.data -> By d)) := by
 refine Km (D := List Int) (F := fun d => .own 0 d.length) (S := fun d => [.row 5 1 false false (tY d)]) (Q := fun d => d.length <= 210 /\ (By m.tok -> By m.data -> By d)) Tryz.func18 rfl rfl rfl (by simp [Tryz.ntmps18]) ?_
 obtain ⟨Y1, cY1, qY1⟩ := Nu m h1 h2 h3
 have hXv := cY1
 have hXq := qY1
 generalize Y1 = X at hXv hXq
 refine VX.R ?_
 refine VX.L ok0 (hXv) ?_
 refine VX.R ?_
 exact .ret ⟨X.1, rW ok0 [1], hXq⟩
theorem Lu (k : Cf) (n : Int) (h : k.l.length <= 300) (h0 : 0 <= k.pos) (h1 : 0 <= n) (h2 : n <= 1000) : Cx 59 [.box 84 (k.a false)] [.ptr 0 0, .li n] (fun d : List Int × Cf => [.box 84 (d.2.a false), .row 5 1 false false (tY d.1)]) (fun d => .own 1 d.1.length) (fun d => d.2.l = k.l /\ 0 <= d.2.pos /\ d.1.length <= n.toNat /\ By d.1) := by
 refine Pr Tryz.func59 ?_
 refine VX.R ?_
 refine VX.R <| .seq ?_
 obtain ⟨N1, hN1, hq1⟩ := Ds k (n + 1) h h0 (by omega) (by omega)
 have hw1 := Bq (n + 1 : Int)
 refine VX.S (fun K kk => by simp [go_sem, hw1]; refine .o [0] (hN1) ?_; simp [go_sem, hw1]; exact kk) <| .block ?_
 refine VX.own0 5 5 1 (by decide) (k' := 1) (by simp [go_sem]) ?_
 simp [go_sem, -Prod.exists]
 refine VX.whileE (fun (y1 : (List Int) × Int × (List Int) × Int) => ⟨[(0, .ptr 0 0), (5, .own 1 y1.2.2.1.length), (6, .li y1.2.2.2)], [.box 84 [.mI y1.1, .li y1.2.1], .row 5 1 false false (tY y1.2.2.1)]⟩) (fun y1 => y1.1 = k.l /\ k.pos <= y1.2.1 /\ y1.2.2.1.length + y1.2.2.2 <= n /\ 0 <= y1.2.2.2 /\ By y1.2.2.1) (fun y1 => y1.2.2.2.toNat) (N1.2.l, N1.2.pos, [], N1.1) (wk hw1 [0, 1]) (⟨hq1.1, hq1.2.1, by simp; omega, hq1.2.2.1, Kt⟩) fun y1 hy1 => ?_
 refine VX.seq <| .H hw1 ?_
 refine VX.C ?_ ?_ <;> intro h12 <;> simp [go_sem] at h12
 ·refine VX.skip <| .seq <| .block ?_
  obtain ⟨N2, hN2, hq2⟩ := Ds ⟨y1.1, y1.2.1⟩ 256 (by show y1.1.length <= 300; rw [hy1.1]; exact h) (by show 0 <= y1.2.1; omega) (by omega) (by omega)
  dsimp only at hq2
  refine VX.S1 (fun K kk => by simp [go_sem, hw1]; refine .o [0] (hN2) ?_; simp [go_sem, hw1]; (repeat first | exact kk | refine aK ?_)) ?_
  have hw2 := Bq (y1.2.2.2 - 1 : Int)
  refine VX.H1 (cj2 hw1 hw2) ?_
  refine ⟨(N2.2.l, N2.2.pos, y1.2.2.1 ++ ([IntKind.u8.wrap N2.1]), (y1.2.2.2 - 1)), ?_, ?_, [0, 1], Bp (by decide) ?_ ?_, by simp⟩
  ·dsimp only; omega
  ·exact ⟨hq2.1.trans hy1.1, by dsimp only; omega, by simp; omega, by dsimp only; omega, hy1.2.2.2.2.app (Oj _)⟩
  all_goals simp [go_sem, hw1, hw2]
 refine VX.exit <| .H hw1 ?_
 exact .ret ⟨(y1.2.2.1, ⟨y1.1, y1.2.1⟩), rW hw1 [0, 1], ⟨hy1.1, by have := hy1.2.1; dsimp only; omega, by dsimp only; omega, hy1.2.2.2.2⟩⟩
theorem Kz (k : Cf) (c : Dy) (l : List Int) (h : k.l.length <= 300) (h0 : 0 <= k.pos) (hj : 1 <= c.juns.length /\ c.juns.length <= 2) (hp : ∀ j ∈ c.juns, j.phs.length <= 8 /\ 1 <= j.phs.length) (hl : l.length <= 1000) : Cx 45 [.box 84 [.mI k.l, .li k.pos], .row 3 1 true false (tI l)] [.ptr 0 0, c.g, .own 1 l.length] (fun d : List Int × Cf => [.box 84 (d.2.a false), .row 3 1 false false (tI d.1)]) (fun d => .own 1 d.1.length) (fun d => d.2.l = k.l /\ 0 <= d.2.pos /\ d.1.length <= l.length + 8) := by
 refine Pr Tryz.func45 ?_
 refine VX.dull 1 rfl ?_
 simp [go_sem, -Prod.exists]
 refine VX.R ?_
 obtain ⟨D1, hD1, hd1, hl1, hp1⟩ := dN k 2
 have hw1 := Bq (1 + D1.1)
 refine VX.S (fun K kk => by simp [go_sem, hw1]; refine .o [0] (hD1) ?_; simp [go_sem, hw1]; exact kk) <| .seq ?_
 refine VX.R <| .block ?_
 refine VX.rangeE ((1 + D1.1).toNat) (fun i1 (y1 : (List Int) × Int × (List Int)) => ⟨[(0, .ptr 0 0), (2, .own 1 y1.2.2.length), (4, .ptr 2 0), (15, .li (1 + D1.1)), (16, .li i1)], [.box 84 [.mI y1.1, .li y1.2.1], .row 3 1 false false (tI y1.2.2), .box 30 [.mJun c.juns, .mAg c.ags, .li c.per, .li c.cap, .li c.hold, .li c.lock]]⟩) (fun i1 y1 => y1.1 = k.l /\ 0 <= y1.2.1 /\ y1.2.2.length = l.length + 4 * i1) (D1.2.l, D1.2.pos, l) (wk ok0 [0, 1, 2]) (⟨hd1.1, hp1, by simp⟩) fun i1 y1 hi1 hy1 => ?_
 refine VX.R <| .seq ?_
 refine VX.C ?_ ?_ <;> intro h17 <;> simp [go_sem] at h17
 ·refine VX.skip <| .seq <| .block <| .R ?_
  have hyl : (⟨y1.1, y1.2.1⟩ : Cf).l.length <= 300 := by show y1.1.length <= 300; rw [hy1.1]; exact h
  have hyp : 0 <= (⟨y1.1, y1.2.1⟩ : Cf).pos := hy1.2.1
  obtain ⟨D2, hD2, hd2, hl2, hp2⟩ := dN ⟨y1.1, y1.2.1⟩ 3
  obtain ⟨D3, hD3, hd3, hl3, hp3⟩ := dN D2.2 12
  have hE : 0 <= Int.tdiv D3.1 11 /\ Int.tdiv D3.1 11 <= 1 := by rw [Int.tdiv_eq_ediv_of_nonneg (by omega)]; omega
  have hq1 := Bq (D2.1 + i1)
  have hq2 := Bq (Int.tdiv D3.1 11)
  have hq3 := Bq ((c.juns.length : Int) + Int.tdiv D3.1 11)
  obtain ⟨JJ, hJJ⟩ : ∃ JJ, Int.tmod (D2.1 + i1) (if 1 < (c.juns.length : Int) + Int.tdiv D3.1 11 then (c.juns.length : Int) + Int.tdiv D3.1 11 else 1) = JJ := ⟨_, rfl⟩
  have hJ0 : 0 <= JJ := by rw [<- hJJ]; exact Int.tmod_nonneg _ (by omega)
  refine VX.draw_seq (by kernel_rfl) (by rfl) (by kernel_rfl) fun K1 hK1 => ?_
  simp [go_sem, hq1, hq2, hq3, hJJ]
  refine .o [0] (hD2) ?_
  simp [go_sem, hq1, hq2, hq3, hJJ]
  refine .o [0] (hD3) ?_
  simp [go_sem, hq1, hq2, hq3, hJJ]
  repeat' with_reducible refine Ax ?_ ?_
  all_goals try (intros; (repeat' refine Ax ?_ ?_) <;> omega)
  all_goals try (split <;> omega)
  refine hK1 _ _ (by kernel_rfl) ?_; clear hK1
  refine VX.R <| .seq ?_
  refine VX.R ?_
  refine VX.C ?_ ?_ <;> intro h36 <;> simp [go_sem] at h36
  ·obtain ⟨e1, H1⟩ := gx c.juns JJ.toNat
   refine VX.H1 H1 ?_
   obtain ⟨D4, hD4, hd4, hl4, hp4⟩ := dN D3.2 3
   refine VX.S (fun K kk => by simp [go_sem, H1]; refine .o [0] (hD4) ?_; simp [go_sem, H1]; exact kk) ?_
   obtain ⟨D5, hD5, hd5, hl5, hp5⟩ := dN D4.2 12
   have hF : 0 <= Int.tdiv D5.1 11 /\ Int.tdiv D5.1 11 <= 1 := by rw [Int.tdiv_eq_ediv_of_nonneg (by omega)]; omega
   have hq4 := Bq (Int.tdiv D5.1 11)
   have hpb : 1 <= (e1.phs.length : Int) /\ (e1.phs.length : Int) <= 8 := by first | (have := hp e1 (Ac H1); omega) | omega
   obtain ⟨PN, hPN⟩ : ∃ PN, ((e1.phs.length : Int) + Int.tdiv D5.1 11) = PN := ⟨_, rfl⟩
   have hq5 := Bq PN
   obtain ⟨D6, hD6, hd6, hl6, hp6⟩ := dN D5.2 PN
   obtain ⟨D7, hD7, hd7, hl7, hp7⟩ := dN D6.2 50
   have hq6 := Bq (D4.1 + D7.1)
   refine VX.S1 (fun K kk => by simp [go_sem, H1, hq4, hq5, hPN, hq6]; refine .o [0] (hD5) ?_; simp [go_sem, H1, hq4, hq5, hPN, hq6]; (repeat refine aK ?_); refine .o [0] (hD6) ?_; simp [go_sem, H1, hq4, hq5, hPN, hq6]; refine .o [0] (hD7) ?_; simp [go_sem, H1, hq4, hq5, hPN, hq6]; (repeat first | exact kk | refine aK ?_)) ?_
   refine VX.H1 H1 ?_
   exact ⟨by omega, (D7.2.l, D7.2.pos, y1.2.2 ++ ([JJ, D6.1, D4.1, (D4.1 + D7.1)])), ⟨by rw [hd7.1, hd6.1, hd5.1, hd4.1, hd3.1, hd2.1]; exact hy1.1, hp7, by simp; omega⟩, wk (cj2 (Bq ((i1 : Int) + 1)) H1) [0, 1, 2]⟩
  refine VX.skip ?_
  obtain ⟨D4, hD4, hd4, hl4, hp4⟩ := dN D3.2 3
  refine VX.S (fun K kk => by simp [go_sem]; refine .o [0] (hD4) ?_; simp [go_sem]; exact kk) ?_
  obtain ⟨D5, hD5, hd5, hl5, hp5⟩ := dN D4.2 12
  have hF : 0 <= Int.tdiv D5.1 11 /\ Int.tdiv D5.1 11 <= 1 := by rw [Int.tdiv_eq_ediv_of_nonneg (by omega)]; omega
  have hq4 := Bq (Int.tdiv D5.1 11)
  have hpb : 1 <= (2 : Int) /\ (2 : Int) <= 8 := by first | (have := hp e1 (Ac H1); omega) | omega
  obtain ⟨PN, hPN⟩ : ∃ PN, ((2 : Int) + Int.tdiv D5.1 11) = PN := ⟨_, rfl⟩
  have hq5 := Bq PN
  obtain ⟨D6, hD6, hd6, hl6, hp6⟩ := dN D5.2 PN
  obtain ⟨D7, hD7, hd7, hl7, hp7⟩ := dN D6.2 50
  have hq6 := Bq (D4.1 + D7.1)
  refine VX.S1 (fun K kk => by simp [go_sem, hq4, hq5, hPN, hq6]; refine .o [0] (hD5) ?_; simp [go_sem, hq4, hq5, hPN, hq6]; (repeat refine aK ?_); refine .o [0] (hD6) ?_; simp [go_sem, hq4, hq5, hPN, hq6]; refine .o [0] (hD7) ?_; simp [go_sem, hq4, hq5, hPN, hq6]; (repeat first | exact kk | refine aK ?_)) ?_
  refine VX.R1 ?_
  exact ⟨by omega, (D7.2.l, D7.2.pos, y1.2.2 ++ ([JJ, D6.1, D4.1, (D4.1 + D7.1)])), ⟨by rw [hd7.1, hd6.1, hd5.1, hd4.1, hd3.1, hd2.1]; exact hy1.1, hp7, by simp; omega⟩, wk (Bq ((i1 : Int) + 1)) [0, 1, 2]⟩
 refine VX.exit <| .R ?_
 exact .ret ⟨(y1.2.2, ⟨y1.1, y1.2.1⟩), rW ok0 [0, 1], ⟨hy1.1, hy1.2.1, by dsimp only; omega⟩⟩
def MkQ (m : B3) : Prop := m.tok.length = 10 /\ By m.tok /\ m.args.length <= 20 /\ m.data = []
theorem Af8 {a s : Int} {n : Int} {h : (Bt n).length <= 1000} : (Ca a s (Bt n) h).length = 10 /\ By (Ca a s (Bt n) h) := by
 have h1 := Ny a s (Bt n) h
 have h2 := F6 n
 exact ⟨by rw [h1.1, h2.1], h1.2 h2.2⟩
theorem Aif {l : List Int} {i : Nat} {e : Int} (h : l[i]? = some e) : (l.map fun x => [T.lit (Value.int IntKind.i64 x)])[i]? = some [T.lit (Value.int IntKind.i64 e)] := by rw [Ap, h]; rfl
theorem Agg (n : Int) : (Bt n).length <= 1000 := by rw [(F6 n).1]; decide
theorem F3 (k : Cf) (c : Dy) (ag : Int) (cal : Bool) (h : k.l.length <= 300) (h0 : 0 <= k.pos) (hj : 1 <= c.juns.length /\ c.juns.length <= 2) (hp : ∀ j ∈ c.juns, j.phs.length <= 8 /\ 1 <= j.phs.length) : Cx 17 [.box 84 (k.a false)] [.ptr 0 0, c.g, .li ag, .lb cal] (fun d : B3 × Cf => [.box 84 (d.2.a false)]) (fun d => d.1.g) (fun d => d.2.l = k.l /\ 0 <= d.2.pos /\ MkQ d.1) := by
 refine Pr Tryz.func17 ?_
 refine VX.R ?_
 obtain ⟨D1, hD1, hd1, hl1, hp1⟩ := dN k 12
 have hw1 := Bq (1 + D1.1)
 refine VX.S (fun K kk => by simp [go_sem, hw1]; refine .o [0] (hD1) ?_; simp [go_sem, hw1]; refine .l (De (IntKind.i64.wrap (1000 + ag))) ?_; simp [go_sem, hw1]; refine .lo (Ez ag 0 (Bt (IntKind.i64.wrap (1000 + ag))) (Agg _)) rfl (by simp [AV.cln, Cp]) ?_; simp [go_sem, hw1]; exact kk) ?_
 refine VX.cut (fun s => ∃ (DL1 : List Int) (DP1 : Int) (TK : List Int), (DL1 = k.l /\ 0 <= DP1 /\ TK.length = 10 /\ By TK) /\ s = ⟨[(0, .ptr 0 0), (3, .lb cal), (5, .ptr 1 0), (8, .ptr 2 0), (9, .ptr 3 0)], [.box 84 [.mI DL1, .li DP1], .box 30 [.mJun c.juns, .mAg c.ags, .li c.per, .li c.cap, .li c.hold, .li c.lock], .box 56 [.li 0, .nil 1, .nil 1, .nil 1], .box 56 [.li (1 + D1.1), .mY TK, .nil 1, .nil 1]]⟩) ?_ ?_
 ·obtain ⟨D2, hD2, hd2, hl2, hp2⟩ := dN D1.2 9
  refine VX.S (fun K kk => by simp [go_sem]; refine .o [0] (hD2) ?_; simp [go_sem]; exact kk) <| .block ?_
  refine VX.R ?_
  refine VX.C ?_ ?_ <;> intro h24 <;> simp [go_sem] at h24
  ·obtain ⟨D3, hD3, hd3, hl3, hp3⟩ := dN D2.2 4
   obtain ⟨D4, hD4, hd4, hl4, hp4⟩ := dN D3.2 3
   refine VX.S1 (fun K kk => by simp [go_sem]; refine .o [0] (hD3) ?_; simp [go_sem]; refine .o [0] (hD4) ?_; simp [go_sem]; refine .l (De (IntKind.i64.wrap (IntKind.i64.wrap (2000 + (IntKind.i64.wrap (10 * ag))) + D4.1))) ?_; simp [go_sem]; refine .lo (Ez ag D3.1 (Bt (IntKind.i64.wrap (IntKind.i64.wrap (2000 + (IntKind.i64.wrap (10 * ag))) + D4.1))) (Agg _)) rfl (by simp [AV.cln, Cp]) ?_; simp [go_sem]; exact kk) ?_
   refine ⟨[0, 1, 2, 3], _, Bp (by decide) ?_ ?_, by simp, D4.2.l, D4.2.pos, (Ca ag D3.1 (Bt (IntKind.i64.wrap (IntKind.i64.wrap (2000 + (IntKind.i64.wrap (10 * ag))) + D4.1))) (Agg _)), ⟨hd4.1.trans (hd3.1.trans (hd2.1.trans hd1.1)), hp4, Af8.1, Af8.2⟩, rfl⟩
   all_goals simp [go_sem]
  refine VX.R ?_
  refine VX.C ?_ ?_ <;> intro h38 <;> simp [go_sem] at h38
  ·obtain ⟨D5, hD5, hd5, hl5, hp5⟩ := dN D2.2 3
   obtain ⟨D6, hD6, hd6, hl6, hp6⟩ := dN D5.2 3
   refine VX.S1 (fun K kk => by simp [go_sem]; refine .o [0] (hD5) ?_; simp [go_sem]; refine .o [0] (hD6) ?_; simp [go_sem]; refine .l (De (IntKind.i64.wrap (1000 + D6.1))) ?_; simp [go_sem]; refine .lo (Ez D5.1 0 (Bt (IntKind.i64.wrap (1000 + D6.1))) (Agg _)) rfl (by simp [AV.cln, Cp]) ?_; simp [go_sem]; exact kk) ?_
   refine ⟨[0, 1, 2, 3], _, Bp (by decide) ?_ ?_, by simp, D6.2.l, D6.2.pos, (Ca D5.1 0 (Bt (IntKind.i64.wrap (1000 + D6.1))) (Agg _)), ⟨hd6.1.trans (hd5.1.trans (hd2.1.trans hd1.1)), hp6, Af8.1, Af8.2⟩, rfl⟩
   all_goals simp [go_sem]
  refine VX.skip ?_
  refine ⟨[0, 1, 2, 3], _, Bp (by decide) ?_ ?_, by simp, D2.2.l, D2.2.pos, (Ca ag 0 (Bt (IntKind.i64.wrap (1000 + ag))) (Agg _)), ⟨hd2.1.trans hd1.1, hp2, Af8.1, Af8.2⟩, rfl⟩
  all_goals simp [go_sem]
 rintro _ ⟨DL1, DP1, TK, hc1, rfl⟩
 refine VX.cut (fun s => ∃ (DL2 : List Int) (DP2 : Int) (KD : Int), (DL2 = k.l /\ 0 <= DP2) /\ s = ⟨[(0, .ptr 0 0), (3, .lb cal), (5, .ptr 1 0), (8, .ptr 2 0), (9, .ptr 3 0)], [.box 84 [.mI DL2, .li DP2], .box 30 [.mJun c.juns, .mAg c.ags, .li c.per, .li c.cap, .li c.hold, .li c.lock], .box 56 [.li 0, .nil 1, .nil 1, .nil 1], .box 56 [.li KD, .mY TK, .nil 1, .nil 1]]⟩) ?_ ?_
 ·have hyl : (⟨DL1, DP1⟩ : Cf).l.length <= 300 := by show DL1.length <= 300; rw [hc1.1]; exact h
  have hyp : 0 <= (⟨DL1, DP1⟩ : Cf).pos := hc1.2.1
  obtain ⟨D7, hD7, hd7, hl7, hp7⟩ := dN ⟨DL1, DP1⟩ 2
  refine VX.S (fun K kk => by simp [go_sem]; refine .o [0] (hD7) ?_; simp [go_sem]; exact kk) ?_
  refine VX.C ?_ ?_ <;> intro h50 <;> simp [go_sem] at h50
  ·obtain ⟨D8, hD8, hd8, hl8, hp8⟩ := dN D7.2 4
   obtain ⟨e1, H1⟩ := gx ([6, 4, 6, 7] : List Int) D8.1.toNat
   have hxte1 : [[T.lit (Value.int IntKind.i64 6)], [T.lit (Value.int IntKind.i64 4)], [T.lit (Value.int IntKind.i64 6)], [T.lit (Value.int IntKind.i64 7)]][D8.1.toNat]? = some [T.lit (Value.int IntKind.i64 e1)] := Aif (l := [6, 4, 6, 7]) H1
   refine VX.S1 (fun K kk => by simp [go_sem, H1, hxte1]; refine .o [0] (hD8) ?_; simp [go_sem, H1, hxte1]; (repeat first | exact kk | refine aK ?_)) ?_
   refine ⟨[0, 1, 2, 3], _, Bp (by decide) ?_ ?_, by simp, D8.2.l, D8.2.pos, e1, ⟨hd8.1.trans (hd7.1.trans hc1.1), hp8⟩, rfl⟩
   all_goals simp [go_sem, H1, hxte1]
  refine VX.skip ?_
  refine ⟨[0, 1, 2, 3], _, Bp (by decide) ?_ ?_, by simp, D7.2.l, D7.2.pos, (1 + D1.1), ⟨hd7.1.trans hc1.1, hp7⟩, rfl⟩
  all_goals simp [go_sem]
 rintro _ ⟨DL2, DP2, KD, hc2, rfl⟩
 have hyl : (⟨DL2, DP2⟩ : Cf).l.length <= 300 := by show DL2.length <= 300; rw [hc2.1]; exact h
 have hyp : 0 <= (⟨DL2, DP2⟩ : Cf).pos := hc2.2
 obtain ⟨D9, hD9, hd9, hl9, hp9⟩ := dN ⟨DL2, DP2⟩ 4
 refine VX.S (fun K kk => by simp [go_sem]; refine .o [0] (hD9) ?_; simp [go_sem]; exact kk) ?_
 refine VX.cut (fun s => ∃ (CL : Int) (DL3 : List Int) (DP3 : Int), (DL3 = k.l /\ 0 <= DP3) /\ s = ⟨[(0, .ptr 0 0), (5, .ptr 1 0), (8, .ptr 2 0), (9, .ptr 3 0), (10, .li CL)], [.box 84 [.mI DL3, .li DP3], .box 30 [.mJun c.juns, .mAg c.ags, .li c.per, .li c.cap, .li c.hold, .li c.lock], .box 56 [.li 0, .nil 1, .nil 1, .nil 1], .box 56 [.li KD, .mY TK, .nil 1, .nil 1]]⟩) ?_ ?_
 ·refine VX.R ?_
  refine VX.C ?_ ?_ <;> intro h59 <;> simp [go_sem] at h59
  ·obtain ⟨D10, hD10, hd10, hl10, hp10⟩ := dN D9.2 2
   refine VX.S1 (fun K kk => by simp [go_sem]; refine .o [0] (hD10) ?_; simp [go_sem]; exact kk) ?_
   refine ⟨[0, 1, 2, 3], _, Bp (by decide) ?_ ?_, by simp, D10.1, D10.2.l, D10.2.pos, ⟨hd10.1.trans (hd9.1.trans hc2.1), hp10⟩, rfl⟩
   all_goals simp [go_sem]
  refine VX.skip ?_
  refine ⟨[0, 1, 2, 3], _, Bp (by decide) ?_ ?_, by simp, D9.1, D9.2.l, D9.2.pos, ⟨hd9.1.trans hc2.1, hp9⟩, rfl⟩
  all_goals simp [go_sem]
 rintro _ ⟨CL, DL3, DP3, hc3, rfl⟩
 refine VX.seq <| .R <| .block ?_
 refine VX.R ?_
 refine VX.C ?_ ?_ <;> intro h64 <;> simp [go_sem] at h64
 ·have hyl : (⟨DL3, DP3⟩ : Cf).l.length <= 300 := by show DL3.length <= 300; rw [hc3.1]; exact h
  have hyp : 0 <= (⟨DL3, DP3⟩ : Cf).pos := hc3.2
  obtain ⟨D11, hD11, hd11, hl11, hp11⟩ := dN ⟨DL3, DP3⟩ 5
  obtain ⟨D12, hD12, hd12, hl12, hp12⟩ := dN D11.2 5
  obtain ⟨D13, hD13, hd13, hl13, hp13⟩ := dN D12.2 4
  obtain ⟨e2, H2⟩ := gx ([63, 1, 3, 47, 64] : List Int) D11.1.toNat
  have hxte2 : [[T.lit (Value.int IntKind.i64 63)], [T.lit (Value.int IntKind.i64 1)], [T.lit (Value.int IntKind.i64 3)], [T.lit (Value.int IntKind.i64 47)], [T.lit (Value.int IntKind.i64 64)]][D11.1.toNat]? = some [T.lit (Value.int IntKind.i64 e2)] := Aif (l := [63, 1, 3, 47, 64]) H2
  obtain ⟨e3, H3⟩ := gx ([0, 5, 30, 700] : List Int) D13.1.toNat
  have hxte3 : [[T.lit (Value.int IntKind.i64 0)], [T.lit (Value.int IntKind.i64 5)], [T.lit (Value.int IntKind.i64 30)], [T.lit (Value.int IntKind.i64 700)]][D13.1.toNat]? = some [T.lit (Value.int IntKind.i64 e3)] := Aif (l := [0, 5, 30, 700]) H3
  refine VX.E1 (fun K kk => by simp [go_sem, H2, hxte2, H3, hxte3]; refine .o [0] (hD11) ?_; simp [go_sem, H2, hxte2, H3, hxte3]; (repeat refine aK ?_); refine .o [0] (hD12) ?_; simp [go_sem, H2, hxte2, H3, hxte3]; refine .o [0] (hD13) ?_; simp [go_sem, H2, hxte2, H3, hxte3]; (repeat first | exact kk | refine aK ?_)) ?_
  refine VX.H (cj4 H2 hxte2 H3 hxte3) ?_
  refine VX.Z ok0 6 ?_
  exact .ret ⟨(⟨KD, TK, [e2, D12.1, e3], []⟩, D13.2), rW (cj4 H2 hxte2 H3 hxte3) [0], ⟨by first | exact hc3.1 | exact hd14.1.trans hc3.1 | exact hd15.1.trans hc3.1 | exact hy1.1 | exact hlg.1.trans (hd18.1.trans (hd17.1.trans (hd16.1.trans hc3.1))) | exact hd13.1.trans (hd12.1.trans (hd11.1.trans hc3.1)), by first | exact hc3.2 | exact hp14 | exact hp15 | exact hp13 | exact hlg.2.1 | exact hy1.2.1, hc1.2.2.1, hc1.2.2.2, by first | (simp; done) | (have h9 := hlg.2.2; simp at h9; dsimp only; omega) | (dsimp only; omega), rfl⟩⟩
 refine VX.orcases2 (by rfl) fun K1 hK1 => ?_
 simp [go_sem]
 refine hK1 _ ⟨_, _, _, _, _, _, _, _, rfl, .more (by decide) rfl rfl (.more (by decide) rfl rfl (.more (by decide) rfl rfl (.one (by decide) rfl rfl))), by decide, rfl, by simp [go_sem]; rfl, by simp [go_sem]; rfl, by simp [go_sem], ?_⟩; clear hK1
 refine VX.C ?_ ?_ <;> intro h80 <;> simp [go_sem] at h80
 ·have hyl : (⟨DL3, DP3⟩ : Cf).l.length <= 300 := by show DL3.length <= 300; rw [hc3.1]; exact h
  have hyp : 0 <= (⟨DL3, DP3⟩ : Cf).pos := hc3.2
  obtain ⟨D14, hD14, hd14, hl14, hp14⟩ := dN ⟨DL3, DP3⟩ 4
  refine VX.S1 (fun K kk => by simp [go_sem]; refine .o [0] (hD14) ?_; simp [go_sem]; exact kk) ?_
  refine VX.R ?_
  refine VX.Z ok0 4 ?_
  exact .ret ⟨(⟨KD, TK, [D14.1], []⟩, D14.2), rW ok0 [0], ⟨by first | exact hc3.1 | exact hd14.1.trans hc3.1 | exact hd15.1.trans hc3.1 | exact hy1.1 | exact hlg.1.trans (hd18.1.trans (hd17.1.trans (hd16.1.trans hc3.1))) | exact hd13.1.trans (hd12.1.trans (hd11.1.trans hc3.1)), by first | exact hc3.2 | exact hp14 | exact hp15 | exact hp13 | exact hlg.2.1 | exact hy1.2.1, hc1.2.2.1, hc1.2.2.2, by first | (simp; done) | (have h9 := hlg.2.2; simp at h9; dsimp only; omega) | (dsimp only; omega), rfl⟩⟩
 refine VX.R ?_
 refine VX.C ?_ ?_ <;> intro h90 <;> simp [go_sem] at h90
 ·have hyl : (⟨DL3, DP3⟩ : Cf).l.length <= 300 := by show DL3.length <= 300; rw [hc3.1]; exact h
  have hyp : 0 <= (⟨DL3, DP3⟩ : Cf).pos := hc3.2
  obtain ⟨D15, hD15, hd15, hl15, hp15⟩ := dN ⟨DL3, DP3⟩ 4
  refine VX.S1 (fun K kk => by simp [go_sem]; refine .o [0] (hD15) ?_; simp [go_sem]; exact kk) ?_
  refine VX.R ?_
  refine VX.Z ok0 4 ?_
  exact .ret ⟨(⟨KD, TK, [D15.1, CL], []⟩, D15.2), rW ok0 [0], ⟨by first | exact hc3.1 | exact hd14.1.trans hc3.1 | exact hd15.1.trans hc3.1 | exact hy1.1 | exact hlg.1.trans (hd18.1.trans (hd17.1.trans (hd16.1.trans hc3.1))) | exact hd13.1.trans (hd12.1.trans (hd11.1.trans hc3.1)), by first | exact hc3.2 | exact hp14 | exact hp15 | exact hp13 | exact hlg.2.1 | exact hy1.2.1, hc1.2.2.1, hc1.2.2.2, by first | (simp; done) | (have h9 := hlg.2.2; simp at h9; dsimp only; omega) | (dsimp only; omega), rfl⟩⟩
 refine VX.R ?_
 refine VX.C ?_ ?_ <;> intro h97 <;> simp [go_sem] at h97
 ·have hyl : (⟨DL3, DP3⟩ : Cf).l.length <= 300 := by show DL3.length <= 300; rw [hc3.1]; exact h
  have hyp : 0 <= (⟨DL3, DP3⟩ : Cf).pos := hc3.2
  obtain ⟨D16, hD16, hd16, hl16, hp16⟩ := dN ⟨DL3, DP3⟩ 4
  obtain ⟨D17, hD17, hd17, hl17, hp17⟩ := dN D16.2 4
  obtain ⟨D18, hD18, hd18, hl18, hp18⟩ := dR D17.2 1 60
  obtain ⟨LG, hLG, hlg⟩ := Kz D18.2 c [D16.1, D17.1, D18.1] (by first | assumption | omega) (by first | assumption | omega) hj hp (by simp)
  refine VX.E1 (fun K kk => by simp [go_sem]; refine .o [0] (hD16) ?_; simp [go_sem]; refine .o [0] (hD17) ?_; simp [go_sem]; refine .o [0] (hD18) ?_; simp [go_sem]; refine .o [0, 4] (hLG) ?_; simp [go_sem]; exact kk) ?_
  refine VX.R ?_
  refine VX.Z ok0 4 ?_
  exact .ret ⟨(⟨KD, TK, LG.1, []⟩, LG.2), rW ok0 [0], ⟨by first | exact hc3.1 | exact hd14.1.trans hc3.1 | exact hd15.1.trans hc3.1 | exact hy1.1 | exact hlg.1.trans (hd18.1.trans (hd17.1.trans (hd16.1.trans hc3.1))) | exact hd13.1.trans (hd12.1.trans (hd11.1.trans hc3.1)), by first | exact hc3.2 | exact hp14 | exact hp15 | exact hp13 | exact hlg.2.1 | exact hy1.2.1, hc1.2.2.1, hc1.2.2.2, by first | (simp; done) | (have h9 := hlg.2.2; simp at h9; dsimp only; omega) | (dsimp only; omega), rfl⟩⟩
 refine VX.R ?_
 refine VX.C ?_ ?_ <;> intro h110 <;> simp [go_sem] at h110
 ·have hyl : (⟨DL3, DP3⟩ : Cf).l.length <= 300 := by show DL3.length <= 300; rw [hc3.1]; exact h
  have hyp : 0 <= (⟨DL3, DP3⟩ : Cf).pos := hc3.2
  obtain ⟨D19, hD19, hd19, hl19, hp19⟩ := dN ⟨DL3, DP3⟩ 4
  refine VX.S (fun K kk => by simp [go_sem]; refine .o [0] (hD19) ?_; simp [go_sem]; exact kk) ?_
  obtain ⟨D20, hD20, hd20, hl20, hp20⟩ := dN D19.2 2
  have hw27 := Bq (1 + D20.1)
  refine VX.S (fun K kk => by simp [go_sem, hw27]; refine .o [0] (hD20) ?_; simp [go_sem, hw27]; exact kk) <| .block ?_
  refine VX.whileE (fun (y1 : (List Int) × Int × (List Int) × Int) => ⟨[(0, .ptr 0 0), (8, .ptr 1 0), (9, .ptr 2 0), (11, .li y1.2.2.2)], [.box 84 [.mI y1.1, .li y1.2.1], .box 56 [.li 0, .nil 1, .nil 1, .nil 1], .box 56 [.li KD, .mY TK, .own 3 y1.2.2.1.length, .nil 1], .row 3 1 false false (tI y1.2.2.1)]⟩) (fun y1 => y1.1 = k.l /\ 0 <= y1.2.1 /\ y1.2.2.1.length + 2 * y1.2.2.2 <= 10 /\ 0 <= y1.2.2.2) (fun y1 => y1.2.2.2.toNat) (D20.2.l, D20.2.pos, [D19.1], (1 + D20.1)) (wk ok0 [0, 2, 3, 4]) (⟨hd20.1.trans (hd19.1.trans hc3.1), hp20, by simp; omega, by dsimp only; omega⟩) fun y1 hy1 => ?_
  refine VX.seq <| .R ?_
  refine VX.C ?_ ?_ <;> intro h120 <;> simp [go_sem] at h120
  ·refine VX.skip <| .seq <| .block ?_
   have hyl : (⟨y1.1, y1.2.1⟩ : Cf).l.length <= 300 := by show y1.1.length <= 300; rw [hy1.1]; exact h
   have hyp : 0 <= (⟨y1.1, y1.2.1⟩ : Cf).pos := hy1.2.1
   obtain ⟨D21, hD21, hd21, hl21, hp21⟩ := dN ⟨y1.1, y1.2.1⟩ 3
   refine VX.S (fun K kk => by simp [go_sem]; refine .o [0] (hD21) ?_; simp [go_sem]; exact kk) ?_
   obtain ⟨D22, hD22, hd22, hl22, hp22⟩ := dN D21.2 40
   have hw4 := Bq (D21.1 + D22.1 : Int)
   refine VX.E1 (fun K kk => by simp [go_sem, hw4]; refine .o [0] (hD22) ?_; simp [go_sem, hw4]; (repeat first | exact kk | refine aK ?_)) ?_
   have hw5 := Bq (y1.2.2.2 - 1 : Int)
   refine VX.H1 (cj2 hw4 hw5) ?_
   refine ⟨(D22.2.l, D22.2.pos, y1.2.2.1 ++ ([D21.1, (D21.1 + D22.1)]), (y1.2.2.2 - 1)), ?_, ?_, [0, 1, 2, 3], Bp (by decide) ?_ ?_, by simp⟩
   ·(dsimp only; omega)
   ·(exact ⟨hd22.1.trans (hd21.1.trans hy1.1), hp22, by simp; omega, by dsimp only; omega⟩)
   all_goals simp [go_sem, hw4, hw5]
  refine VX.exit <| .R ?_
  refine VX.Z ok0 3 ?_
  exact .ret ⟨(⟨KD, TK, y1.2.2.1, []⟩, ⟨y1.1, y1.2.1⟩), rW ok0 [0], ⟨by first | exact hc3.1 | exact hd14.1.trans hc3.1 | exact hd15.1.trans hc3.1 | exact hy1.1 | exact hlg.1.trans (hd18.1.trans (hd17.1.trans (hd16.1.trans hc3.1))) | exact hd13.1.trans (hd12.1.trans (hd11.1.trans hc3.1)), by first | exact hc3.2 | exact hp14 | exact hp15 | exact hp13 | exact hlg.2.1 | exact hy1.2.1, hc1.2.2.1, hc1.2.2.2, by first | (simp; done) | (have h9 := hlg.2.2; simp at h9; dsimp only; omega) | (dsimp only; omega), rfl⟩⟩
 refine VX.skip <| .R ?_
 exact .ret ⟨(⟨KD, TK, [], []⟩, ⟨DL3, DP3⟩), rW ok0 [0], ⟨by first | exact hc3.1 | exact hd14.1.trans hc3.1 | exact hd15.1.trans hc3.1 | exact hy1.1 | exact hlg.1.trans (hd18.1.trans (hd17.1.trans (hd16.1.trans hc3.1))) | exact hd13.1.trans (hd12.1.trans (hd11.1.trans hc3.1)), by first | exact hc3.2 | exact hp14 | exact hp15 | exact hp13 | exact hlg.2.1 | exact hy1.2.1, hc1.2.2.1, hc1.2.2.2, by first | (simp; done) | (have h9 := hlg.2.2; simp at h9; dsimp only; omega) | (dsimp only; omega), rfl⟩⟩
def skJ (s : List (Int × Int)) (x : Bool) : Df := ⟨s.map fun p => ⟨p.1, p.2, 0, 0, 0, 0, 0, 0⟩, (List.range s.length).map fun t => R3 s x t s.length, 0⟩
def Ao7 (s : List (Int × Int)) (x : Bool) : Bool := Qg (skJ s x).con && (Cm .and .i64 (Vc (skJ s x) s.length) (IntKind.i64.wrap (Vc (skJ s x) s.length + 1)) == 0) && Sw (skJ s x)
theorem Aqp : (Sr.all fun s => Ao7 s true && Ao7 s false) = true := by decide +kernel
theorem Aml {s : List (Int × Int)} {x : Bool} {j : Df} (h : Tv s j.phs) (hl : j.phs.length = s.length) (p : Nat) : (Kv j p).ring = (Kv (skJ s x) p).ring /\ (Kv j p).grp = (Kv (skJ s x) p).grp := by
 unfold Kv skJ
 by_cases hp : p < j.phs.length
 ·have h1 := Aa hp
  obtain ⟨t, ht, h2, h3, _⟩ := h p _ h1
  rw [h1, Ap, ht]
  exact ⟨h2, h3⟩
 rw [Ar (by omega), Ap, Ar (by omega)]
 exact ⟨rfl, rfl⟩
theorem Aj6 {s : List (Int × Int)} {x : Bool} {j : Df} (h : Tv s j.phs) (hl : j.phs.length = s.length) : ∀ n, Vc j n = Vc (skJ s x) n
 | 0 => rfl
 | n + 1 => by rw [Vc, Vc, Aj6 h hl n, (Aml (x := x) h hl n).2]
theorem Aiu {s : List (Int × Int)} {x : Bool} {j : Df} (h : Tv s j.phs) (hl : j.phs.length = s.length) (hc : j.con = (skJ s x).con) : Sw j = Sw (skJ s x) := by
 unfold Sw
 have e : (skJ s x).phs.length = j.phs.length := by rw [hl]; simp [skJ]
 rw [e]
 congr 1
 funext p
 congr 1
 funext q
 unfold Vd
 rw [(Aml (x := x) h hl p).1, (Aml (x := x) h hl p).2, (Aml (x := x) h hl q).1, (Aml (x := x) h hl q).2, hc]
theorem Al3.ok {j : Df} (h : Al3 j) : Nm j = true /\ Ln j /\ j.phs.length <= 8 := by
 obtain ⟨s, hs, x, h1, h2, h3, h4, h5⟩ := h
 have hsl := Aj3 hs
 have hsk : Ao7 s x = true := by
  have := Am.1 Aqp s hs
  simp only [Ah] at this
  cases x
  ·exact this.2
  exact this.1
 simp only [Ao7, Ah] at hsk
 have hcl : j.con.length = j.phs.length := by rw [h3, h2]; simp
 have hph : ∀ p, p < j.phs.length -> Gb (Kv j p) = true := fun p hp => by
  have hq := Aa hp
  obtain ⟨t, ht, g1, g2, g3, g4, g5, g6, g7, g8, g9⟩ := h1 p _ hq
  have hw := Bq (j.phs[p].wa + j.phs[p].cl)
  have htr : ∀ s ∈ Sr, ∀ t ∈ s, 0 <= t.1 /\ t.1 <= 1 /\ 0 <= t.2 /\ t.2 <= 3 := by decide
  have htb := htr s hs t (Ac ht)
  have hwc : ((j.phs[p].wa == 0) == (j.phs[p].cl == 0)) = true := by
   rcases g6 with ⟨a, b⟩ | g6
   ·rw [a, b]; rfl
   have a : (j.phs[p].wa == 0) = false := by simp; omega
   have b : (j.phs[p].cl == 0) = false := by simp; omega
   rw [a, b]; rfl
  unfold Kv
  rw [hq]
  simp only [Bh, Gb, Cc, Ah, decide_eq_true_eq, hw]
  exact ⟨⟨⟨⟨⟨by omega, by omega⟩, by omega, by omega⟩, ⟨⟨by omega, by omega⟩, by omega, by omega⟩, by omega, by omega⟩, ⟨⟨by omega, by omega⟩, by omega, by omega⟩, by omega, by omega⟩, ⟨by omega, by omega⟩, hwc⟩
 have hcon : j.con = (skJ s x).con := h3
 refine ⟨?_, ⟨by omega, by omega, by omega, fun p hp => ?_, fun p hp => ?_⟩, by omega⟩
 ·simp only [Nm, Ah, decide_eq_true_eq]
  refine ⟨⟨⟨⟨⟨⟨⟨by omega, by omega⟩, hcl⟩, by rw [hcon]; exact hsk.1.1⟩, ?_⟩, J0 hph⟩, ?_⟩, by rw [Aiu h1 h2 hcon]; exact hsk.2⟩
  ·simp only [Cc, Ah, decide_eq_true_eq]; omega
  rw [h2, Aj6 (x := x) h1 h2]; exact hsk.1.2
 all_goals
  obtain ⟨i, hi⟩ := A3.1 hp
  have hil := (Ab.1 hi).1
  have hq := Oe (hph i hil)
  unfold Kv at hq
  rw [hi] at hq
  simp only [Bh] at hq
  omega
theorem AgQ.ok {ri : Int} (hr : 0 <= ri /\ ri <= 63) {a : TAg} (h : AgQ ri a) : Ab5 a = true := by
 obtain ⟨h1, h2, h3, h4, h5, h6, h7, h8, h9, h10⟩ := h
 simp only [Ab5, Ah, decide_eq_true_eq, Cc]
 refine ⟨⟨⟨h1, h2⟩, J0 fun i hi => ?_⟩, ⟨⟨⟨⟨⟨by omega, by omega⟩, by omega, by omega⟩, by omega, by omega⟩, by omega, by omega⟩, by omega, by omega⟩, by omega, by omega⟩
 have hq := Aa hi
 have hb := h3 _ (Ac hq)
 unfold O5
 rw [hq]
 simp only [Bh, Ah, decide_eq_true_eq]
 omega
theorem Yv.pl {ri : Int} (hr : 0 <= ri /\ ri <= 63) {c : Dy} (h : Yv ri c) : L4 c = true := by
 have h1 := h.per
 have h2 := h.cap
 have h3 := h.hold
 have h4 := h.lock
 have h5 := h.nj
 have h6 := h.na
 simp only [L4, Ah, decide_eq_true_eq, Cc]
 exact ⟨⟨⟨⟨⟨by omega, by omega⟩, by omega, by omega⟩, Am.2 fun j hj => (h.jun j hj).ok.1⟩, Am.2 fun a ha => (h.ag a ha).ok hr⟩, ⟨⟨⟨by omega, by omega⟩, by omega, by omega⟩, by omega, by omega⟩, by omega, by omega⟩
theorem Yv.b {ri : Int} {c : Dy} (h : Yv ri c) : Yw c := ⟨by have := h.nj; omega, by have := h.na; omega, fun j hj => ⟨(h.jun j hj).ok.2.1.len, (h.jun j hj).ok.2.1.con⟩, fun a ha => ⟨by rw [(h.ag a ha).1]; decide, by rw [(h.ag a ha).2.1]; decide⟩⟩
theorem Yv.hj {ri : Int} {c : Dy} (h : Yv ri c) : ∀ j ∈ c.juns, Ln j /\ j.phs.length <= 8 := fun j hj => (h.jun j hj).ok.2
theorem Yv.ha {ri : Int} {c : Dy} (h : Yv ri c) : ∀ a ∈ c.ags, a.sec.length <= 1000000 /\ a.lims.length <= 1000000 /\ a.rq <= 4 := fun a ha => ⟨by rw [(h.ag a ha).1]; decide, by rw [(h.ag a ha).2.1]; decide, by have := (h.ag a ha).2.2.2.2.2.1; omega⟩
theorem Yv.hs {ri : Int} {c : Dy} (h : Yv ri c) : ∀ x ∈ c.ags, 1 <= x.se /\ x.se <= 2 := fun a ha => (h.ag a ha).2.2.2.2.2.2.1
end Go.Proofs.YtkkimgjinbaemaaGreat
