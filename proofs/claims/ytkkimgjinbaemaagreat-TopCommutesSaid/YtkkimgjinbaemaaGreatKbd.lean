/- The walk. -/
import Derived.Test.YtkkimgjinbaemaaGreatKbb
import Derived.Test.YtkkimgjinbaemaaGreatKbc
namespace Go.Proofs.YtkkimgjinbaemaaGreat
open Go.RowKit
set_option linter.unusedVariables false
set_option linter.unusedSimpArgs false
set_option maxRecDepth 100000
set_option maxHeartbeats 4000000
theorem Aju : ∀ (f : Nat) (n : Int), (viN f n).length <= f + 1
 | 0, n => by simp [viN]
 | f + 1, n => by
  rw [viN]
  split
  ·simp [Aju f]
  simp
theorem Bu (n : Int) : (He n).1.length <= 6 := by
 unfold He
 split
 ·simp
 exact Aju 5 n
theorem Zj (m : B3) (h1 : m.tok.length <= 10000) (h2 : m.args.length <= 10000) (h3 : m.data.length <= 10000) : Ct 136 [m.g] (fun d : List Int × Int => .tup [.mY d.1, .li d.2]) (fun d => d.1.length <= 200) := by
 refine Cb Tryz.func136 ?_
 obtain ⟨Y1, cY1, qY1⟩ := got (F9 m.kind)
 have hv := cY1
 have hq0 := qY1
 generalize Y1 = S at hv hq0
 refine VX.S (fun K kk => by simp [go_sem, Af]; exact kk) ?_
 refine VX.S (fun K kk => by simp [go_sem, Af]; refine .l (hv) ?_; simp [go_sem, Af]; exact kk) <| .seq ?_
 refine VX.S (fun K kk => by simp +contextual [go_sem, Af]; exact kk) ?_
 refine VX.C ?_ ?_ <;> intro h41 <;> simp [go_sem] at h41
 ·refine VX.S (fun K kk => by simp [go_sem, Af]; exact kk) ?_
  refine VX.ret (Co ?_); simp [go_sem, Af]
  exact ⟨([], 6), by first | rfl | simp [go_sem], (by first | omega | (simp; done) | (simp; omega))⟩
 refine VX.skip ?_
 obtain ⟨Y2, cY2, qY2⟩ := got (Tz S.1 m.args.length)
 refine VX.S (fun K kk => by simp [go_sem, Af]; refine .l cY2 ?_; simp [go_sem, Af]; exact kk) <| .seq ?_
 refine VX.S (fun K kk => by simp +contextual [go_sem, Af]; exact kk) ?_
 refine VX.C ?_ ?_ <;> intro h57 <;> simp [go_sem] at h57
 ·refine VX.S (fun K kk => by simp [go_sem, Af]; exact kk) ?_
  refine VX.ret (Co ?_); simp [go_sem, Af]
  exact ⟨([], 6), by first | rfl | simp [go_sem], (by first | omega | (simp; done) | (simp; omega))⟩
 refine VX.skip <| .S (fun K kk => by simp [go_sem, Af]; refine .lo (B6 _ (by first | (simp; done) | (simp; omega) | (simp; assumption)) (by first | (simp [T.plain]; done) | (rw [Am]; intro e he; repeat (first | replace he := Aq he | replace he := Ay he); obtain ⟨x, _, rfl⟩ := A4.1 he; rfl))) rfl (by simp [AV.cln, Cp]) ?_; simp [go_sem, Af]; exact kk) <| .seq ?_
 have hw1 := Bq (m.args.length + 1 : Int)
 refine VX.S (fun K kk => by simp [go_sem, Af, hw1]; exact kk) <| .block ?_
 refine VX.rangeE (m.args.length + 1) (fun i1 (y1 : (List Int)) => ⟨[(1, .ptr 0 0), (4, .ptr 1 0), (6, .li (Y2.1)), (7, .own 2 y1.length), (64, .li (m.args.length + 1)), (65, .li i1)], [.box 56 [.li m.kind, .mY m.tok, .mI m.args, .mY m.data], .box 171 [.li S.1.tok, .li S.1.fix, .li S.1.grp, .li S.1.lea, .li S.1.mos, .li S.1.dat], .row 5 1 false false (tY y1)]⟩) (fun i1 y1 => y1.length <= m.tok.length + 12 * i1) (m.tok) (wk hw1 [0, 1, 2]) (by simp) fun i1 y1 hi1 hy1 => ?_
 refine VX.S (fun K kk => by simp [go_sem, Af, hw1]; exact kk) <| .seq ?_
 refine VX.C ?_ ?_ <;> intro h66 <;> simp [go_sem] at h66
 ·refine VX.skip <| .seq <| .block <| .S (fun K kk => by simp [go_sem, Af, hw1]; exact kk) <| .seq ?_
  refine VX.S (fun K kk => by simp [go_sem, Af, hw1]; exact kk) ?_
  refine VX.C ?_ ?_ <;> intro h76 <;> simp [go_sem] at h76
  ·refine VX.S (fun K kk => by simp [go_sem, Af, hw1]; refine .l (I8 (Y2.1)) ?_; simp [go_sem, Af, hw1]; exact kk) ?_
   refine VX.region1 (by rfl) fun K1 hK1 => ?_
   simp [go_sem, Af, hw1]
   repeat' with_reducible refine Ax ?_ ?_
   all_goals try (intros; (repeat' refine Ax ?_ ?_) <;> omega)
   all_goals try ((have q0 := Bu Y2.1); (try have q1 := Bu e1); (try have q2 := Bu e2); (try have q3 := Bu e3); (try have q4 := Bu e4); (try have q5 := Bu e5); (try have q6 := Bu e6); (try have q7 := Bu e7); (try have q8 := Bu e8); omega)
   refine hK1 _ ?_; clear hK1
   refine VX.seq <| .S (fun K kk => by simp [go_sem, Af, hw1]; exact kk) ?_
   refine VX.C ?_ ?_ <;> intro h89 <;> simp [go_sem] at h89
   ·refine VX.exit ?_
    refine VX.region_seq (by rfl) fun K1 hK1 => ?_
    simp [go_sem, Af, hw1]
    repeat' with_reducible refine Ax ?_ ?_
    all_goals try (intros; (repeat' refine Ax ?_ ?_) <;> omega)
    all_goals try ((have q0 := Bu Y2.1); (try have q1 := Bu e1); (try have q2 := Bu e2); (try have q3 := Bu e3); (try have q4 := Bu e4); (try have q5 := Bu e5); (try have q6 := Bu e6); (try have q7 := Bu e7); (try have q8 := Bu e8); omega)
    refine hK1 _ ?_; clear hK1
    refine VX.seq <| .S (fun K kk => by simp [go_sem, Af, hw1]; exact kk) ?_
    refine VX.C ?_ ?_ <;> intro h111 <;> simp [go_sem] at h111
    ·refine VX.S (fun K kk => by simp [go_sem, Af, hw1]; exact kk) ?_
     refine VX.ret (Co ?_); simp [go_sem, Af, hw1]
     exact ⟨([], 6), by first | rfl | simp [go_sem], (by first | omega | (simp; done) | (simp; omega))⟩
    refine VX.skip <| .S (fun K kk => by simp [go_sem, Af, hw1]; exact kk) ?_
    refine VX.Z ok0 2 ?_
    refine VX.ret (Co ?_); simp [go_sem, Af, hw1]
    exact ⟨((y1 ++ ((He (Y2.1)).1)) ++ m.data, 0), by first | rfl | simp [go_sem], (by first | omega | (simp; done) | (simp; omega))⟩
   refine VX.skip ?_
   obtain ⟨e2, H2⟩ := gx m.args i1
   refine VX.S (fun K kk => by simp [go_sem, Af, hw1, H2]; (repeat refine aK ?_); refine .l (I8 e2) ?_; simp [go_sem, Af, hw1, H2]; exact kk) <| .seq ?_
   refine VX.S (fun K kk => by simp [go_sem, Af, hw1, H2]; exact kk) ?_
   refine VX.C ?_ ?_ <;> intro h100 <;> simp [go_sem] at h100
   ·refine VX.S (fun K kk => by simp [go_sem, Af, hw1, H2]; exact kk) ?_
    refine VX.ret (Co ?_); simp [go_sem, Af, hw1, H2]
    exact ⟨([], 6), by first | rfl | simp [go_sem], (by first | omega | (simp; done) | (simp; omega))⟩
   refine VX.skip ?_
   refine VX.region1 (by rfl) fun K1 hK1 => ?_
   simp [go_sem, Af, hw1, H2]
   repeat' with_reducible refine Ax ?_ ?_
   all_goals try (intros; (repeat' refine Ax ?_ ?_) <;> omega)
   all_goals try ((have q0 := Bu Y2.1); (try have q1 := Bu e1); (try have q2 := Bu e2); (try have q3 := Bu e3); (try have q4 := Bu e4); (try have q5 := Bu e5); (try have q6 := Bu e6); (try have q7 := Bu e7); (try have q8 := Bu e8); omega)
   refine hK1 _ ?_; clear hK1
   refine VX.S1 (fun K kk => by simp [go_sem, Af, hw1, H2]; exact kk) ?_
   refine ⟨by omega, ((y1 ++ ((He (Y2.1)).1)) ++ ((He e2).1)), ?_, wk (cj3 (Bq ((i1 : Int) + 1)) hw1 H2) [0, 1, 2]⟩
   first | omega | (simp only [Bo]; (try have q0 := Bu Y2.1); (try have q1 := Bu e1); (try have q2 := Bu e2); (try have q3 := Bu e3); (try have q4 := Bu e4); (try have q5 := Bu e5); (try have q6 := Bu e6); omega)
  refine VX.skip <| .seq <| .S (fun K kk => by simp [go_sem, Af, hw1]; exact kk) ?_
  refine VX.C ?_ ?_ <;> intro h89 <;> simp [go_sem] at h89
  ·refine VX.exit ?_
   refine VX.region_seq (by rfl) fun K1 hK1 => ?_
   simp [go_sem, Af, hw1]
   repeat' with_reducible refine Ax ?_ ?_
   all_goals try (intros; (repeat' refine Ax ?_ ?_) <;> omega)
   all_goals try ((have q0 := Bu Y2.1); (try have q1 := Bu e1); (try have q2 := Bu e2); (try have q3 := Bu e3); (try have q4 := Bu e4); (try have q5 := Bu e5); (try have q6 := Bu e6); (try have q7 := Bu e7); (try have q8 := Bu e8); omega)
   refine hK1 _ ?_; clear hK1
   refine VX.seq <| .S (fun K kk => by simp [go_sem, Af, hw1]; exact kk) ?_
   refine VX.C ?_ ?_ <;> intro h111 <;> simp [go_sem] at h111
   ·refine VX.S (fun K kk => by simp [go_sem, Af, hw1]; exact kk) ?_
    refine VX.ret (Co ?_); simp [go_sem, Af, hw1]
    exact ⟨([], 6), by first | rfl | simp [go_sem], (by first | omega | (simp; done) | (simp; omega))⟩
   refine VX.skip <| .S (fun K kk => by simp [go_sem, Af, hw1]; exact kk) ?_
   refine VX.Z ok0 2 ?_
   refine VX.ret (Co ?_); simp [go_sem, Af, hw1]
   exact ⟨(y1 ++ m.data, 0), by first | rfl | simp [go_sem], (by first | omega | (simp; done) | (simp; omega))⟩
  refine VX.skip ?_
  obtain ⟨e3, H3⟩ := gx m.args i1
  refine VX.S (fun K kk => by simp [go_sem, Af, hw1, H3]; (repeat refine aK ?_); refine .l (I8 e3) ?_; simp [go_sem, Af, hw1, H3]; exact kk) <| .seq ?_
  refine VX.S (fun K kk => by simp [go_sem, Af, hw1, H3]; exact kk) ?_
  refine VX.C ?_ ?_ <;> intro h100 <;> simp [go_sem] at h100
  ·refine VX.S (fun K kk => by simp [go_sem, Af, hw1, H3]; exact kk) ?_
   refine VX.ret (Co ?_); simp [go_sem, Af, hw1, H3]
   exact ⟨([], 6), by first | rfl | simp [go_sem], (by first | omega | (simp; done) | (simp; omega))⟩
  refine VX.skip ?_
  refine VX.region1 (by rfl) fun K1 hK1 => ?_
  simp [go_sem, Af, hw1, H3]
  repeat' with_reducible refine Ax ?_ ?_
  all_goals try (intros; (repeat' refine Ax ?_ ?_) <;> omega)
  all_goals try ((have q0 := Bu Y2.1); (try have q1 := Bu e1); (try have q2 := Bu e2); (try have q3 := Bu e3); (try have q4 := Bu e4); (try have q5 := Bu e5); (try have q6 := Bu e6); (try have q7 := Bu e7); (try have q8 := Bu e8); omega)
  refine hK1 _ ?_; clear hK1
  refine VX.S1 (fun K kk => by simp [go_sem, Af, hw1, H3]; exact kk) ?_
  refine ⟨by omega, (y1 ++ ((He e3).1)), ?_, wk (cj3 (Bq ((i1 : Int) + 1)) hw1 H3) [0, 1, 2]⟩
  first | omega | (simp only [Bo]; (try have q0 := Bu Y2.1); (try have q1 := Bu e1); (try have q2 := Bu e2); (try have q3 := Bu e3); (try have q4 := Bu e4); (try have q5 := Bu e5); (try have q6 := Bu e6); omega)
 refine VX.exit ?_
 refine VX.region_seq (by rfl) fun K1 hK1 => ?_
 simp [go_sem, Af, hw1]
 repeat' with_reducible refine Ax ?_ ?_
 all_goals try (intros; (repeat' refine Ax ?_ ?_) <;> omega)
 all_goals try ((have q0 := Bu Y2.1); (try have q1 := Bu e1); (try have q2 := Bu e2); (try have q3 := Bu e3); (try have q4 := Bu e4); (try have q5 := Bu e5); (try have q6 := Bu e6); (try have q7 := Bu e7); (try have q8 := Bu e8); omega)
 refine hK1 _ ?_; clear hK1
 refine VX.seq <| .S (fun K kk => by simp [go_sem, Af, hw1]; exact kk) ?_
 refine VX.C ?_ ?_ <;> intro h111 <;> simp [go_sem] at h111
 ·refine VX.S (fun K kk => by simp [go_sem, Af, hw1]; exact kk) ?_
  refine VX.ret (Co ?_); simp [go_sem, Af, hw1]
  exact ⟨([], 6), by first | rfl | simp [go_sem], (by first | omega | (simp; done) | (simp; omega))⟩
 refine VX.skip <| .S (fun K kk => by simp [go_sem, Af, hw1]; exact kk) ?_
 refine VX.Z ok0 2 ?_
 refine VX.ret (Co ?_); simp [go_sem, Af, hw1]
 exact ⟨(y1 ++ m.data, 0), by first | rfl | simp [go_sem], (by first | omega | (simp; done) | (simp; omega))⟩
def P17 (m : B3) (n : Int) : Prop := m.kind = 17 /\ m.tok = [] /\ m.args = [n] /\ (He n).2 = 0 /\ m.data.length <= 100
theorem Py (s : F0) (n : Int) (hg : s.grp = 0) : Ct 159 [s.g, .li n] (fun d : Int × Bool => .tup [.li d.1, .lb d.2]) (fun d => d = (0, n == s.fix)) := by
 refine Cb Tryz.func159 ?_
 refine VX.R <| .seq ?_
 refine VX.R ?_
 refine VX.C ?_ ?_ <;> intro h10 <;> simp [go_sem] at h10
 ·refine VX.D ?_
  exact .ret (fin ok0 (0, ((n : Int) == s.fix)) rfl)
 exfalso; omega
noncomputable def Qc (s : F0) (n : Int) (hg : s.grp = 0) : Int × Bool := (got (Py s n hg)).choose
theorem Ad0 (s : F0) (n : Int) (hg : s.grp = 0) : PP 159 [] [s.g, .li n] [] (.tup [.lit (.int .i64 (Qc s n hg).1), .lit (.bool (Qc s n hg).2)]) := (got (Py s n hg)).choose_spec.1
theorem Aem (s : F0) (n : Int) (hg : s.grp = 0) : (Qc s n hg) = (0, n == s.fix) := (got (Py s n hg)).choose_spec.2
theorem Abg (m : B3) (n : Int) (h1 : m.tok.length <= 10000) (h2 : m.args.length <= 10000) (h3 : m.data.length <= 10000) (hP : P17 m n) : Ct 136 [m.g] (fun d : List Int × Int => .tup [.mY d.1, .li d.2]) (fun d => d = ((He n).1 ++ m.data, 0)) := by
 refine Cb Tryz.func136 ?_
 obtain ⟨hk, ht, ha, hvn, hdl⟩ := hP
 obtain ⟨Y1, cY1, qY1⟩ := got (F9 m.kind)
 have hv := cY1
 rw [qY1.1.2 hk] at hv
 have hql := Bu n
 have hg := Ad0 (⟨0, 1, 0, 0, 0, -1⟩ : F0) 1 rfl
 rw [Aem] at hg
 refine VX.H (cj2 ha ht) ?_
 refine VX.L (cj2 ha ht) (hv) <| .seq ?_
 refine VX.H (cj2 ha ht) ?_
 refine VX.C ?_ ?_ <;> intro h41 <;> simp [go_sem] at h41
 refine VX.skip <| .L (cj2 ha ht) (hg) <| .seq ?_
 refine VX.H (cj2 ha ht) ?_
 refine VX.C ?_ ?_ <;> intro h57 <;> simp [go_sem] at h57
 ·exfalso; omega
 refine VX.skip <| .S (fun K kk => by simp [go_sem, ha, ht]; refine .lo (B6 _ (by first | (simp; done) | (simp; omega) | (simp; assumption)) (by first | (simp [T.plain]; done) | (rw [Am]; intro e he; repeat (first | replace he := Aq he | replace he := Ay he); obtain ⟨x, _, rfl⟩ := A4.1 he; rfl))) rfl (by simp [AV.cln, Cp]) ?_; simp [go_sem, ha, ht]; exact kk) <| .seq ?_
 have hw2 : IntKind.i64.wrap 2 = 2 := by decide
 have hw3 : IntKind.i64.wrap 1 = 1 := by decide
 refine VX.H (cj3 ha ht hw2) <| .block ?_
 refine VX.rangeE 2 (fun i1 (y1 : (List Int)) => ⟨[(1, .ptr 0 0), (4, .ptr 1 0), (6, .li (0 : Int)), (7, .own 2 y1.length), (64, .li 2), (65, .li i1)], [.box 56 [.li m.kind, .mY m.tok, .mI m.args, .mY m.data], .box 171 [.li ((⟨0, 1, 0, 0, 0, -1⟩ : F0).tok), .li ((⟨0, 1, 0, 0, 0, -1⟩ : F0).fix), .li ((⟨0, 1, 0, 0, 0, -1⟩ : F0).grp), .li ((⟨0, 1, 0, 0, 0, -1⟩ : F0).lea), .li ((⟨0, 1, 0, 0, 0, -1⟩ : F0).mos), .li ((⟨0, 1, 0, 0, 0, -1⟩ : F0).dat)], .row 5 1 false false (tY y1)]⟩) (fun i1 y1 => y1 = if i1 = 0 then [] else (He n).1) (m.tok) (wk (cj3 ha ht hw2) [0, 1, 2]) (by simp [ht]) fun i1 y1 hi1 hy1 => ?_
 refine VX.H (cj2 ha ht) <| .seq ?_
 refine VX.C ?_ ?_ <;> intro h66 <;> simp [go_sem] at h66
 ·have hyl : y1.length <= 6 := by (rw [hy1]; split <;> first | (simp; done) | omega)
  refine VX.skip <| .seq <| .block <| .H (cj2 ha ht) <| .seq ?_
  refine VX.H (cj2 ha ht) ?_
  refine VX.C ?_ ?_ <;> intro h76 <;> simp [go_sem] at h76
  refine VX.skip <| .seq <| .H (cj2 ha ht) ?_
  refine VX.C ?_ ?_ <;> intro h89 <;> simp [go_sem] at h89
  ·refine VX.exit <| .H (cj2 ha ht) <| .seq ?_
   refine VX.H (cj2 ha ht) ?_
   refine VX.C ?_ ?_ <;> intro h111 <;> simp [go_sem] at h111
   ·exfalso; omega
   refine VX.skip <| .H (cj2 ha ht) ?_
   refine VX.Z ok0 2 ?_
   exact .ret (fin (cj2 ha ht) (y1 ++ m.data, 0) (by rw [hy1, if_neg (by omega)]))
  refine VX.skip ?_
  have hi0 : i1 = 0 := by omega
  refine VX.L (cj3 ha ht hi0) (I8 n) <| .seq ?_
  refine VX.H (cj3 ha ht hi0) ?_
  refine VX.C ?_ ?_ <;> intro h100 <;> simp [go_sem] at h100
  ·exfalso; exact h100 hvn
  refine VX.skip <| .H1 (cj3 ha ht hi0) ?_
  refine VX.H1 (cj3 ha ht hi0) ?_
  refine ⟨by omega, (y1 ++ ((He n).1)), ?_, wk (cj5 (Bq ((i1 : Int) + 1)) hi0 ha ht hw3) [0, 1, 2]⟩
  rw [hy1, hi0]; simp
 have hyl : y1.length <= 6 := by (rw [hy1]; split <;> first | (simp; done) | omega)
 refine VX.exit <| .H (cj2 ha ht) <| .seq ?_
 refine VX.H (cj2 ha ht) ?_
 refine VX.C ?_ ?_ <;> intro h111 <;> simp [go_sem] at h111
 ·exfalso; omega
 refine VX.skip <| .H (cj2 ha ht) ?_
 refine VX.Z ok0 2 ?_
 exact .ret (fin (cj2 ha ht) (y1 ++ m.data, 0) (by rw [hy1, if_neg (by omega)]))
theorem K6 (m : B3) (h1 : m.tok.length <= 10000) (h2 : m.args.length <= 10000) (h3 : m.data.length <= 10000) : Ct 136 [m.g] (fun d : List Int × Int => .tup [.mY d.1, .li d.2]) (fun d => d.1.length <= 200 /\ ∀ n, P17 m n -> d = ((He n).1 ++ m.data, 0)) := by
 by_cases h : ∃ n, P17 m n
 ·obtain ⟨n, hP⟩ := h
  obtain ⟨res, h4, d, h5, h6⟩ := Abg m n h1 h2 h3 hP
  refine ⟨res, h4, d, h5, ?_, fun n' hP' => ?_⟩
  ·rw [h6]
   have := Bu n
   have := hP.2.2.2.2
   simp
   omega
  have e : [n] = [n'] := hP.2.2.1.symm.trans hP'.2.2.1
  injection e with e
  rw [h6, e]
 obtain ⟨res, h4, d, h5, h6⟩ := Zj m h1 h2 h3
 exact ⟨res, h4, d, h5, h6, fun n hP => absurd ⟨n, hP⟩ h⟩
noncomputable def Ci (m : B3) (h1 : m.tok.length <= 10000) (h2 : m.args.length <= 10000) (h3 : m.data.length <= 10000) : List Int × Int := (got (K6 m h1 h2 h3)).choose
theorem Pl (m : B3) (h1 : m.tok.length <= 10000) (h2 : m.args.length <= 10000) (h3 : m.data.length <= 10000) : PP 136 [] [m.g] [] (.tup [.imm false 1 (tY (Ci m h1 h2 h3).1), .lit (.int .i64 (Ci m h1 h2 h3).2)]) := (got (K6 m h1 h2 h3)).choose_spec.1
theorem Lj (m : B3) (h1 : m.tok.length <= 10000) (h2 : m.args.length <= 10000) (h3 : m.data.length <= 10000) : (Ci m h1 h2 h3).1.length <= 200 /\ ∀ n, P17 m n -> (Ci m h1 h2 h3) = ((He n).1 ++ m.data, 0) := (got (K6 m h1 h2 h3)).choose_spec.2
theorem Ahe {k : Int} {p : List Int} (h1 : 0 <= k) (h2 : k <= 255) (h3 : p.length <= 200) : (Q8 k p).2 = 0 /\ (Q8 k p).1.length = p.length + 10 := by
 unfold Q8
 rw [if_neg (by omega), if_neg (by omega)]
 exact ⟨rfl, by simp [Y9, Gg, Ll]⟩
theorem Ac9 (k : Int) (p : List Int) : (Q8 k p).1.length <= p.length + 10 := by
 unfold Q8
 split
 ·simp
 split
 ·simp
 simp [Y9, Gg, Ll]
theorem I7 (m : B3) (h1 : m.tok.length <= 10000) (h2 : m.args.length <= 10000) (h3 : m.data.length <= 10000) : Ct 134 [m.g] (fun d : Bool => .lb d) (fun d => d = ((Ci m h1 h2 h3).2 == 0)) := by
 refine Cb Tryz.func134 ?_
 refine VX.R ?_
 refine VX.L ok0 (Pl m h1 h2 h3) ?_
 refine VX.R ?_
 exact .ret (fin ok0 ((((Ci m h1 h2 h3).2) : Int) == 0) rfl)
noncomputable def Je (m : B3) (h1 : m.tok.length <= 10000) (h2 : m.args.length <= 10000) (h3 : m.data.length <= 10000) : Bool := (got (I7 m h1 h2 h3)).choose
theorem X9 (m : B3) (h1 : m.tok.length <= 10000) (h2 : m.args.length <= 10000) (h3 : m.data.length <= 10000) : PP 134 [] [m.g] [] (.lb (Je m h1 h2 h3)) := (got (I7 m h1 h2 h3)).choose_spec.1
theorem Yn (m : B3) (h1 : m.tok.length <= 10000) (h2 : m.args.length <= 10000) (h3 : m.data.length <= 10000) : (Je m h1 h2 h3) = ((Ci m h1 h2 h3).2 == 0) := (got (I7 m h1 h2 h3)).choose_spec.2
theorem Mc (m : B3) (h1 : m.tok.length <= 10000) (h2 : m.args.length <= 10000) (h3 : m.data.length <= 10000) : Ct 102 [m.g] (fun d : List Int × Int => .tup [.mY d.1, .li d.2]) (fun d => d.1.length <= 210 /\ ((Ci m h1 h2 h3).2 = 0 -> 0 <= m.kind -> m.kind <= 255 -> d.2 = 0 /\ d.1.length = (Ci m h1 h2 h3).1.length + 10)) := by
 refine Cb Tryz.func102 ?_
 have hq := Lj m h1 h2 h3
 refine VX.R ?_
 refine VX.L ok0 (Pl m h1 h2 h3) <| .seq ?_
 refine VX.R ?_
 refine VX.C ?_ ?_ <;> intro h12 <;> simp [go_sem] at h12
 ·refine VX.R ?_
  exact .ret (fin ok0 ([], (Ci m h1 h2 h3).2) (by first | exact ⟨Ae _, fun e => absurd e (by assumption)⟩ | exact ⟨Ak (Ac9 _ _) (by omega), fun _ k1 k2 => Ahe k1 k2 hq.1⟩))
 refine VX.skip <| .L ok0 (Zv m.kind (Ci m h1 h2 h3).1 (by omega)) ?_
 exact .ret (fin ok0 ((Q8 m.kind ((Ci m h1 h2 h3).1)).1, (Q8 m.kind ((Ci m h1 h2 h3).1)).2) (by first | exact ⟨Ae _, fun e => absurd e (by assumption)⟩ | exact ⟨Ak (Ac9 _ _) (by omega), fun _ k1 k2 => Ahe k1 k2 hq.1⟩))
noncomputable def Dh (m : B3) (h1 : m.tok.length <= 10000) (h2 : m.args.length <= 10000) (h3 : m.data.length <= 10000) : List Int × Int := (got (Mc m h1 h2 h3)).choose
theorem Ya (m : B3) (h1 : m.tok.length <= 10000) (h2 : m.args.length <= 10000) (h3 : m.data.length <= 10000) : PP 102 [] [m.g] [] (.tup [.imm false 1 (tY (Dh m h1 h2 h3).1), .lit (.int .i64 (Dh m h1 h2 h3).2)]) := (got (Mc m h1 h2 h3)).choose_spec.1
theorem Q6 (m : B3) (h1 : m.tok.length <= 10000) (h2 : m.args.length <= 10000) (h3 : m.data.length <= 10000) : (Dh m h1 h2 h3).1.length <= 210 /\ ((Ci m h1 h2 h3).2 = 0 -> 0 <= m.kind -> m.kind <= 255 -> (Dh m h1 h2 h3).2 = 0 /\ (Dh m h1 h2 h3).1.length = (Ci m h1 h2 h3).1.length + 10) := (got (Mc m h1 h2 h3)).choose_spec.2
theorem T1 (n : Int) (a : TAg) (h1 : a.sec.length <= 1000000) (h2 : a.lims.length <= 1000000) : Ct 55 [.li n, a.g] (fun d : Bv => d.g) (fun d => d.reg = Dz n a h1 h2 /\ d.reqs = [] /\ d.draws = [] /\ d.aud.length <= 2) := by
 refine Cb Tryz.func55 ?_
 iterate 2 refine VX.R ?_
 refine VX.M ok0 (Zp n a (by first | assumption | omega) (by first | assumption | omega)) ?_
 refine VX.Z ok0 2 ?_
 exact .ret (fin ok0 ⟨(Dz n a (by first | assumption | omega) (by first | assumption | omega)), [], [], List.replicate ((if 2 < (if a.se < 0 then 0 else a.se) then 2 else (if a.se < 0 then 0 else a.se)).toNat) false⟩ ⟨rfl, rfl, rfl, by simp; (repeat' split) <;> omega⟩)
noncomputable def G8 (n : Int) (a : TAg) (h1 : a.sec.length <= 1000000) (h2 : a.lims.length <= 1000000) : Bv := (got (T1 n a h1 h2)).choose
theorem Aic (n : Int) (a : TAg) (h1 : a.sec.length <= 1000000) (h2 : a.lims.length <= 1000000) : PP 55 [] [.li n, a.g] [] (.agg ((G8 n a h1 h2).a false)) := (got (T1 n a h1 h2)).choose_spec.1
theorem Ais (n : Int) (a : TAg) (h1 : a.sec.length <= 1000000) (h2 : a.lims.length <= 1000000) : (G8 n a h1 h2).reg = Dz n a h1 h2 /\ (G8 n a h1 h2).reqs = [] /\ (G8 n a h1 h2).draws = [] /\ (G8 n a h1 h2).aud.length <= 2 := (got (T1 n a h1 h2)).choose_spec.2
theorem Ta (c : Kr) (h : c.lights.length <= 1000000) : Ct 225 [c.g] (fun d : Bool => .lb d) (fun d => True) := by
 refine Cb Tryz.func225 ?_
 refine VX.R ?_
 refine VX.S (fun K kk => by simp [go_sem]; refine .lo (Rw c.lights _ [] (fun x => x.l != 0) h Pp X3) (by simp [go_sem]) (by simp [AV.cln, Cp]) ?_; simp [go_sem]; exact kk) ?_
 refine VX.ret (Co ?_); simp [go_sem]
 exact ⟨_, by first | rfl | simp [go_sem], trivial⟩
theorem Akm {n : Int} (h : (He n).2 = 0) : 1 <= (He n).1.length := by
 unfold He at h ⊢
 split
 ·next hn => rw [if_pos hn] at h; simp at h
 show 1 <= (viN 5 n).length
 rw [viN]
 split <;> simp
noncomputable def Vi (m : B3) : List Int := by
 classical
 exact if h : m.tok.length <= 10000 /\ m.args.length <= 10000 /\ m.data.length <= 10000 then (if (Dh m h.1 h.2.1 h.2.2).2 = 0 then (Dh m h.1 h.2.1 h.2.2).1 else []) else []
theorem Akb {m : B3} (h1 : m.tok.length <= 10000) (h2 : m.args.length <= 10000) (h3 : m.data.length <= 10000) (h : (Dh m h1 h2 h3).2 = 0) : Vi m = (Dh m h1 h2 h3).1 := by
 unfold Vi
 rw [dif_pos ⟨h1, h2, h3⟩, if_pos h]
theorem Apy {m : B3} (h1 : m.tok.length <= 10000) (h2 : m.args.length <= 10000) (h3 : m.data.length <= 10000) (h : ¬ (Dh m h1 h2 h3).2 = 0) : Vi m = [] := by
 unfold Vi
 rw [dif_pos ⟨h1, h2, h3⟩, if_neg h]
theorem Apz {m : B3} {n : Int} (h : P17 m n) : (Vi m).length = (He n).1.length + m.data.length + 10 := by
 have h1 : m.tok.length <= 10000 := by rw [h.2.1]; simp
 have h2 : m.args.length <= 10000 := by rw [h.2.2.1]; simp
 have h3 : m.data.length <= 10000 := by have := h.2.2.2.2; omega
 have he := (Lj m h1 h2 h3).2 n h
 have hf := (Q6 m h1 h2 h3).2 (by rw [he]) (by rw [h.1]; decide) (by rw [h.1]; decide)
 rw [Akb h1 h2 h3 hf.1, hf.2, he]
 simp
theorem Akc {α β : Type} {f : α -> List β} {l : List α} {i : Nat} {e : α} (h : l[i]? = some e) : ((l.take (i + 1)).map f).flatten = ((l.take i).map f).flatten ++ f e := by
 rw [List.take_add_one, h]; simp
theorem Aq3 {α β : Type} {f : α -> List β} {l : List α} {e : α} (h : e ∈ l) : (f e).length <= ((l.map f).flatten).length := by
 induction l with
 | nil => cases h
 | cons x l ih =>
  simp only [List.map_cons, List.flatten_cons, Bo]
  rcases List.mem_cons.1 h with rfl | h
  ·omega
  have := ih h; omega
theorem Qt (l : List B3) (hl : l.length <= 1000) (hm : ∀ m ∈ l, m.tok.length <= 10000 /\ m.args.length <= 10000 /\ m.data.length <= 10000) : Ct 66 [.mMsg l] (fun d : List Int => .mY d) (fun d => d = (l.map Vi).flatten) := by
 refine Cb Tryz.func66 ?_
 refine VX.R ?_
 refine VX.R <| .seq ?_
 refine VX.R <| .block ?_
 refine VX.own0 3 5 1 (by decide) (k' := 1) (by simp [go_sem]) ?_
 simp [go_sem, -Prod.exists]
 refine VX.rangeE l.length (fun i1 (y1 : (List Int)) => ⟨[(3, .own 0 y1.length), (8, .mMsg l), (9, .li l.length), (10, .li i1)], [.row 5 1 false false (tY y1)]⟩) (fun i1 y1 => y1 = ((l.take i1).map Vi).flatten /\ y1.length <= 300 * i1) ([]) (wk ok0 [0]) (⟨by simp, by simp⟩) fun i1 y1 hi1 hy1 => ?_
 refine VX.R <| .seq ?_
 refine VX.C ?_ ?_ <;> intro h11 <;> simp [go_sem] at h11
 ·refine VX.skip <| .seq <| .block ?_
  obtain ⟨e1, H1⟩ := gx l i1
  refine VX.H H1 ?_
  have hb := hm e1 (Ac H1)
  have hf := (Q6 e1 hb.1 hb.2.1 hb.2.2).1
  refine VX.L H1 (Ya e1 hb.1 hb.2.1 hb.2.2) ?_
  refine VX.H H1 ?_
  refine VX.C ?_ ?_ <;> intro h20 <;> simp [go_sem] at h20
  ·refine VX.H1 H1 ?_
   refine VX.H1 H1 ?_
   exact ⟨by omega, (y1 ++ ((Dh e1 hb.1 hb.2.1 hb.2.2).1)), ⟨by rw [hy1.1, Akc H1, Akb hb.1 hb.2.1 hb.2.2 h20], by simp; omega⟩, wk (cj2 (Bq ((i1 : Int) + 1)) H1) [0]⟩
  refine VX.skip <| .H1 H1 ?_
  exact ⟨by omega, (y1), ⟨by rw [Akc H1, Apy hb.1 hb.2.1 hb.2.2 h20, List.append_nil]; exact hy1.1, by omega⟩, wk (cj2 (Bq ((i1 : Int) + 1)) H1) [0]⟩
 refine VX.exit <| .R ?_
 refine VX.Z ok0 0 ?_
 exact .ret (fin ok0 y1 (by rw [hy1.1, Bf (by omega)]))
section
variable {P : Program} {n m : Nat} {st : St} {K : Exit -> St -> Prop}
theorem R7 {E : Ent} {F : Fence} (hF : FOk E F) {ops : Array Oper} {K : St -> Prop} {Q : Exit -> Act -> World -> Prop} (l2 : List Oper) (hQ : ∀ st β a w, K st -> Rel E β st a w -> wpListIn F 0 P ops Q l2 a w) : ∀ (l : List Oper) (hd : ∀ o ∈ l, ∀ x, o.dst = some x -> x < E.n) (st : St) (β : Nat -> Option Nat) (a : Act) (w : World),
 runs P (l.map fun o => ⟨o.dst, o.op, o.type, Kn ops o⟩) st K -> Rel E β st a w -> wpListIn F 0 P ops Q (l ++ l2) a w
 | [], _, st, β, a, w, h, r => hQ st β a w h r
 | o :: l, hd, st, β, a, w, h, r => by
  obtain ⟨hg, h⟩ := h
  rw [List.cons_append]
  unfold wpListIn
  simp only at h hg
  cases hc : Ck o.op with
  | true =>
   rw [hc, if_pos rfl] at h
   obtain ⟨e, h1, h2⟩ := h
   exact P9 r (hd o (by simp)) hg (fun _ p _ hp => Dx st p.1 hp) h1 hF fun β' a' w' r' => R7 hF l2 hQ l (fun x hx => hd x (by simp [hx])) _ β' a' w' h2 r'
  | false =>
   rw [hc, if_neg (by simp)] at h
   obtain ⟨h1, h2⟩ := h
   exact P9 r (hd o (by simp)) hg (fun _ p _ hp => Dx st p.1 hp) (fun hb => Zd hc (h1 hb)) hF fun β' a' w' r' => R7 hF l2 hQ l (fun x hx => hd x (by simp [hx])) _ β' a' w' h2 r'
theorem VW.region_fz {id0 : Nat} {l : List Oper} (j id : Nat) (hd : Cw n l = true) (h : runs P ((Dg l).take j) st (fun s => Db (s.o id) = true /\ runs P ((Dg l).drop j) (s.freeze id) (K .normal))) : VW P n m (.region id0 l.toArray false) st K := fun E F hE hF β a w r => by
 have hd' : ∀ o ∈ l, ∀ x, o.dst = some x -> x < E.n := fun o ho x hx => by rw [hE.1]; exact Lm hd o ho x hx
 refine wpIn_region_lit ?_
 have key := R7 (P := P) (Q := Uj E K) hF (ops := l.toArray) (l.drop j) (fun s β a w hs r => ?_) (l.take j) (fun o ho => hd' o (Aq ho)) st β a w (by
  have := h
  simp only [Dg, <- List.map_take] at this
  exact this) r
 ·rwa [List.take_append_drop] at key
 obtain ⟨h1, h2⟩ := hs
 have r2 : Rel E β (s.freeze id) a w := by
  unfold St.freeze
  cases hq : s.o id with
  | row ty k fr fz es => exact (r.freeze hq).1.melt
  | _ => rw [hq] at h1; cases h1
 refine U1 hF (fun s β a w h1 h2 => ⟨E, s, β, Ej.refl E, h1, h2⟩) (l.drop j) (fun o ho => hd' o (Ay ho)) _ β a w ?_ r2
 rw [List.map_drop]
 exact h2
theorem VX.region_fz {id0 : Nat} {l : List Oper} (j id : Nat) (hd : Cw n l = true) (h : ∀ K1 : St -> Prop, (∀ s, K .normal s -> K1 s) -> runs P ((Dg l).take j) st (fun s => Db (s.o id) = true /\ runs P ((Dg l).drop j) (s.freeze id) K1)) : VX P n m (.region id0 l.toArray false) st K := by
 obtain ⟨s, h1, h2, h3⟩ := Mu _ _ (h _ fun _ h => h)
 obtain ⟨s2, h4, h5⟩ := Mu _ _ h3
 refine ⟨.normal, s2, .region_fz j id hd (Ic _ _ ?_ h1), h5⟩
 rintro s' rfl
 exact ⟨h2, Ic _ _ (by rintro s' rfl; exact ⟨rfl, rfl⟩) h4⟩
theorem VX.region_fz_seq {id0 : Nat} {l : List Oper} {y : Code} (j id : Nat) (hd : Cw n l = true) (h : ∀ K1 : St -> Prop, (∀ s, VX P n m y s K -> K1 s) -> runs P ((Dg l).take j) st (fun s => Db (s.o id) = true /\ runs P ((Dg l).drop j) (s.freeze id) K1)) : VX P n m (.seq (.region id0 l.toArray false) y) st K :=
 .seq (.region_fz j id hd fun K1 hK1 => h K1 hK1)
end
section
variable {P : Program} {n m : Nat} {st : St} {K : Exit -> St -> Prop} {c : Code}
theorem VX.rowIs (id : Nat) (es : List (List T)) (h : Db (st.o id) = true) (he : Ik (st.o id) = es) (hv : VX P n m c (st.set id (.row (U5 (st.o id)) (O2 (st.o id)) (Ak0 (st.o id)) (Akz (st.o id)) es)) K) : VX P n m c st K := by
 obtain ⟨e, s, h1, h2⟩ := hv
 refine ⟨e, s, fun E F hE hF β a w r => h1 E F hE hF β a w ?_, h2⟩
 subst he
 cases hq : st.o id with
 | row ty k fr fz es => exact (r.flag hq (fun e => .inl e) fun e => e).1
 | _ => rw [hq] at h; exact absurd h (by simp [Db])
end
theorem Rel.cellOwn {E : Ent} {β : Nat -> Option Nat} {st : St} {a : Act} {w : World} (r : Rel E β st a w) {b n i k : Nat} {ty : TypeId} {cs : List AV} (hb : st.o b = .box ty cs) (hi : cs[i]? = some (.nil k)) (hn : ∀ A, Br (E.C β st w) (.own n 0) (.slice A 0 0)) :
 Rel E β (st.set b (.box ty (cs.set i (.own n 0)))) a w := by
 have ho' : ∀ j, j ≠ b -> (st.set b (.box ty (cs.set i (.own n 0)))).o j = st.o j := fun j hj => by rw [St.set_o, if_neg hj]
 have ho : (st.set b (.box ty (cs.set i (.own n 0)))).o b = .box ty (cs.set i (.own n 0)) := by rw [St.set_o, if_pos rfl]
 have hng : ∀ j, (st.set b (.box ty (cs.set i (.own n 0)))).o j ≠ .gone -> st.o j ≠ .gone := fun j hj => by
  by_cases e : j = b
  ·subst e; rw [hb]; simp
  rw [ho' j e] at hj; exact hj
 have s : Ks (E.C β st w) (E.C β (st.set b (.box ty (cs.set i (.own n 0)))) w) := by
  refine ⟨rfl, fun _ h => h, fun _ h => h, fun _ h => h, Aj _, ?_, fun _ _ _ => rfl, ?_, ?_⟩
  ·rintro x hx ⟨j, h1, h2⟩
   have h2 : ((st.set b (.box ty (cs.set i (.own n 0)))).o j).live := h2
   by_cases e : j = b
   ·subst e; exact ⟨j, h1, by show (st.o j).live; rw [hb]; trivial⟩
   rw [ho' j e] at h2; exact ⟨j, h1, h2⟩
  ·intro j ty' cs' hj
   have hj : st.o j = .box ty' cs' := hj
   by_cases e : j = b
   ·subst e
    rw [hb] at hj
    injection hj with e1 e2
    subst e1
    exact ⟨⟨_, ho⟩, rfl⟩
   exact ⟨⟨cs', (ho' j e).trans hj⟩, rfl⟩
  intro j ty' k' fr' fz' es' hj
  have hj : st.o j = .row ty' k' fr' fz' es' := hj
  have e : j ≠ b := fun e => by subst e; rw [hb] at hj; cases hj
  exact ⟨_, _, _, (ho' j e).trans hj, Aj _, fun _ => ⟨rfl, fun b cc hb hc => ⟨cc, hc, rfl⟩⟩⟩
 refine r.move s rfl (fun j => ?_) (fun i j x hi hj => r.inj i j x (hng i hi) (hng j hj)) (fun j x hj => r.rng j x (hng j hj)) r.kp
 by_cases e : j = b
 ·subst e
  rw [ho]
  have h := r.ob j
  rw [hb] at h
  obtain ⟨x, cur, h1, h2, h3, h4⟩ := Hi.step (o := .box ty cs) s h rfl fun _ _ => rfl
  refine ⟨x, cur, h1, h2, by rw [List.length_set]; exact h3, fun q c u hc hu => ?_⟩
  rw [List.getElem?_set] at hc
  split at hc
  ·rename_i e
   subst e
   split at hc
   ·injection hc with hc
    subst hc
    obtain ⟨g1, g2⟩ := h4 i _ u hi hu
    refine ⟨?_, g2⟩
    cases g1 with
    | nil k A => exact (hn A).step s
   cases hc
  exact h4 q c u hc hu
 rw [ho' j e]
 exact (r.ob j).step s rfl fun _ _ => rfl
section
variable {P : Program} {n m : Nat} {st : St} {K : Exit -> St -> Prop} {c : Code}
theorem VW.own0c (b i : Nat) (ty k : Nat) (hk : 0 < k) {bt : TypeId} {cs : List AV} {k' : Nat} (hb : st.o b = .box bt cs) (hi : cs[i]? = some (.nil k')) (hv : VW P n m c ((st.set st.ob.length (.row ty k true false [])).set b (.box bt (cs.set i (.own st.ob.length 0)))) K) : VW P n m c st K := fun E F hE hF β a w r => by
 obtain ⟨r1, h1⟩ := r.empty (Dx st st.ob.length (Aj _)) ty hk true
 have hne : b ≠ st.ob.length := fun e => by
  have := Dx st st.ob.length (Aj _)
  rw [<- e, hb] at this
  cases this
 exact hv E F hE hF _ a w (r1.cellOwn (by rw [St.set_o, if_neg hne]; exact hb) hi h1)
theorem VX.own0c (b i : Nat) (ty k : Nat) (hk : 0 < k) {bt : TypeId} {cs : List AV} {k' : Nat} (hb : st.o b = .box bt cs) (hi : cs[i]? = some (.nil k')) (hv : VX P n m c ((st.set st.ob.length (.row ty k true false [])).set b (.box bt (cs.set i (.own st.ob.length 0)))) K) : VX P n m c st K := by
 obtain ⟨e, s, h1, h2⟩ := hv
 exact ⟨e, s, .own0c b i ty k hk hb hi h1, h2⟩
end
theorem Rn (x : Bv) (k : Int) (now : Int) (h1 : x.reqs.length <= 1000) (h2 : x.reg.toks.length <= 1000000) : Ct 192 [x.g, .li k, .li now] (fun d : B3 => d.g) (fun d => d.tok = [] /\ d.data = [] /\ d.args.length <= 2000) := by
 refine Cb Tryz.func192 ?_
 refine VX.R <| .seq ?_
 refine VX.R <| .block ?_
 refine VX.R ?_
 refine VX.C ?_ ?_ <;> intro h14 <;> simp [go_sem] at h14
 ·refine VX.R ?_
  refine VX.Z ok0 2 ?_
  exact .ret (fin ok0 ⟨13, [], [x.reg.num, now], []⟩ ⟨rfl, rfl, by first | (simp; done) | (dsimp only; omega)⟩)
 refine VX.R ?_
 refine VX.C ?_ ?_ <;> intro h22 <;> simp [go_sem] at h22
 ·refine VX.R <| .seq ?_
  refine VX.R <| .block ?_
  refine VX.own0c 2 2 3 1 (by decide) rfl rfl ?_
  simp [go_sem, -Prod.exists]
  refine VX.rangeE x.reqs.length (fun i1 (y1 : (List Int)) => ⟨[(6, .ptr 0 0), (7, .ptr 1 0), (26, .mReq x.reqs), (27, .li x.reqs.length), (28, .li i1)], [.box 56 [.li 0, .nil 1, .nil 1, .nil 1], .box 56 [.li 19, .nil 1, .own 2 y1.length, .nil 1], .row 3 1 false false (tI y1)]⟩) (fun i1 y1 => y1.length = 2 * i1) ([]) (wk ok0 [1, 2, 3]) (rfl) fun i1 y1 hi1 hy1 => ?_
  refine VX.R <| .seq ?_
  refine VX.C ?_ ?_ <;> intro h29 <;> simp [go_sem] at h29
  ·refine VX.skip <| .seq <| .block ?_
   obtain ⟨e1, H1⟩ := gx x.reqs i1
   refine VX.H H1 ?_
   refine VX.H1 H1 ?_
   refine VX.H1 H1 ?_
   refine ⟨by omega, (y1 ++ ([e1.id, e1.unt])), ?_, wk (cj2 (Bq ((i1 : Int) + 1)) H1) [0, 1, 2]⟩
   simp; omega
  refine VX.exit <| .R ?_
  refine VX.Z ok0 2 ?_
  exact .ret (fin ok0 ⟨19, [], y1, []⟩ ⟨rfl, rfl, by first | (simp; done) | (dsimp only; omega)⟩)
 refine VX.skip <| .R <| .seq ?_
 refine VX.R <| .block ?_
 refine VX.rangeE x.reg.toks.length (fun i2 (y2 : Int) => ⟨[(3, .ptr 0 0), (6, .ptr 1 0), (10, .li y2), (45, .mTok x.reg.toks), (46, .li x.reg.toks.length), (47, .li i2)], [.box 70 [.li x.reg.num, .mY x.reg.ag.sec, .li x.reg.ag.ri, .li x.reg.ag.cls, .mI x.reg.ag.lims, .li x.reg.ag.rq, .li x.reg.ag.se, .li x.reg.ag.ra, .li x.reg.ag.bu, .mTok x.reg.toks, .mVeh x.reg.vehs, .li x.reg.bk.lv, .li x.reg.bk.ra, .li x.reg.bk.bu, .mReq x.reqs, .mYs x.draws, .mB x.aud], .box 56 [.li 0, .nil 1, .nil 1, .nil 1]]⟩) (fun i2 y2 => True) (0) (wk ok0 [0, 1]) (trivial) fun i2 y2 hi2 hy2 => ?_
 refine VX.R <| .seq ?_
 refine VX.C ?_ ?_ <;> intro h48 <;> simp [go_sem] at h48
 ·refine VX.skip <| .seq <| .block ?_
  obtain ⟨e2, H2⟩ := gx x.reg.toks i2
  refine VX.H H2 ?_
  refine VX.H H2 ?_
  refine VX.C ?_ ?_ <;> intro h53 <;> simp [go_sem] at h53
  ·refine VX.H1 H2 ?_
   refine VX.H1 H2 ?_
   exact ⟨by omega, (IntKind.i64.wrap (y2 + 1)), trivial, wk (cj2 (Bq ((i2 : Int) + 1)) H2) [0, 1]⟩
  refine VX.skip <| .H1 H2 ?_
  exact ⟨by omega, (y2), trivial, wk (cj2 (Bq ((i2 : Int) + 1)) H2) [0, 1]⟩
 refine VX.exit <| .R ?_
 refine VX.Z ok0 2 ?_
 exact .ret (fin ok0 ⟨20, [], [y2, IntKind.i64.wrap (8 - x.reg.vehs.length), IntKind.i64.wrap (x.reg.ag.rq - x.reqs.length), x.reg.bk.lv], []⟩ ⟨rfl, rfl, by first | (simp; done) | (dsimp only; omega)⟩)
noncomputable def Jy (x : Bv) (k : Int) (now : Int) (h1 : x.reqs.length <= 1000) (h2 : x.reg.toks.length <= 1000000) : B3 := (got (Rn x k now h1 h2)).choose
theorem Af4 (x : Bv) (k : Int) (now : Int) (h1 : x.reqs.length <= 1000) (h2 : x.reg.toks.length <= 1000000) : PP 192 [] [x.g, .li k, .li now] [] (.agg ((Jy x k now h1 h2).a false)) := (got (Rn x k now h1 h2)).choose_spec.1
theorem Agw (x : Bv) (k : Int) (now : Int) (h1 : x.reqs.length <= 1000) (h2 : x.reg.toks.length <= 1000000) : (Jy x k now h1 h2).tok = [] /\ (Jy x k now h1 h2).data = [] /\ (Jy x k now h1 h2).args.length <= 2000 := (got (Rn x k now h1 h2)).choose_spec.2
end Go.Proofs.YtkkimgjinbaemaaGreat
