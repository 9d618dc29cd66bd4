/- The walk. -/
import Derived.Test.YtkkimgjinbaemaaGreatKaj
namespace Go.Proofs.YtkkimgjinbaemaaGreat
open Go.RowKit
set_option linter.unusedVariables false
set_option linter.unusedSimpArgs false
set_option maxRecDepth 100000
set_option maxHeartbeats 4000000
def Al3 (r : Int) : Int := if Eu .and .u32 r 1 = 1 then Eu .xor .u32 (r.fdiv (2 ^ min 1 32)) 3988292384 else r.fdiv (2 ^ min 1 32)
def Adj (r : Int) : Nat -> Int
 | 0 => r
 | i + 1 => Al3 (Adj r i)
def Akg (l : List Int) (i : Nat) : Int := (l[i]?).getD 0
def Aba (s : Int) (l : List Int) : Nat -> Int
 | 0 => Eu .xor .u32 IntKind.u32.max s
 | i + 1 => Adj (Eu .xor .u32 (Aba s l i) (IntKind.u32.wrap (Akg l i))) 8
def Arg (s : Int) (l : List Int) : Int := Eu .xor .u32 IntKind.u32.max (Aba s l l.length)
theorem Hm : (if IntKind.u32.signed = true then (-1 : Int) else IntKind.u32.max) = IntKind.u32.max := rfl
def Adi (l : List Int) : Int := Arg 0 l
theorem Agx (s : Int) (l : List Int) (hl : l.length <= 1000000) : PP 181 [] [.lit (.int .u32 s), .mY l] [] (.lit (.int .u32 (Arg s l))) := by
 refine Eb Tryz.func181 ?_
 refine Bw ?_
 refine Bw <| .seq ?_
 refine Bw <| .block ?_
 refine Cc l.length (fun i1 => ⟨[(5, .lit (.int .u32 (Aba s l i1))), (11, .mY l), (12, .li l.length), (13, .li i1)], []⟩) ⟨[], Ds (by decide) ?_ ?_, by simp⟩ fun i1 hi1 => ?_
 ·simp [go_sem, Aba, Hm]
 ·simp [go_sem, Aba, Hm]
 refine Bw <| .seq ?_
 refine B7 ?_ ?_ <;> intro h14
 ·have hxx : l[i1]? = some l[i1] := Aa (by omega)
  generalize l[i1] = x at hxx
  have hax : Akg l i1 = x := by simp only [Akg, hxx, Bh]
  refine Bv <| .seq <| .block <| .H hxx ?_
  refine Bw ?_
  refine Bw <| .block ?_
  refine Cc 8 (fun i2 => ⟨[(5, .lit (.int .u32 (Adj (Eu .xor .u32 (Aba s l i1) (IntKind.u32.wrap x)) i2))), (11, .mY l), (12, .li l.length), (13, .li i1), (21, .li i2)], []⟩) ⟨[], Ds (by decide) ?_ ?_, by simp⟩ fun i2 hi2 => ?_
  ·simp [go_sem, Adj]
  ·simp [go_sem, Adj]
  refine Bw <| .seq ?_
  refine B7 ?_ ?_ <;> intro h22
  ·refine Bv <| .seq <| .block <| .R ?_
   refine VW.H ok0 ?_
   refine Bw ?_
   refine B7 ?_ ?_ <;> intro h28
   ·have hs : Adj (Eu .xor .u32 (Aba s l i1) (IntKind.u32.wrap x)) (i2 + 1) = Eu .xor .u32 ((Adj (Eu .xor .u32 (Aba s l i1) (IntKind.u32.wrap x)) i2).fdiv (2 ^ min 1 32)) 3988292384 := by simp only [Adj, Al3]; rw [if_pos h28]
    refine Cl ?_
    refine Cl ?_
    refine ⟨by omega, [], Ds (by decide) ?_ ?_, by simp⟩
    ·simp [go_sem, Dt ((i2 : Int) + 1), hs, h14, h22, h28]
    simp [go_sem, hs, h14, h22, h28]
   have hs : Adj (Eu .xor .u32 (Aba s l i1) (IntKind.u32.wrap x)) (i2 + 1) = (Adj (Eu .xor .u32 (Aba s l i1) (IntKind.u32.wrap x)) i2).fdiv (2 ^ min 1 32) := by simp only [Adj, Al3]; rw [if_neg h28]
   refine Bv <| .R1 ?_
   refine ⟨by omega, [], Ds (by decide) ?_ ?_, by simp⟩
   ·simp [go_sem, Dt ((i2 : Int) + 1), hs, h14, h22, h28]
   simp [go_sem, hs, h14, h22, h28]
  have he : i2 = 8 := by omega
  subst he
  refine B5 <| .R1 ?_
  refine ⟨by omega, [], Ds (by decide) ?_ ?_, by simp⟩
  ·simp [go_sem, Dt ((i1 : Int) + 1), Aba, hax, h14, h22]
  simp [go_sem, Aba, hax, h14, h22]
 refine B5 <| .R ?_
 have he : i1 = l.length := by omega
 subst he
 refine B6 ?_
 simp [go_sem]
 simp [Arg, Hm]
theorem Afa (l : List Int) (hl : l.length <= 1000000) : PP 162 [] [.mY l] [] (.lit (.int .u32 (Adi l))) := by
 refine Eb Tryz.func162 ?_
 refine Bw ?_
 refine Df ok0 (Agx 0 l hl) ?_
 refine B6 ?_
 simp [go_sem, Adi]
def Alw (l : List Int) : Nat -> Int
 | 0 => 0
 | i + 1 => Eu .or .u32 (IntKind.u32.wrap (Alw l i * 2 ^ min 8 32)) (IntKind.u32.wrap (Akg l i))
def At9 (l : List Int) : Int := Alw l l.length
theorem Acc (l : List Int) (hl : l.length <= 1000000) : PP 163 [] [.mY l] [] (.lit (.int .u32 (At9 l))) := by
 refine Eb Tryz.func163 ?_
 refine Bw ?_
 refine Bw <| .seq ?_
 refine Bw <| .block ?_
 refine Cc l.length (fun i1 => ⟨[(3, .lit (.int .u32 (Alw l i1))), (6, .mY l), (7, .li l.length), (8, .li i1)], []⟩) ⟨[], Ds (by decide) ?_ ?_, by simp⟩ fun i1 hi1 => ?_
 ·simp [go_sem, Alw]
 ·simp [go_sem, Alw]
 refine Bw <| .seq ?_
 refine B7 ?_ ?_ <;> intro h9
 ·have hxx : l[i1]? = some l[i1] := Aa (by omega)
  generalize l[i1] = x at hxx
  have hax : Akg l i1 = x := by simp only [Akg, hxx, Bh]
  refine Bv <| .seq <| .block <| .H hxx ?_
  refine VW.H1 ok0 ?_
  refine Cl ?_
  refine ⟨by omega, [], Ds (by decide) ?_ ?_, by simp⟩
  ·simp [go_sem, Dt ((i1 : Int) + 1), Alw, hax, h9]
  simp [go_sem, Alw, hax, h9]
 refine B5 <| .R ?_
 have he : i1 = l.length := by omega
 subst he
 refine B6 ?_
 simp [go_sem]
 simp [At9]
def Zh (n : Int) : Int := if n < 0 \/ 200 < n then 0 else IntKind.i64.wrap (IntKind.i64.wrap (6 + n) + 4)
theorem Xh (n : Int) : PP 161 [] [.li n] [] (.li (Zh n)) := by
 refine Eb Tryz.func161 ?_
 refine Bw <| .seq ?_
 refine Bw ?_
 refine B7 ?_ ?_ <;> intro h8
 ·refine Bw ?_
  refine B6 ?_
  simp [go_sem]
  simp [Zh, h8]
 refine Bv <| .R ?_
 refine B6 ?_
 simp [go_sem]
 have hh : ¬ (n < 0 \/ 200 < n) := by omega
 simp [Zh, hh]
def viN : Nat -> Int -> List Int
 | 0, n => [IntKind.u8.wrap n]
 | f + 1, n => if 128 <= n then Eu .or .u8 (IntKind.u8.wrap (Eu .and .i64 n 127)) 128 :: viN f (n.fdiv (2 ^ min 7 64)) else [IntKind.u8.wrap n]
def Kx (n : Int) : List Int × Int := if n < 0 \/ 4294967295 < n then ([], 8) else (viN 5 n, 0)
def Aii (n : Int) (y : List Int × Int) : Prop := ∃ k : Nat, y.1.length + k = 5 /\ y.1 ++ viN k y.2 = viN 5 n /\ 0 <= y.2 /\ y.2 < 128 ^ k
theorem Ae9 {n : Int} {y : List Int × Int} (h : Aii n y) : y.1.length <= 5 := by
 obtain ⟨k, e1, _⟩ := h
 omega
theorem Ape {n : Int} {y : List Int × Int} (h : Aii n y) (h1 : 128 <= y.2) (h2 : 1 <= y.2.fdiv (2 ^ min 7 64)) (h3 : y.2.fdiv (2 ^ min 7 64) * 128 <= y.2) : Aii n (y.1 ++ [Eu .or .u8 (IntKind.u8.wrap (Eu .and .i64 y.2 127)) 128], y.2.fdiv (2 ^ min 7 64)) := by
 obtain ⟨k, e1, e2, e3, e4⟩ := h
 cases k with
 | zero => simp at e4; omega
 | succ k =>
  have hp : (128 : Int) ^ (k + 1) = 128 ^ k * 128 := Int.pow_succ _ _
  refine ⟨k, by simp; omega, ?_, by simp only []; omega, by simp only []; omega⟩
  rw [<- e2, viN, if_pos h1]
  simp
theorem Ase {n : Int} {y : List Int × Int} (h : Aii n y) (h1 : y.2 < 128) : y.1 ++ [IntKind.u8.wrap y.2] = viN 5 n := by
 obtain ⟨k, e1, e2, e3, e4⟩ := h
 rw [<- e2]
 cases k with
 | zero => rfl
 | succ k => rw [viN, if_neg (by omega)]
theorem Awb {n : Int} (h : 128 <= n) : 1 <= n.fdiv (2 ^ min 7 64) /\ n.fdiv (2 ^ min 7 64) * 128 <= n := by
 have e : (2 : Int) ^ min 7 64 = 128 := by decide
 rw [e, Int.fdiv_eq_ediv_of_nonneg _ (by omega)]
 omega
theorem K9 (n : Int) : PP 160 [] [.li n] [] (.tup [.imm false 1 (tY (Kx n).1), .lit (.int .i64 (Kx n).2)]) := by
 refine Eb Tryz.func160 ?_
 refine Bw <| .seq ?_
 refine Bw ?_
 refine B7 ?_ ?_ <;> intro h10
 ·refine Bw ?_
  refine B6 ?_
  simp [go_sem]
  simp [Kx, h10]
 have h0 : 0 <= n /\ n < 128 ^ 5 := by omega
 refine Bv <| .H ok0 <| .seq <| .block ?_
 refine VW.whileE (fun y1 : List Int × Int => ⟨[(0, .li y1.2), (4, .own 0 y1.1.length)], [.row 5 1 true false (tY y1.1)]⟩) (fun y1 => Aii n y1) (fun y1 => y1.2.toNat) (([], n)) ⟨[0], Ds (by decide) ?_ ?_, by simp⟩ (by exact ⟨5, rfl, rfl, h0⟩) fun y1 hy1 => ?_
 ·simp [go_sem]
 ·simp [go_sem]
 refine Dr <| .R ?_
 refine B7 ?_ ?_ <;> intro h13
 ·obtain ⟨q1, q2⟩ := Awb h13
  have hln := Ae9 hy1
  refine Bv <| .block <| .H ok0 ?_
  refine VW.H1 ok0 ?_
  refine ⟨(y1.1 ++ [Eu .or .u8 (IntKind.u8.wrap (Eu .and .i64 y1.2 127)) 128], y1.2.fdiv (2 ^ min 7 64)), ?_, ?_, [0], Ds (by decide) ?_ ?_, by simp⟩
  ·simp only []; omega
  ·exact Ape hy1 h13 q1 q2
  all_goals simp [go_sem]
 have hln := Ae9 hy1
 refine B5 <| .H ok0 ?_
 refine Ch 0 (by simp [go_sem, Fp]) ?_
 simp [go_sem]
 refine B6 ?_
 simp [go_sem]
 have hh : ¬ (n < 0 \/ 4294967295 < n) := by omega
 have hd := Ase hy1 h13
 simp [Kx, hh, <- hd]
def Vk (l : List Int) : Nat -> Int -> Nat -> Int × Int × Int
 | 0, _, _ => (0, 0, 6)
 | f + 1, n, i => match l[i]? with
  | none => (0, 0, 6)
  | some x => if i = 5 then (0, 0, 6)
   else
    let n' := Eu .or .i64 n (IntKind.i64.wrap (IntKind.i64.wrap (Eu .and .u8 x 127) * 2 ^ min (7 * (i : Int)).toNat 64))
    if 128 <= x then Vk l f n' (i + 1)
    else if 4294967295 < n' \/ (0 < i /\ x = 0) then (0, 0, 6) else (n', (i : Int) + 1, 0)
def Vs (l : List Int) : Int × Int × Int := Vk l 6 0 0
theorem Agk {l : List Int} {i f : Nat} {n x : Int} (h : l[i]? = some x) : Vk l (f + 1) n i = if i = 5 then (0, 0, 6)
 else if 128 <= x then Vk l f (Eu .or .i64 n (IntKind.i64.wrap (IntKind.i64.wrap (Eu .and .u8 x 127) * 2 ^ min (7 * (i : Int)).toNat 64))) (i + 1)
  else if 4294967295 < Eu .or .i64 n (IntKind.i64.wrap (IntKind.i64.wrap (Eu .and .u8 x 127) * 2 ^ min (7 * (i : Int)).toNat 64)) \/ (0 < i /\ x = 0) then (0, 0, 6) else (Eu .or .i64 n (IntKind.i64.wrap (IntKind.i64.wrap (Eu .and .u8 x 127) * 2 ^ min (7 * (i : Int)).toNat 64)), (i : Int) + 1, 0) := by
 rw [Vk, h]
theorem Apf {l : List Int} : ∀ (f : Nat) (n : Int), Vk l f n l.length = (0, 0, 6)
 | 0, n => rfl
 | f + 1, n => by simp [Vk]
theorem Aaj (l : List Int) (hl : l.length <= 1000000) : PP 105 [] [.mY l] [] (.tup [.lit (.int .i64 (Vs l).1), .lit (.int .i64 (Vs l).2.1), .lit (.int .i64 (Vs l).2.2)]) := by
 refine Eb Tryz.func105 ?_
 refine Bw ?_
 refine Bw <| .seq ?_
 refine Bw <| .block ?_
 refine Cs l.length (fun i1 (y1 : Int) => ⟨[(5, .li y1), (8, .mY l), (9, .li l.length), (10, .li i1)], []⟩) (fun i1 y1 => i1 <= 5 /\ Vk l (6 - i1) y1 i1 = Vs l) (0) ⟨[], Ds (by decide) ?_ ?_, by simp⟩ ⟨by omega, rfl⟩ fun i1 y1 hi1 hy1 => ?_
 ·simp [go_sem]
 ·simp [go_sem]
 refine Bw <| .seq ?_
 refine B7 ?_ ?_ <;> intro h11
 ·have hxx : l[i1]? = some l[i1] := Aa (by omega)
  generalize l[i1] = x at hxx
  have hax : Akg l i1 = x := by simp only [Akg, hxx, Bh]
  have hst := Agk (l := l) (f := 5 - i1) (n := y1) hxx
  rw [show 5 - i1 + 1 = 6 - i1 by omega, hy1.2] at hst
  refine Bv <| .seq <| .block <| .H hxx <| .seq ?_
  refine Bw ?_
  refine B7 ?_ ?_ <;> intro h16
  ·refine B5 <| .R ?_
   refine B6 ?_
   simp [go_sem]
   rw [if_pos (by omega)] at hst
   simp [hst]
  have h7 := Dt (7 * (i1 : Int))
  have h1 := Dt ((i1 : Int) + 1)
  have hi5 : ¬ i1 = 5 := by omega
  rw [if_neg hi5] at hst
  refine Bv <| .H h7 <| .seq ?_
  refine Bw ?_
  refine B7 ?_ ?_ <;> intro h26
  ·refine B5 <| .R1 ?_
   refine ⟨by omega, (Eu .or .i64 y1 (IntKind.i64.wrap (IntKind.i64.wrap (Eu .and .u8 x 127) * 2 ^ min (7 * (i1 : Int)).toNat 64))), ?_, [], Ds (by decide) ?_ ?_, by simp⟩
   ·refine ⟨by omega, ?_⟩; rw [show 6 - (i1 + 1) = 5 - i1 by omega, hst, if_pos h26]
   ·simp [go_sem, Dt ((i1 : Int) + 1)]
   simp [go_sem]
  refine Bv <| .seq <| .S (fun K kk => by simp +contextual [go_sem]; exact kk) ?_
  refine B7 ?_ ?_ <;> intro h36
  ·refine B5 <| .R ?_
   refine B6 ?_
   simp [go_sem]
   rw [if_neg (by omega), if_pos h36] at hst
   simp [hst]
  refine Bv <| .H h1 ?_
  refine B6 ?_
  simp [go_sem]
  rw [if_neg (by omega), if_neg (by omega)] at hst
  simp [hst, h1]
 refine B5 <| .R ?_
 have he : i1 = l.length := by omega
 subst he
 refine B6 ?_
 simp [go_sem]
 rw [Apf] at hy1
 simp [<- hy1.2]
def Ix (k : Int) (n : Int) : List Int := [90, 165, 1, IntKind.u8.wrap k, IntKind.u8.wrap (n.fdiv (2 ^ min 8 64)), IntKind.u8.wrap n]
def Nj (s : Int) : List Int := [IntKind.u8.wrap (s.fdiv (2 ^ min 24 32)), IntKind.u8.wrap (s.fdiv (2 ^ min 16 32)), IntKind.u8.wrap (s.fdiv (2 ^ min 8 32)), IntKind.u8.wrap (s.fdiv (2 ^ min 0 32))]
def Abr (k : Int) (p : List Int) : List Int := Ix k p.length ++ p ++ Nj (Adi ((Ix k p.length).drop 2 ++ p))
def Tf (k : Int) (p : List Int) : List Int × Int := if k < 0 \/ 255 < k then ([], 8) else if 200 < p.length then ([], 7) else (Abr k p, 0)
theorem Av2 {α : Type} (z : α) (n : Nat) : List.replicate (n + 10) z = z :: z :: z :: z :: z :: z :: List.replicate (n + 4) z := rfl
theorem Acl {α : Type} (a : List α) : ∀ (b c : List α), c.length <= b.length -> Jt (a ++ b) a.length c = a ++ c ++ b.drop c.length
 | b, [], _ => by simp [Jt]
 | [], c :: cs, h => by simp at h
 | b :: bs, c :: cs, h => by
  have ih := Acl (a ++ [c]) bs cs (by simpa using h)
  have e : (a ++ b :: bs).set a.length c = (a ++ [c]) ++ bs := by
   rw [List.set_append_right _ _ (Aj _)]; simp
  rw [Jt, e, show a.length + 1 = (a ++ [c]).length by simp, ih]
  simp
theorem Av0 {α β : Type} {g : β -> α} (p : List β) (a b c d e f z : α) {m : Nat} (hm : p.length <= m) : Jt (a :: b :: c :: d :: e :: f :: List.replicate (p.length + 4) z) 6 (List.take m (List.map g p)) = a :: b :: c :: d :: e :: f :: (List.map g p ++ [z, z, z, z]) := by
 rw [Bf (by simpa using hm)]
 have := Acl [a, b, c, d, e, f] (List.replicate (p.length + 4) z) (List.map g p) (by simp)
 simp only [A6, List.length_nil, List.cons_append, List.nil_append] at this
 rw [this, A2, List.drop_replicate, show p.length + 4 - p.length = 4 by omega]
 rfl
theorem Asi {A : List Int} {s : Int} {i : Nat} (hi : i < 4) : (A ++ ((Nj s).take i ++ List.replicate (4 - i) 0)).set (A.length + i) ((Nj s).getD i 0) = A ++ ((Nj s).take (i + 1) ++ List.replicate (4 - (i + 1)) 0) := by
 rw [List.set_append_right _ _ (by omega)]
 congr 1
 rw [show A.length + i - A.length = i by omega]
 rcases (by omega : i = 0 \/ i = 1 \/ i = 2 \/ i = 3) with rfl | rfl | rfl | rfl <;> simp [Nj, List.replicate]
theorem Atz (l : List Int) (i : Nat) (x : Int) : (tY l).set i [.lit (.int .u8 x)] = tY (l.set i x) := by simp [tY, List.map_set]
theorem At0 {R : List Int} {n : Nat} (h : n < R.length) (v : T) : (tY R).set n (((tY R)[n]?.getD []).set 0 v) = (tY R).set n [v] := by
 simp [tY, Aa h]
theorem Al1 {s : Int} {i : Nat} (hi : i < 4) : (Nj s).getD i 0 = IntKind.u8.wrap (s.fdiv (2 ^ min (8 * (3 - (i : Int))).toNat 32)) := by
 rcases (by omega : i = 0 \/ i = 1 \/ i = 2 \/ i = 3) with rfl | rfl | rfl | rfl <;> simp [Nj]
theorem Afz {n : Nat} (h : n <= 200) : Zh n = n + 10 := by
 have e1 := Dt (6 + (n : Int))
 have e2 := Dt (6 + (n : Int) + 4)
 have hh : ¬ ((n : Int) < 0 \/ 200 < (n : Int)) := by omega
 simp only [Zh, if_neg hh, e1, e2]
 omega
theorem Acd (k : Int) (p : List Int) (hl : p.length <= 1000000) : PP 137 [] [.li k, .mY p] [] (.tup [.imm false 1 (tY (Tf k p).1), .lit (.int .i64 (Tf k p).2)]) := by
 refine Eb Tryz.func137 ?_
 refine Bw <| .seq ?_
 refine Bw ?_
 refine B7 ?_ ?_ <;> intro h15
 ·refine Bw ?_
  refine B6 ?_
  simp [go_sem]
  simp [Tf, h15]
 refine Bv <| .seq <| .R ?_
 refine B7 ?_ ?_ <;> intro h18
 ·refine Bw ?_
  refine B6 ?_
  simp [go_sem]
  have hh : ¬ (k < 0 \/ 255 < k) := by omega
  have hh2 : 200 < p.length := by omega
  simp [Tf, hh, hh2]
 have hsz := Afz (n := p.length) (by omega)
 have hn : ((p.length : Int) + 10).toNat = p.length + 10 := by omega
 have h6 := Dt (6 + (p.length : Int))
 have h7 : (6 + (p.length : Int)).toNat - 2 = p.length + 4 := by omega
 refine Bv <| .R ?_
 refine Df hsz (Xh p.length) ?_
 refine VW.wkE (s' := ⟨[(0, .li k), (1, .mY p), (6, .li p.length), (7, .own 0 (p.length + 10))], [.row 5 1 true false (tY (0 :: 0 :: 0 :: 0 :: 0 :: 0 :: List.replicate (p.length + 4) 0))]⟩) ⟨[0], Ds (by decide) ?_ ?_, by simp⟩ ?_
 ·simp [go_sem, hn, Av2]
 ·simp [go_sem, hn, Av2]
 refine VW.H ok0 ?_
 refine VW.H ok0 ?_
 refine VW.H ok0 ?_
 have hcp := fun a b c d e f z => Av0 (g := fun x => [T.lit (Value.int IntKind.u8 x)]) p a b c d e f z (m := ((p.length : Int) + 10).toNat - 6) (by omega)
 refine VW.wkE (s' := ⟨[(0, .li k), (1, .mY p), (6, .li p.length), (7, .own 0 (p.length + 10))], [.row 5 1 false false (tY ((Ix k p.length) ++ p ++ List.replicate 4 0))]⟩) ⟨[0], Ds (by decide) ?_ ?_, by simp⟩ ?_
 ·simp [go_sem, hcp]
 ·simp [go_sem, hcp, Ix, tY]
 refine Bx (by rfl) fun K1 hK1 => ?_
 simp [go_sem, h6, h7]
 repeat' with_reducible refine Ax ?_ ?_
 all_goals try (intros; (repeat' refine Ax ?_ ?_) <;> omega)
 all_goals try (simp [Ix]; omega)
 refine .lo (Afa ((Ix k p.length).drop 2 ++ p) (by simp [Ix]; omega)) (by simp [go_sem, Ix, h7]) (by simp [AV.cln, Ez]) ?_
 simp [go_sem, h6, h7]
 refine hK1 _ ?_; clear hK1
 refine Dr <| .R <| .block ?_
 refine Cc 4 (fun i1 => ⟨[(6, .li p.length), (7, .own 0 (p.length + 10)), (8, .lit (.int .u32 (Adi ((Ix k p.length).drop 2 ++ p)))), (52, .li i1)], [.row 5 1 false false (tY ((Ix k p.length) ++ p ++ ((Nj (Adi ((Ix k p.length).drop 2 ++ p))).take i1 ++ List.replicate (4 - i1) 0)))]⟩) ⟨[0], Ds (by decide) ?_ ?_, by simp⟩ fun i1 hi1 => ?_
 ·simp [go_sem]
 ·simp [go_sem]
 refine Bw <| .seq ?_
 refine B7 ?_ ?_ <;> intro h53
 ·have hw1 := Dt (6 + (p.length : Int) + i1)
  have hw2 := Dt (3 - (i1 : Int))
  have hw3 := Dt (8 * (3 - (i1 : Int))) (by omega) (by omega)
  have he : (6 + (p.length : Int) + i1).toNat = (Ix k p.length ++ p).length + i1 := by simp [Ix]; omega
  have hset := congrArg tY (Asi (A := Ix k p.length ++ p) (s := Adi ((Ix k p.length).drop 2 ++ p)) (i := i1) (by omega))
  rw [Al1 (by omega), <- Atz, <- At0 (by simp [Ix, Nj]; omega), <- he] at hset
  simp [tY] at hset
  refine Bv <| .seq <| .block <| .R ?_
  refine VW.region1 (by rfl) fun K1 hK1 => ?_
  simp [go_sem, h6, hw1, hw2, hw3]
  repeat' with_reducible refine Ax ?_ ?_
  all_goals try (intros; (repeat' refine Ax ?_ ?_) <;> omega)
  all_goals try (simp [Ix, Nj]; omega)
  refine hK1 _ ?_; clear hK1
  refine Cl ?_
  refine ⟨by omega, [0], Ds (by decide) ?_ ?_, by simp⟩
  ·simp [go_sem, Dt ((i1 : Int) + 1), hset, h15, h18, h53]
  simp [go_sem, hset, h15, h18, h53]
 refine B5 <| .R ?_
 have he : i1 = 4 := by omega
 subst he
 refine Ch 0 (by simp [go_sem, Fp]) ?_
 simp [go_sem]
 refine B6 ?_
 simp [go_sem]
 have hh : ¬ (k < 0 \/ 255 < k) := by omega
 have hh2 : ¬ 200 < p.length := by omega
 have hc : p.length + 10 = (Ix k p.length).length + (p.length + 4) := by simp [Ix]; omega
 simp [Tf, Abr, hh, hh2, tY, Nj, if_pos hc, go_sem]
theorem Asj {α β : Type} {g : β -> α} (r : List β) {n : Nat} {z : α} (h : n <= r.length) : Jt (List.replicate n z) 0 (List.take n (List.take n (List.map g r))) = List.map g (List.take n r) := by
 have := Acl [] (List.replicate n z) (List.map g (List.take n r)) (by simp; omega)
 simp only [List.nil_append, List.length_nil] at this
 rw [List.take_take, Nat.min_self, <- List.map_take, this, List.drop_of_length_le (by simp; omega)]
 simp
theorem Al2 {n : Int} (h0 : 0 <= n) (h : n <= 200) : Zh n = n + 10 := by
 obtain ⟨m, rfl⟩ := Int.eq_ofNat_of_zero_le h0
 exact Afz (by omega)
def By (l : List Int) : Prop := ∀ x, x ∈ l -> 0 <= x /\ x < 256
theorem Aqn {a b : Int} (ha : 0 <= a) (ha' : a < 4611686018427387904) (hb : 0 <= b) (hb' : b < 4611686018427387904) : Eu .or .i64 a b = ((a.toNat ||| b.toNat : Nat) : Int) := by
 obtain ⟨m, rfl⟩ := Int.eq_ofNat_of_zero_le ha
 obtain ⟨n, rfl⟩ := Int.eq_ofNat_of_zero_le hb
 have hm : m < 2 ^ 62 := by omega
 have hn : n < 2 ^ 62 := by omega
 have h := Nat.or_lt_two_pow hm hn
 have e : (BitVec.ofInt 64 (m : Int) ||| BitVec.ofInt 64 (n : Int)).toNat = m ||| n := by
  rw [BitVec.ofInt_natCast, BitVec.ofInt_natCast, BitVec.toNat_or, BitVec.toNat_ofNat, BitVec.toNat_ofNat, Nat.mod_eq_of_lt (by omega), Nat.mod_eq_of_lt (by omega)]
 show IntKind.i64.wrap (((BitVec.ofInt 64 (m : Int) ||| BitVec.ofInt 64 (n : Int)).toNat : Nat) : Int) = _
 rw [e, Dt _]
 simp
theorem Av4 {x y : Int} (hx : 0 <= x /\ x < 256) (hy : 0 <= y /\ y < 256) : Eu .or .i64 (IntKind.i64.wrap (IntKind.i64.wrap x * 256)) (IntKind.i64.wrap y) = x * 256 + y := by
 rw [Dt x, Dt (x * 256), Dt y, Aqn (by omega) (by omega) (by omega) (by omega)]
 obtain ⟨m, rfl⟩ := Int.eq_ofNat_of_zero_le hx.1
 obtain ⟨n, rfl⟩ := Int.eq_ofNat_of_zero_le hy.1
 have := Nat.shiftLeft_add_eq_or_of_lt (i := 8) (b := n) (by omega) m
 rw [Nat.shiftLeft_eq] at this
 rw [show ((m : Int) * 256).toNat = m * 2 ^ 8 by omega, Int.toNat_natCast, <- this]
 omega
def Ey : List Int -> Fq × Int × Bool
 | [] => (⟨0, 0, []⟩, 0, false)
 | [b0] => if b0 ≠ 90 then (⟨2, 0, []⟩, 1, true) else (⟨0, 0, []⟩, 0, false)
 | b0 :: b1 :: r => if b0 ≠ 90 \/ b1 ≠ 165 then (⟨2, 0, []⟩, 1, true) else match r with
  | b2 :: b3 :: b4 :: b5 :: r =>
   let n := b4 * 256 + b5
   if 200 < n then (⟨7, 0, []⟩, 1, true)
   else if (r.length : Int) < n + 4 then (⟨0, 0, []⟩, 0, false)
   else if Adi (b2 :: b3 :: b4 :: b5 :: r.take n.toNat) ≠ At9 ((r.drop n.toNat).take 4) then (⟨4, 0, []⟩, 1, true)
   else if b2 ≠ 1 then (⟨3, 0, []⟩, n + 10, true)
   else if b3 < 1 \/ 22 < b3 then (⟨5, 0, []⟩, n + 10, true)
   else (⟨0, b3, r.take n.toNat⟩, n + 10, true)
  | _ => (⟨0, 0, []⟩, 0, false)
theorem Aen (b : List Int) (hl : b.length <= 1000000) (hb : By b) : PP 140 [] [.mY b] [] (.tup [.agg ((Ey b).1.a false), .lit (.int .i64 (Ey b).2.1), .lb ((Ey b).2.2)]) := by
 refine Eb Tryz.func140 ?_
 refine Bw <| .seq ?_
 refine Bw ?_
 refine B7 ?_ ?_ <;> intro h11
 ·refine Bw ?_
  refine B6 ?_
  simp [go_sem, h11, Ey]
 refine Bv <| .seq ?_
 obtain ⟨b0, r, rfl⟩ := List.exists_cons_of_ne_nil h11
 rcases r with _ | ⟨b1, r⟩
 ·refine VW.H ok0 ?_
  refine B7 ?_ ?_ <;> intro h27
  ·refine Bw ?_
   refine B6 ?_
   simp [go_sem]
   first | (simp [Ey, h27]; done) | (have e : ¬b0 = 90 \/ ¬b1 = 165 := (by omega); simp [Ey, e])
  refine Bv <| .seq <| .R ?_
  refine C7 ?_ ?_ <;> intro h31 <;> simp [go_sem] at h31
  refine Bw ?_
  refine B6 ?_
  simp [go_sem]
  first | (simp [Ey, h27]; done) | (have e : ¬(¬b0 = 90 \/ ¬b1 = 165) := (by omega); rcases r with _ | ⟨b2, _ | ⟨b3, _ | ⟨b4, _ | ⟨b5, r⟩⟩⟩⟩ <;> first | (simp [Ey, e]; done) | (exfalso; simp at h31; done) | (exfalso; simp at h31; omega))
 refine VW.H ok0 ?_
 refine B7 ?_ ?_ <;> intro h27
 ·refine Bw ?_
  refine B6 ?_
  simp [go_sem]
  first | (simp [Ey, h27]; done) | (have e : ¬b0 = 90 \/ ¬b1 = 165 := (by omega); simp [Ey, e])
 refine Bv <| .seq <| .R ?_
 refine B7 ?_ ?_ <;> intro h31
 ·refine Bw ?_
  refine B6 ?_
  simp [go_sem]
  first | (simp [Ey, h27]; done) | (have e : ¬(¬b0 = 90 \/ ¬b1 = 165) := (by omega); rcases r with _ | ⟨b2, _ | ⟨b3, _ | ⟨b4, _ | ⟨b5, r⟩⟩⟩⟩ <;> first | (simp [Ey, e]; done) | (exfalso; simp at h31; done) | (exfalso; simp at h31; omega))
 obtain ⟨b2, b3, b4, b5, r, rfl⟩ : ∃ b2 b3 b4 b5 r', r = b2 :: b3 :: b4 :: b5 :: r' := by
  rcases r with _ | ⟨b2, _ | ⟨b3, _ | ⟨b4, _ | ⟨b5, r⟩⟩⟩⟩ <;> first | exact ⟨_, _, _, _, _, rfl⟩ | (exfalso; simp at h31; done) | (exfalso; simp at h31; omega)
 have h4 := hb b4 (by simp)
 have h5 := hb b5 (by simp)
 have hn := Av4 h4 h5
 refine Bv <| .G hn <| .seq ?_
 refine Bw ?_
 refine B7 ?_ ?_ <;> intro h44
 ·refine Bw ?_
  refine B6 ?_
  simp [go_sem]
  have e27 : ¬(¬b0 = 90 \/ ¬b1 = 165) := (by omega)
  simp [Ey, e27, h44]
 generalize hN : b4 * 256 + b5 = N at *
 have h0 : 0 <= N := by omega
 have hs := Al2 (n := N) (by omega) (by omega)
 have hw := Dt (6 + N)
 have e1 : (6 + N).toNat = N.toNat + 6 := by omega
 have e2 : (N + 10).toNat = N.toNat + 10 := by omega
 refine Bv <| .L hs (Xh N) <| .seq ?_
 refine Bw ?_
 refine B7 ?_ ?_ <;> intro h51
 ·refine Bw ?_
  refine B6 ?_
  simp [go_sem]
  have e27 : ¬(¬b0 = 90 \/ ¬b1 = 165) := (by omega)
  have c44 : ¬ 200 < N := (by omega)
  have c51 : (r.length : Int) < N + 4 := (by omega)
  simp [Ey, e27, hN, c44, c51]
 refine Bv <| .seq <| .E (fun K kk => by simp [go_sem, hw, e1, e2]; (repeat refine aK ?_); refine .lo (Afa (b2 :: b3 :: b4 :: b5 :: r.take N.toNat) (by simp; omega)) (by simp [go_sem]) (by simp [AV.cln, Ez]) ?_; simp [go_sem, hw, e1, e2]; (repeat refine aK ?_); refine .lo (Acc ((r.drop N.toNat).take 4) (by simp; omega)) (by simp [go_sem, List.drop_take]) (by simp [AV.cln, Ez]) ?_; simp [go_sem, hw, e1, e2]; exact kk) ?_
 refine B7 ?_ ?_ <;> intro h64
 ·refine Bw ?_
  refine B6 ?_
  simp [go_sem]
  have e27 : ¬(¬b0 = 90 \/ ¬b1 = 165) := (by omega)
  have c44 : ¬ 200 < N := (by omega)
  have c51 : ¬ (r.length : Int) < N + 4 := (by omega)
  simp [Ey, e27, hN, c44, c51, h64]
 refine Bv <| .seq <| .H ok0 ?_
 refine B7 ?_ ?_ <;> intro h69
 ·refine Bw ?_
  refine B6 ?_
  simp [go_sem]
  have e27 : ¬(¬b0 = 90 \/ ¬b1 = 165) := (by omega)
  have c44 : ¬ 200 < N := (by omega)
  have c51 : ¬ (r.length : Int) < N + 4 := (by omega)
  simp [Ey, e27, hN, c44, c51, h64, h69]
 have h3 := hb b3 (by simp)
 have hk := Dt b3
 subst h69
 refine Bv <| .H hk <| .seq ?_
 refine Bw ?_
 refine B7 ?_ ?_ <;> intro h81
 ·refine Bw ?_
  refine B6 ?_
  simp [go_sem]
  have e27 : ¬(¬b0 = 90 \/ ¬b1 = 165) := (by omega)
  have c44 : ¬ 200 < N := (by omega)
  have c51 : ¬ (r.length : Int) < N + 4 := (by omega)
  have e81 : b3 < 1 \/ 22 < b3 := (by omega)
  simp [Ey, e27, hN, c44, c51, h64, e81]
 refine Bv <| .H ok0 ?_
 refine Ce (fun K kk => by simp [go_sem, hw, e1]; repeat first | exact kk | refine aK ?_) ?_
 have hrl : N.toNat <= r.length := (by first | omega | (simp at h51; omega))
 have hm : min N.toNat r.length = N.toNat := Nat.min_eq_left hrl
 have hcp := Asj (g := fun x => [T.lit (Value.int IntKind.u8 x)]) r (z := [T.lit (Value.int IntKind.u8 0)]) hrl
 simp only [hcp]
 refine Ch 1 (by simp [go_sem, Fp]) ?_
 simp [go_sem, hm]
 refine Bw ?_
 refine B6 ?_
 simp [go_sem]
 have e27 : ¬(¬b0 = 90 \/ ¬b1 = 165) := (by omega)
 have c44 : ¬ 200 < N := (by omega)
 have c51 : ¬ (r.length : Int) < N + 4 := (by omega)
 have e81 : ¬ (b3 < 1 \/ 22 < b3) := (by omega)
 simp [Ey, e27, hN, c44, c51, h64, e81, hm, go_sem]
theorem Asf (v : Int) {n : Int} (h : 1 <= n) : -n < v.tmod n /\ v.tmod n < n := by
 have h1 := Int.tmod_lt_of_pos v (show 0 < n by omega)
 have h2 := Int.tmod_lt_of_pos (-v) (show 0 < n by omega)
 rw [Int.neg_tmod] at h2
 omega
def Lz {α : Type} (f : α -> List T) (n : Nat) (X : List (List T)) : Prop := ∃ R : List α, X = R.map f /\ R.length = n
section
variable {α : Type} {f : α -> List T} {n k : Nat} {X Y : List (List T)}
theorem Kh {l : List α} : Lz f l.length (l.map f) := ⟨l, rfl, rfl⟩
theorem Kg : Lz f 0 [] := ⟨[], rfl, rfl⟩
theorem Kf {x : α} {z : List T} (h : z = f x) : Lz f n (List.replicate n z) := ⟨List.replicate n x, by simp [h], by simp⟩
theorem Jj {x : α} {z : List T} (h : z = f x) (h2 : Lz f n X) : Lz f (n + 1) (z :: X) := by
 obtain ⟨R, rfl, rfl⟩ := h2
 exact ⟨x :: R, by simp [h], by simp⟩
theorem Jg (h : Lz f n X) : Lz f (min k n) (List.take k X) := by
 obtain ⟨R, rfl, rfl⟩ := h
 exact ⟨R.take k, by simp, by simp⟩
theorem Ji (h : Lz f n X) : Lz f (n - k) (List.drop k X) := by
 obtain ⟨R, rfl, rfl⟩ := h
 exact ⟨R.drop k, by simp, by simp⟩
theorem Ki (h : Lz f n X) (h2 : Lz f k Y) : Lz f (n + k) (X ++ Y) := by
 obtain ⟨R, rfl, rfl⟩ := h
 obtain ⟨S, rfl, rfl⟩ := h2
 exact ⟨R ++ S, by simp, by simp⟩
theorem Ke {i : Nat} {x : α} {z : List T} (h : Lz f n X) (hz : z = f x) : Lz f n (X.set i z) := by
 obtain ⟨R, rfl, rfl⟩ := h
 exact ⟨R.set i x, by simp [hz, List.map_set], by simp⟩
theorem Apz (R S : List α) (i : Nat) : ∃ R' : List α, Jt (R.map f) i (S.map f) = R'.map f /\ R'.length = R.length := by
 induction S generalizing R i with
 | nil => exact ⟨R, rfl, rfl⟩
 | cons x S ih =>
  obtain ⟨R', h1, h2⟩ := ih (R.set i x) (i + 1)
  refine ⟨R', ?_, by simpa using h2⟩
  rw [List.map_cons, Jt, <- List.map_set, h1]
theorem Jh {i : Nat} (h : Lz f n X) (h2 : Lz f k Y) : Lz f n (Jt X i Y) := by
 obtain ⟨R, rfl, rfl⟩ := h
 obtain ⟨S, rfl, rfl⟩ := h2
 exact Apz R S i
theorem Jk (h : Lz f n X) (e : n = k) : Lz f k X := e ▸ h
end
theorem Afh : ∀ (l : List Ob) (n : Nat), n < l.length -> Nw l n (l.getD n .gone) = l
 | [], _, h => by simp at h
 | _ :: _, 0, _ => rfl
 | _ :: l, n + 1, h => by simp only [Nw, List.getD_cons_succ]; rw [Afh l n (by simpa using h)]
theorem VX.gen {P : Program} {n m : Nat} {c : Code} {st : St} {K : Exit -> St -> Prop} {α : Type} (id : Nat) {ty k : Nat} {g fr : Bool} {X : List (List T)} (ho : st.o id = .row ty k g fr X) (hl : id < st.ob.length) (f : α -> List T) (N : Nat) (h : Lz f N X) (hv : ∀ R : List α, R.length = N -> VX P n m c (st.set id (.row ty k g fr (R.map f))) K) : VX P n m c st K := by
 obtain ⟨R, rfl, h2⟩ := h
 have := hv R h2
 rw [<- ho] at this
 rwa [show st.set id (st.o id) = st by show St.mk _ _ = _; rw [show st.o id = st.ob.getD id .gone from rfl, Afh _ _ hl]] at this
abbrev Dj := @VX.gen
def Awk (P : Program) {D : Type} (rs : List ResultVar) (F : D -> AV) (S : D -> List Ob) (Q : D -> Prop) (e : Exit) (st : St) : Prop := ∃ d, P0 P 0 rs (S d) (F d) e st /\ Q d
theorem Mi {P : Program} {f : FuncId} {fn : Func} {c : Code} {args : List AV} {D : Type} {F : D -> AV} {S : D -> List Ob} {Q : D -> Prop} (hf : P.funcs[f]? = some fn) (hb : fn.body = some c) (hn : (fn.name == "runtime.NumGoroutine") = false) {rs : List ResultVar} (hrs : fn.results = rs.toArray) (hk : args.length <= fn.ntmps)
 (h : VX P fn.ntmps 0 c ⟨Hc 0 args, []⟩ (Awk P rs F S Q)) : ∃ d, Ei P f [] args (S d) (F d) /\ Q d := by
 obtain ⟨e, s, h1, d, h2, h3⟩ := h
 refine ⟨d, Abm hf hb hn hrs hk (h1.mono ?_), h3⟩
 rintro e' s' ⟨rfl, rfl⟩
 exact h2
theorem Zo (p : Fk) : Ct 114 [p.g] (fun d : Int => .li d) (fun d => True) := by
 refine Ek Tryz.func114 ?_
 iterate 2 refine Bq ?_
 refine Bz (Ex ?_); simp [go_sem]
 exact ⟨_, rfl, trivial⟩
theorem W7 (p : Fk) (l : Fd) : Ct 84 [p.g, l.g] (fun d : Int => .li d) (fun d => True) := by
 refine Ek Tryz.func84 ?_
 refine Bq <| .seq ?_
 refine Bq <| .block ?_
 refine Bq ?_
 refine Br ?_ ?_ <;> intro h7
 ·obtain ⟨Y1, cY1, qY1⟩ := got (Zo p)
  refine Da ok0 cY1 ?_
  refine Bz (Ex ?_); simp [go_sem]
  exact ⟨_, rfl, trivial⟩
 refine Bq ?_
 refine Br ?_ ?_ <;> intro h16
 ·refine Bq ?_
  refine Bz (Ex ?_); simp [go_sem]
  exact ⟨_, rfl, trivial⟩
 refine Bq ?_
 refine Br ?_ ?_ <;> intro h24
 ·refine Bq ?_
  refine Bz (Ex ?_); simp [go_sem]
  exact ⟨_, rfl, trivial⟩
 refine Bp <| .R ?_
 refine Bz (Ex ?_); simp [go_sem]
 exact ⟨_, rfl, trivial⟩
theorem Tt (p : Fk) (l : Fd) (b : Bool) : Ct 202 [p.g, l.g, .lb b] (fun d : Fd => d.g) (fun d => True) := by
 refine Ek Tryz.func202 ?_
 refine Bq <| .seq ?_
 refine Bq <| .block ?_
 refine Bq ?_
 refine Br ?_ ?_ <;> intro h9
 ·refine Ca ?_
  refine C9 (by kernel_rfl) (by rfl) (by kernel_rfl) fun K1 hK1 => ?_
  simp [go_sem]
  refine Nl (by simp [go_sem]) (by simp [go_sem]) ?_
  simp [go_sem]
  obtain ⟨Y1, cY1, qY1⟩ := got (Zo p)
  first | refine .lo cY1 rfl (by simp) ?_ | refine .skip ?_
  simp [go_sem]
  refine hK1 _ _ (by kernel_rfl) ?_; clear hK1
  refine Br ?_ ?_ <;> intro h19
  ·refine Bq ?_
   refine Bz (Ex ?_); simp [go_sem]
   exact ⟨⟨_, _⟩, by first | rfl | simp [go_sem], trivial⟩
  refine Bp <| .R ?_
  refine Bz (Ex ?_); simp [go_sem]
  exact ⟨⟨_, _⟩, by first | rfl | simp [go_sem], trivial⟩
 refine Bq ?_
 refine Br ?_ ?_ <;> intro h26
 ·refine Ca <| .R ?_
  refine Br ?_ ?_ <;> intro h33
  ·refine Bq ?_
   refine Bz (Ex ?_); simp [go_sem]
   exact ⟨⟨_, _⟩, by first | rfl | simp [go_sem], trivial⟩
  refine Bp <| .seq <| .R ?_
  refine Br ?_ ?_ <;> intro h40
  ·refine Bq ?_
   refine Bz (Ex ?_); simp [go_sem]
   exact ⟨⟨_, _⟩, by first | rfl | simp [go_sem], trivial⟩
  refine Bp <| .R ?_
  refine Bz (Ex ?_); simp [go_sem]
  exact ⟨⟨_, _⟩, by first | rfl | simp [go_sem], trivial⟩
 refine Bq ?_
 refine Br ?_ ?_ <;> intro h43
 ·refine Ca <| .R ?_
  refine Br ?_ ?_ <;> intro h50
  ·refine Bq ?_
   refine Bz (Ex ?_); simp [go_sem]
   exact ⟨⟨_, _⟩, by first | rfl | simp [go_sem], trivial⟩
  refine Bp <| .R ?_
  refine Bz (Ex ?_); simp [go_sem]
  exact ⟨⟨_, _⟩, by first | rfl | simp [go_sem], trivial⟩
 refine Bp <| .R ?_
 refine Bz (Ex ?_); simp [go_sem]
 exact ⟨⟨_, _⟩, by first | rfl | simp [go_sem], trivial⟩
noncomputable def Ajk (p : Fk) (l : Fd) (b : Bool) : Fd := (got (Tt p l b)).choose
theorem Aip (p : Fk) (l : Fd) (b : Bool) : PP 202 [] [p.g, l.g, .lb b] [] (.agg ((Ajk p l b).a false)) := (got (Tt p l b)).choose_spec.1
theorem Age (p : Fk) (l : Fd) : Ct 219 [p.g, l.g] (fun d : Bool => .lb d) (fun d => True) := by
 refine Ek Tryz.func219 ?_
 refine Bq <| .seq ?_
 refine Bq <| .block ?_
 refine Bq ?_
 refine Br ?_ ?_ <;> intro h7
 ·refine Bq ?_
  refine Bz (Ex ?_); simp [go_sem]
  exact ⟨_, rfl, trivial⟩
 refine Bq ?_
 refine Br ?_ ?_ <;> intro h12
 ·refine Bq ?_
  refine Bz (Ex ?_); simp [go_sem]
  exact ⟨_, rfl, trivial⟩
 refine Bq ?_
 refine Br ?_ ?_ <;> intro h22
 ·refine Bq ?_
  refine Bz (Ex ?_); simp [go_sem]
  exact ⟨_, rfl, trivial⟩
 refine Bq ?_
 refine Br ?_ ?_ <;> intro h34
 ·refine Bq ?_
  refine Bz (Ex ?_); simp [go_sem]
  exact ⟨_, rfl, trivial⟩
 refine Bp <| .R ?_
 refine Bz (Ex ?_); simp [go_sem]
 exact ⟨_, rfl, trivial⟩
theorem Rl (n : Int) : Ct 205 [.li n] (fun d : Bool => .lb d) (fun d => True) := by
 refine Ek Tryz.func205 ?_
 iterate 2 refine Bq ?_
 refine Bz (Ex ?_); simp [go_sem]
 exact ⟨_, rfl, trivial⟩
theorem Aga (b : Mw) : Ct 255 [b.g] (fun d : Bool => .lb d) (fun d => True) := by
 refine Ek Tryz.func255 ?_
 iterate 2 refine Bq ?_
 refine Bz (Ex ?_); simp [go_sem]
 exact ⟨_, rfl, trivial⟩
theorem Sy (a : TAg) (c : Int) : Ct 277 [a.g, .li c] (fun d : Int => .li d) (fun d => True) := by
 refine Ek Tryz.func277 ?_
 refine Bq <| .seq ?_
 refine Bq ?_
 refine Br ?_ ?_ <;> intro h13
 ·refine Bq ?_
  refine Bz (Ex ?_); simp [go_sem]
  exact ⟨_, rfl, trivial⟩
 have hxx : a.lims[c.toNat]? = some a.lims[c.toNat] := Aa (by omega)
 generalize a.lims[c.toNat] = x at hxx
 refine Bp <| .H hxx ?_
 refine Bz (Ex ?_); simp [go_sem]
 exact ⟨_, rfl, trivial⟩
theorem Wf (k : Int) (v : Int) : Ct 191 [.li k, .li v] (fun d : Dz => d.g) (fun d => d.tok = [] /\ d.data = [] /\ d.args.length = 2) := by
 refine Ek Tryz.func191 ?_
 iterate 2 refine Bq ?_
 refine B2 ok0 1 ?_
 refine Bz (Ex ?_); simp [go_sem]
 exact ⟨⟨_, [], [_, _], []⟩, by first | rfl | simp [go_sem], ⟨rfl, rfl, rfl⟩⟩
noncomputable def Iv (k : Int) (v : Int) : Dz := (got (Wf k v)).choose
theorem Sg (k : Int) (v : Int) : PP 191 [] [.li k, .li v] [] (.agg ((Iv k v).a false)) := (got (Wf k v)).choose_spec.1
theorem Alr (k : Int) (v : Int) : (fun d : Dz => d.tok = [] /\ d.data = [] /\ d.args.length = 2) (Iv k v) := (got (Wf k v)).choose_spec.2
theorem I9 (n : Int) : Ct 77 [.li n] (fun d : Bool => .lb d) (fun d => True) := by
 refine Ek Tryz.func77 ?_
 iterate 2 refine Bq ?_
 refine Bz (Ex ?_); simp [go_sem]
 exact ⟨_, rfl, trivial⟩
noncomputable def Hf (n : Int) : Bool := (got (I9 n)).choose
theorem Jb (n : Int) : PP 77 [] [.li n] [] (.lb (Hf n)) := (got (I9 n)).choose_spec.1
theorem Ht (v : Int) (n : Int) (h : 1 <= n) (hn : n <= 1000000) : Ct 15 [.li v, .li n] (fun d : Int => .li d) (fun d => 0 <= d /\ d < n) := by
 refine Ek Tryz.func15 ?_
 have hm := Asf v h
 have hw := Dt (v.tmod n + n)
 refine Bq ?_
 refine Bu ok0 <| .seq ?_
 refine Bq ?_
 refine Br ?_ ?_ <;> intro h10
 ·refine B0 hw ?_
  refine Bq ?_
  refine Bz (Ex ?_); simp [go_sem]
  exact ⟨_, rfl, (by omega)⟩
 refine Bp <| .R ?_
 refine Bz (Ex ?_); simp [go_sem]
 exact ⟨_, rfl, (by omega)⟩
noncomputable def Hu (v : Int) (n : Int) (h : 1 <= n) (hn : n <= 1000000) : Int := (got (Ht v n h hn)).choose
theorem Jf (v : Int) (n : Int) (h : 1 <= n) (hn : n <= 1000000) : PP 15 [] [.li v, .li n] [] (.li (Hu v n h hn)) := (got (Ht v n h hn)).choose_spec.1
theorem G3 (v : Int) (n : Int) (h : 1 <= n) (hn : n <= 1000000) : (fun d : Int => 0 <= d /\ d < n) (Hu v n h hn) := (got (Ht v n h hn)).choose_spec.2
theorem Abv (l : List Gm) (id : Int) (hl : l.length <= 1000000) : Ct 239 [.mVeh l, .li id] (fun d : Gm × Bool => .tup [d.1.g, .lb d.2]) (fun d => True) := by
 refine Ek Tryz.func239 ?_
 refine Bq <| .seq ?_
 refine Bq <| .block ?_
 refine Bs l.length (fun i1 (y1 : Int × Int) => ⟨[(1, .li id), (4, .ptr 0 0), (8, .mVeh l), (9, .li l.length), (10, .li i1)], [.box 216 [.li y1.1, .li y1.2]]⟩) (fun i1 y1 => True) (0, 0) (wk ok0 [0]) (trivial) fun i1 y1 hi1 hy1 => ?_
 refine Bq <| .seq ?_
 refine Br ?_ ?_ <;> intro h11
 ·refine Bp <| .seq <| .block ?_
  have H1 : l[i1]? = some l[i1] := Aa (by omega)
  generalize l[i1] = e1 at H1
  refine Bu H1 ?_
  refine Bu H1 ?_
  refine Br ?_ ?_ <;> intro h17
  ·refine Bu H1 ?_
   exact .ret (fin H1 (e1, true) trivial)
  refine Bp <| .H1 H1 ?_
  exact ⟨by omega, (y1.1, y1.2), trivial, wk (cj2 (Dt ((i1 : Int) + 1)) H1) [0]⟩
 refine Bt <| .R ?_
 exact .ret (fin ok0 (⟨0, 0⟩, false) trivial)
theorem Sz (l : List Gm) (c : Int) (hl : l.length <= 1000000) : Ct 276 [.mVeh l, .li c] (fun d : Int => .li d) (fun d => True) := by
 refine Ek Tryz.func276 ?_
 refine Bq ?_
 refine Bq <| .seq ?_
 refine Bq <| .block ?_
 refine Bs l.length (fun i1 (y1 : Int) => ⟨[(1, .li c), (5, .li y1), (8, .mVeh l), (9, .li l.length), (10, .li i1)], []⟩) (fun i1 y1 => True) (0) (wk ok0 []) (trivial) fun i1 y1 hi1 hy1 => ?_
 refine Bq <| .seq ?_
 refine Br ?_ ?_ <;> intro h11
 ·refine Bp <| .seq <| .block ?_
  have H1 : l[i1]? = some l[i1] := Aa (by omega)
  generalize l[i1] = e1 at H1
  refine Bu H1 ?_
  refine Bu H1 ?_
  refine Br ?_ ?_ <;> intro h17
  ·refine B0 H1 ?_
   refine B0 H1 ?_
   exact ⟨by omega, (IntKind.i64.wrap (y1 + 1)), trivial, wk (cj2 (Dt ((i1 : Int) + 1)) H1) []⟩
  refine Bp <| .H1 H1 ?_
  exact ⟨by omega, (y1), trivial, wk (cj2 (Dt ((i1 : Int) + 1)) H1) []⟩
 refine Bt <| .R ?_
 exact .ret (fin ok0 y1 trivial)
theorem K7 (l : List Gm) (hl : l.length <= 1000000) : Ct 254 [.mVeh l] (fun d : Bool => .lb d) (fun d => True) := by
 refine Ek Tryz.func254 ?_
 refine Bq <| .seq ?_
 refine Bq ?_
 refine Br ?_ ?_ <;> intro h7
 ·refine Bq ?_
  exact .ret (fin ok0 false trivial)
 refine Bp <| .seq <| .R <| .block ?_
 refine Bs l.length (fun i1 (y1 : Unit) => ⟨[(0, .mVeh l), (8, .mVeh l), (9, .li l.length), (10, .li i1)], []⟩) (fun i1 y1 => True) () (wk ok0 []) (trivial) fun i1 y1 hi1 hy1 => ?_
 refine Bq <| .seq ?_
 refine Br ?_ ?_ <;> intro h11
 ·refine Bp <| .seq <| .block ?_
  have H1 : l[i1]? = some l[i1] := Aa (by omega)
  generalize l[i1] = e1 at H1
  refine Bu H1 <| .seq ?_
  refine Bu H1 ?_
  refine Br ?_ ?_ <;> intro h32
  ·refine Bu H1 ?_
   exact .ret (fin H1 false trivial)
  refine Bp ?_
  by_cases hc8 : 0 < i1
  ·have hw2 := Dt (i1 - 1 : Int)
   have H3 : l[(i1 - 1)]? = some l[(i1 - 1)] := Aa (by omega)
   generalize l[(i1 - 1)] = e3 at H3
   refine C8 (cj4 H1 hc8 hw2 H3) ?_
   refine Br ?_ ?_ <;> intro h45
   ·refine Bu (cj4 H1 hc8 hw2 H3) ?_
    exact .ret (fin (cj4 H1 hc8 hw2 H3) false trivial)
   refine Bp <| .H1 (cj4 H1 hc8 hw2 H3) ?_
   exact ⟨by omega, (), trivial, wk (cj5 (Dt ((i1 : Int) + 1)) H1 hc8 hw2 H3) []⟩
  have hi0 : i1 = 0 := by omega
  have hxb : l[i1 - 1]? = some e1 := by rw [<- H1, hi0]
  have hw4 := Dt (i1 - 1 : Int)
  refine C8 (cj4 H1 hc8 hxb hw4) ?_
  refine C5 ?_ ?_ <;> intro h45 <;> simp [go_sem] at h45
  refine Bp <| .H1 (cj4 H1 hc8 hxb hw4) ?_
  exact ⟨by omega, (), trivial, wk (cj5 (Dt ((i1 : Int) + 1)) H1 hc8 hxb hw4) []⟩
 refine Bt <| .R ?_
 exact .ret (fin ok0 true trivial)
noncomputable def Aa4 (l : List Gm) (hl : l.length <= 1000000) : Bool := (got (K7 l hl)).choose
theorem Aai (l : List Gm) (hl : l.length <= 1000000) : PP 254 [] [.mVeh l] [] (.lb (Aa4 l hl)) := (got (K7 l hl)).choose_spec.1
theorem K6 (l : List Gm) (id : Int) (hl : l.length <= 1000000) : Ct 260 [.mVeh l, .li id] (fun d : Int => .li d) (fun d => 0 <= d /\ d <= l.length) := by
 refine Ek Tryz.func260 ?_
 refine Bq ?_
 refine Bq <| .seq <| .block ?_
 refine Cj (fun (y1 : Int) => ⟨[(0, .mVeh l), (1, .li id), (5, .li y1)], []⟩) (fun y1 => 0 <= y1 /\ y1 <= l.length) (fun y1 => (l.length - y1).toNat) (0) (wk ok0 []) (by omega) fun y1 hy1 => ?_
 refine Ca ?_
 by_cases hc2 : y1 < l.length
 ·have H1 : l[y1.toNat]? = some l[y1.toNat] := Aa (by omega)
  generalize l[y1.toNat] = e1 at H1
  refine Bu (cj2 hc2 H1) ?_
  refine Br ?_ ?_ <;> intro h18
  ·refine Bp <| .block ?_
   have hw2 := Dt (y1 + 1 : Int)
   refine B0 (cj3 hc2 H1 hw2) ?_
   refine ⟨((y1 + 1)), ?_, ?_, [], Ds (by decide) ?_ ?_, by simp⟩
   ·first | omega | (simp at h18; omega)
   ·first | omega | (simp at h18; omega)
   all_goals simp [go_sem, hc2, H1, hw2]
  refine Bt <| .H (cj2 hc2 H1) ?_
  exact .ret (fin (cj2 hc2 H1) y1 hy1)
 refine Bu hc2 ?_
 refine C5 ?_ ?_ <;> intro h18 <;> simp [go_sem] at h18
 refine Bt <| .H hc2 ?_
 exact .ret (fin hc2 y1 hy1)
noncomputable def Lf (l : List Gm) (id : Int) (hl : l.length <= 1000000) : Int := (got (K6 l id hl)).choose
theorem Aah (l : List Gm) (id : Int) (hl : l.length <= 1000000) : PP 260 [] [.mVeh l, .li id] [] (.li (Lf l id hl)) := (got (K6 l id hl)).choose_spec.1
theorem Aa5 (l : List Gm) (id : Int) (hl : l.length <= 1000000) : 0 <= (Lf l id hl) /\ (Lf l id hl) <= l.length := (got (K6 l id hl)).choose_spec.2
theorem Wc (l : List Gm) (a : TAg) (v : Gm) (hl : l.length <= 1000000) : Ct 259 [.mVeh l, a.g, v.g] (fun d : List Gm × Int => .tup [.mVeh d.1, .li d.2]) (fun d => d.1.length <= 9) := by
 refine Ek Tryz.func259 ?_
 obtain ⟨Y1, cY1, qY1⟩ := got (K6 l v.id hl)
 have hp := qY1
 refine Bq <| .seq ?_
 obtain ⟨Y2, cY2, qY2⟩ := got (K7 l hl)
 refine B8 ok0 cY2 ?_
 refine Br ?_ ?_ <;> intro h12
 ·refine Bq ?_
  exact .ret (fin ok0 ([], 1) (by first | omega | (simp; done) | (simp; omega)))
 refine Bp <| .seq <| .R ?_
 refine Br ?_ ?_ <;> intro h20
 ·refine Bq ?_
  exact .ret (fin ok0 ([], 8) (by first | omega | (simp; done) | (simp; omega)))
 refine Bp <| .seq <| .R ?_
 refine Br ?_ ?_ <;> intro h30
 ·refine Bq ?_
  exact .ret (fin ok0 ([], 17) (by first | omega | (simp; done) | (simp; omega)))
 refine Bp <| .L ok0 cY1 <| .seq ?_
 by_cases hc8 : Y1 < l.length
 ·have H1 : l[Y1.toNat]? = some l[Y1.toNat] := Aa (by omega)
  generalize l[Y1.toNat] = e1 at H1
  refine C8 (cj2 hc8 H1) ?_
  refine Br ?_ ?_ <;> intro h48
  ·refine Bu (cj2 hc8 H1) ?_
   exact .ret (fin (cj2 hc8 H1) ([], 11) (by first | omega | (simp; done) | (simp; omega)))
  refine Bp <| .seq ?_
  obtain ⟨Y3, cY3, qY3⟩ := got (Sz l v.cls hl)
  obtain ⟨Y4, cY4, qY4⟩ := got (Sy a v.cls)
  refine Cz (fun K kk => by simp [go_sem, hc8, H1]; refine .l cY3 ?_; simp [go_sem, hc8, H1]; refine .l cY4 ?_; simp [go_sem, hc8, H1]; exact kk) ?_
  refine Br ?_ ?_ <;> intro h57
  ·refine Bu (cj2 hc8 H1) ?_
   exact .ret (fin (cj2 hc8 H1) ([], 14) (by first | omega | (simp; done) | (simp; omega)))
  refine Bp <| .seq <| .H (cj2 hc8 H1) ?_
  refine Br ?_ ?_ <;> intro h60
  ·refine Bu (cj2 hc8 H1) ?_
   exact .ret (fin (cj2 hc8 H1) ([], 10) (by first | omega | (simp; done) | (simp; omega)))
  refine Bp ?_
  have hw2 := Dt (l.length + 1 : Int)
  refine Bu (cj3 hc8 H1 hw2) ?_
  refine Bu (cj3 hc8 H1 hw2) ?_
  refine Dj 2 rfl (by simp) Gm.t (l.length + 1) ?_ fun R hR => ?_
  ·apply Jk
   ·repeat' first | exact Kh | exact Kg | exact Kf (x := (⟨0, 0⟩ : Gm)) rfl | apply Jg | apply Ji | apply Jh | apply Ki | apply (fun h => Ke (x := (⟨_, _⟩ : Gm)) h rfl) | apply (fun h => Jj (x := (⟨_, _⟩ : Gm)) rfl h)
   first | rfl | omega | simp | (simp; omega)
  simp [go_sem]
  have H3 : R[Y1.toNat]? = some R[Y1.toNat] := Aa (by omega)
  generalize R[Y1.toNat] = e3 at H3
  refine Bu (cj5 hc8 H1 hw2 hR H3) ?_
  have hw4 := Dt (Y1 + 1 : Int)
  refine C8 (cj6 hc8 H1 hw2 hR H3 hw4) ?_
  refine Dj 2 rfl (by simp) Gm.t (l.length + 1) ?_ fun S hS => ?_
  ·apply Jk
   ·repeat' first | exact Kh | exact Kg | exact Kf (x := (⟨0, 0⟩ : Gm)) rfl | apply Jg | apply Ji | apply Jh | apply Ki | apply (fun h => Ke (x := (⟨_, _⟩ : Gm)) h rfl) | apply (fun h => Jj (x := (⟨_, _⟩ : Gm)) rfl h)
   first | rfl | omega | simp | (simp; omega)
  simp [go_sem]
  refine B3 (fun K kk => by simp [go_sem, hc8, H1, hw2, hR, H3, hw4, hS]; exact kk) ?_
  refine B2 ok0 2 ?_
  refine Bz (Ex ?_); simp [go_sem, hc8, H1, hw2, hR, H3, hw4, hS]
  exact ⟨(S, 0), by first | rfl | simp [go_sem], (by first | omega | (simp; done) | (simp; omega))⟩
 have hn : l[Y1.toNat]? = none := Ar (by omega)
 refine C8 (cj2 hc8 hn) ?_
 refine C5 ?_ ?_ <;> intro h48 <;> simp [go_sem] at h48
 refine Bp <| .seq ?_
 obtain ⟨Y5, cY5, qY5⟩ := got (Sz l v.cls hl)
 obtain ⟨Y6, cY6, qY6⟩ := got (Sy a v.cls)
 refine Cz (fun K kk => by simp [go_sem, hc8, hn]; refine .l cY5 ?_; simp [go_sem, hc8, hn]; refine .l cY6 ?_; simp [go_sem, hc8, hn]; exact kk) ?_
 refine Br ?_ ?_ <;> intro h57
 ·refine Bu (cj2 hc8 hn) ?_
  exact .ret (fin (cj2 hc8 hn) ([], 14) (by first | omega | (simp; done) | (simp; omega)))
 refine Bp <| .seq <| .H (cj2 hc8 hn) ?_
 refine Br ?_ ?_ <;> intro h60
 ·refine Bu (cj2 hc8 hn) ?_
  exact .ret (fin (cj2 hc8 hn) ([], 10) (by first | omega | (simp; done) | (simp; omega)))
 refine Bp ?_
 have hw5 := Dt (l.length + 1 : Int)
 refine Bu (cj3 hc8 hn hw5) ?_
 refine Bu (cj3 hc8 hn hw5) ?_
 refine Dj 2 rfl (by simp) Gm.t (l.length + 1) ?_ fun R hR => ?_
 ·apply Jk
  ·repeat' first | exact Kh | exact Kg | exact Kf (x := (⟨0, 0⟩ : Gm)) rfl | apply Jg | apply Ji | apply Jh | apply Ki | apply (fun h => Ke (x := (⟨_, _⟩ : Gm)) h rfl) | apply (fun h => Jj (x := (⟨_, _⟩ : Gm)) rfl h)
  first | rfl | omega | simp | (simp; omega)
 simp [go_sem]
 have H6 : R[Y1.toNat]? = some R[Y1.toNat] := Aa (by omega)
 generalize R[Y1.toNat] = e6 at H6
 refine Bu (cj5 hc8 hn hw5 hR H6) ?_
 have hw7 := Dt (Y1 + 1 : Int)
 refine C8 (cj6 hc8 hn hw5 hR H6 hw7) ?_
 refine Dj 2 rfl (by simp) Gm.t (l.length + 1) ?_ fun S hS => ?_
 ·apply Jk
  ·repeat' first | exact Kh | exact Kg | exact Kf (x := (⟨0, 0⟩ : Gm)) rfl | apply Jg | apply Ji | apply Jh | apply Ki | apply (fun h => Ke (x := (⟨_, _⟩ : Gm)) h rfl) | apply (fun h => Jj (x := (⟨_, _⟩ : Gm)) rfl h)
  first | rfl | omega | simp | (simp; omega)
 simp [go_sem]
 refine B3 (fun K kk => by simp [go_sem, hc8, hn, hw5, hR, H6, hw7, hS]; exact kk) ?_
 refine B2 ok0 2 ?_
 refine Bz (Ex ?_); simp [go_sem, hc8, hn, hw5, hR, H6, hw7, hS]
 exact ⟨(S, 0), by first | rfl | simp [go_sem], (by first | omega | (simp; done) | (simp; omega))⟩
structure J7 where
  ag : Int
  num : Int
  se : Int
def J7.t (x : J7) : List T := [.li x.ag, .li x.num, .li x.se]
def J7.a (fr : Bool) (x : J7) : List AV := [.li x.ag, .li x.num, .li x.se]
abbrev J7.g (x : J7) : AV := .agg (x.a false)
attribute [go_sem] J7.g
structure Ie where
  tok : Int
  fix : Int
  grp : Int
  lea : Int
  mos : Int
  dat : Int
def Ie.t (x : Ie) : List T := [.li x.tok, .li x.fix, .li x.grp, .li x.lea, .li x.mos, .li x.dat]
def Ie.a (fr : Bool) (x : Ie) : List AV := [.li x.tok, .li x.fix, .li x.grp, .li x.lea, .li x.mos, .li x.dat]
abbrev Ie.g (x : Ie) : AV := .agg (x.a false)
attribute [go_sem] Ie.g
structure Ml where
  fix : Int
  grp : Int
  lea : Int
  mos : Int
  dat : Int
def Ml.t (x : Ml) : List T := [.li x.fix, .li x.grp, .li x.lea, .li x.mos, .li x.dat]
def Ml.a (fr : Bool) (x : Ml) : List AV := [.li x.fix, .li x.grp, .li x.lea, .li x.mos, .li x.dat]
abbrev Ml.g (x : Ml) : AV := .agg (x.a false)
attribute [go_sem] Ml.g
abbrev Qg (l : List (List Dz)) : List (List T) := l.map fun x => [.sl 4 (Q7 x)]
abbrev Ud (l : List (List (List Dz))) : List (List T) := l.map fun x => [.sl 1 (Qg x)]
abbrev Acg (l : List (Int × Int)) : List (List T) := l.map fun x => [.li x.1, .li x.2]
structure U0 where
  ses : List (List Dz)
  feed : List Dz
def U0.t (x : U0) : List T := [.sl 1 (Qg x.ses), .sl 4 (Q7 x.feed)]
def U0.a (fr : Bool) (x : U0) : List AV := [.imm fr 1 (Qg x.ses), .imm fr 4 (Q7 x.feed)]
abbrev U0.g (x : U0) : AV := .agg (x.a false)
attribute [go_sem] U0.g
attribute [go_sem] J7.t J7.a Ie.t Ie.a Ml.t Ml.a U0.t U0.a
theorem Ma (a : TAg) (h1 : a.sec.length <= 1000000) (h2 : a.lims.length <= 1000000) : PP 110 [] [a.g] [] (a.g) := by
 refine Eb Tryz.func110 ?_
 refine Bw ?_
 refine Ce (fun K kk => by simp [go_sem]; refine .lo (Ei.froz (Ee _ (by simpa using h1) (by simp [T.plain]))) rfl (by simp) ?_; simp [go_sem]; exact kk) ?_
 refine Ce (fun K kk => by simp [go_sem]; refine .lo (Ei.froz (Gy _ (by simpa using h2) (by simp [T.plain]))) rfl (by simp) ?_; simp [go_sem]; exact kk) ?_
 refine Bw ?_
 exact .ret (rL ok0)
theorem S6 (r : Em) (h : r.legs.length <= 1000000) : PP 186 [] [r.g] [] (r.g) := by
 refine Eb Tryz.func186 ?_
 refine Bw ?_
 refine Ce (fun K kk => by simp [go_sem]; refine .lo (Ei.froz (Lq _ (by simpa using h) (by simp [T.plain, Gf.t]))) rfl (by simp) ?_; simp [go_sem]; exact kk) ?_
 refine Bw ?_
 exact .ret (rL ok0)
theorem Rt (s : Hk) (h1 : s.ctl.lights.length <= 1000000) (h2 : s.ctl.nxt.length <= 1000000) : PP 126 [] [s.g] [] (s.g) := by
 refine Eb Tryz.func126 ?_
 refine Bw ?_
 refine Ce (fun K kk => by simp [go_sem]; refine .lo (Ei.froz (Q6 _ (by simpa using h1) (by simp [T.plain, Fd.t]))) rfl (by simp) ?_; simp [go_sem]; exact kk) ?_
 refine Ce (fun K kk => by simp [go_sem]; refine .lo (Ei.froz (Gy _ (by simpa using h2) (by simp [T.plain]))) rfl (by simp) ?_; simp [go_sem]; exact kk) ?_
 refine Bw ?_
 exact .ret (rL ok0)
theorem Lp (c : Fa) (a : Int) (h : c.ags.length <= 1000000) : Ct 33 [c.g, .li a] (fun d : Int => .li d) (fun d => True) := by
 refine Ek Tryz.func33 ?_
 refine Bq ?_
 refine Bq <| .seq ?_
 refine Bq <| .block ?_
 refine Bs c.ags.length (fun i1 (y1 : Int) => ⟨[(1, .li a), (5, .li y1), (9, .mAg c.ags), (10, .li c.ags.length), (11, .li i1)], []⟩) (fun i1 y1 => True) (0) (wk ok0 []) (trivial) fun i1 y1 hi1 hy1 => ?_
 refine Bq <| .seq ?_
 refine Br ?_ ?_ <;> intro h12
 ·refine Bp <| .seq <| .block ?_
  have H1 : c.ags[i1]? = some c.ags[i1] := Aa (by omega)
  generalize c.ags[i1] = e1 at H1
  refine Bu H1 ?_
  refine Bu H1 ?_
  refine Br ?_ ?_ <;> intro h18
  ·refine B0 H1 ?_
   refine B0 H1 ?_
   exact ⟨by omega, (IntKind.i64.wrap (y1 + e1.se)), trivial, wk (cj2 (Dt ((i1 : Int) + 1)) H1) []⟩
  refine Bp <| .H1 H1 ?_
  exact ⟨by omega, (y1), trivial, wk (cj2 (Dt ((i1 : Int) + 1)) H1) []⟩
 refine Bt <| .R ?_
 exact .ret (fin ok0 y1 trivial)
noncomputable def Ls (c : Fa) (a : Int) (h : c.ags.length <= 1000000) : Int := (got (Lp c a h)).choose
theorem Ro (c : Fa) (a : Int) (h : c.ags.length <= 1000000) : PP 33 [] [c.g, .li a] [] (.li (Ls c a h)) := (got (Lp c a h)).choose_spec.1
theorem Qv (c : Fa) (s : Int) (h : c.ags.length <= 1000000) : Ct 36 [c.g, .li s] (fun d : Int => .li d) (fun d => True) := by
 refine Ek Tryz.func36 ?_
 refine Bq <| .seq ?_
 refine Bq <| .block ?_
 refine Bs c.ags.length (fun i1 (y1 : Int) => ⟨[(1, .li y1), (8, .mAg c.ags), (9, .li c.ags.length), (10, .li i1)], []⟩) (fun i1 y1 => True) (s) (wk ok0 []) (trivial) fun i1 y1 hi1 hy1 => ?_
 refine Bq <| .seq ?_
 refine Br ?_ ?_ <;> intro h11
 ·refine Bp <| .seq <| .block ?_
  have H1 : c.ags[i1]? = some c.ags[i1] := Aa (by omega)
  generalize c.ags[i1] = e1 at H1
  refine Bu H1 <| .seq ?_
  refine Bu H1 ?_
  refine Br ?_ ?_ <;> intro h18
  ·refine Bu H1 ?_
   exact .ret (fin H1 i1 trivial)
  refine Bp <| .H1 H1 ?_
  refine B0 H1 ?_
  exact ⟨by omega, (IntKind.i64.wrap (y1 - e1.se)), trivial, wk (cj2 (Dt ((i1 : Int) + 1)) H1) []⟩
 refine Bt <| .R ?_
 exact .ret (fin ok0 0 trivial)
theorem Qs (a : Int) (s : Int) (b : List Int) (h : b.length <= 1000) : Ct 257 [.li a, .li s, .mY b] (fun d : List Int => .mY d) (fun d => d.length = b.length + 2) := by
 refine Ek Tryz.func257 ?_
 have e2 : 2 + b.length = b.length + 1 + 1 := by omega
 refine Bq ?_
 have hw1 := Dt (2 + b.length : Int)
 refine Bu hw1 ?_
 refine Bu hw1 ?_
 refine Bu hw1 ?_
 refine B2 ok0 0 ?_
 refine Bz (Ex ?_); simp [go_sem, hw1, e2]
 exact ⟨(List.replicate 0 0) ++ ([IntKind.u8.wrap a, IntKind.u8.wrap s]) ++ b, by first | rfl | simp [go_sem], (by simp)⟩
noncomputable def Q9 (a : Int) (s : Int) (b : List Int) (h : b.length <= 1000) : List Int := (got (Qs a s b h)).choose
theorem Aeg (a : Int) (s : Int) (b : List Int) (h : b.length <= 1000) : PP 257 [] [.li a, .li s, .mY b] [] (.mY (Q9 a s b h)) := (got (Qs a s b h)).choose_spec.1
theorem Aet (a : Int) (s : Int) (b : List Int) (h : b.length <= 1000) : (Q9 a s b h).length = b.length + 2 := (got (Qs a s b h)).choose_spec.2
theorem Aan (l : List Fi) (s : Int) : PP 232 [] [.mTok l, .li s] [] (.lb (Gg l s)) := by
 refine Eb Tryz.func232 ?_
 refine Bw ?_
 rcases (by omega : s < 0 \/ (0 <= s /\ (l.length : Int) <= s) \/ (0 <= s /\ s < l.length)) with hs | hs | hs
 ·replace hs : ¬ 0 <= s := by omega
  refine Ce (fun K kk => by simp [go_sem, hs]; repeat first | exact kk | refine aK ?_) ?_
  refine B6 ?_
  first | (simp [go_sem, Gg, hs, hx]; done) | (simp [go_sem, Gg, hs]; done) | (simp [go_sem, Gg, hs, Ar (show l.length <= s.toNat by omega)]; done)
 ·refine Ce (fun K kk => by simp [go_sem, hs]; repeat first | exact kk | refine aK ?_) ?_
  refine B6 ?_
  first | (simp [go_sem, Gg, hs, hx]; done) | (simp [go_sem, Gg, hs]; done) | (simp [go_sem, Gg, hs, Ar (show l.length <= s.toNat by omega)]; done)
 have hx : l[s.toNat]? = some l[s.toNat] := Aa (by omega)
 generalize l[s.toNat] = t at hx
 refine Ce (fun K kk => by simp [go_sem, hs]; repeat first | exact kk | refine aK ?_) ?_
 refine B6 ?_
 first | (simp [go_sem, Gg, hs, hx]; done) | (simp [go_sem, Gg, hs]; done) | (simp [go_sem, Gg, hs, Ar (show l.length <= s.toNat by omega)]; done)
theorem Ks (j : Fr) (h : j.phs.length <= 1000000) : ∃ d : Ft, PP 54 [] [j.g] [.row 3 1 false false (tI d.col), .row 3 1 false false (tI d.cnt)] (.agg [.lb d.fl, .lb d.ov, .own 0 d.col.length, .own 1 d.cnt.length]) /\ (d.col.length = j.phs.length /\ d.cnt.length = j.phs.length) := by
 refine Mi (D := Ft) (F := fun d => .agg [.lb d.fl, .lb d.ov, .own 0 d.col.length, .own 1 d.cnt.length]) (S := fun d => [.row 3 1 false false (tI d.col), .row 3 1 false false (tI d.cnt)]) (Q := fun d => d.col.length = j.phs.length /\ d.cnt.length = j.phs.length) Tryz.func54 rfl rfl rfl (by simp [Tryz.ntmps54]) ?_
 refine Bq ?_
 refine C8 ok0 ?_
 exact .ret ⟨⟨true, false, List.replicate j.phs.length 0, List.replicate j.phs.length 0⟩, rW ok0 [2, 3], (by simp)⟩
noncomputable def Ep (j : Fr) (h : j.phs.length <= 1000000) : Ft := (Ks j h).choose
theorem Vm (j : Fr) (h : j.phs.length <= 1000000) : PP 54 [] [j.g] [.row 3 1 false false (tI (Ep j h).col), .row 3 1 false false (tI (Ep j h).cnt)] (.agg [.lit (.bool (Ep j h).fl), .lit (.bool (Ep j h).ov), .own 0 ((Ep j h).col).length, .own 1 ((Ep j h).cnt).length]) := (Ks j h).choose_spec.1
theorem Xu (j : Fr) (h : j.phs.length <= 1000000) : (Ep j h).col.length = j.phs.length /\ (Ep j h).cnt.length = j.phs.length := (Ks j h).choose_spec.2
theorem Oe (s : Fj) (b : Bool) (h : s.ended.length <= 1000000) : Ct 154 [s.g, .lb b] (fun d : Fj => d.g) (fun d => d.ended = s.ended) := by
 refine Ek Tryz.func154 ?_
 refine Bq ?_
 refine B8 ok0 (Ka s (by first | assumption | omega)) <| .seq ?_
 refine Bq ?_
 refine Br ?_ ?_ <;> intro h12
 ·refine Ci ?_
  refine Bq ?_
  exact .ret (fin ok0 ⟨s.ph, IntKind.i64.wrap ((if 59 < s.gr then 59 else s.gr) + 1), s.ended⟩ rfl)
 refine Bp <| .R ?_
 exact .ret (fin ok0 s rfl)
noncomputable def Li (s : Fj) (b : Bool) (h : s.ended.length <= 1000000) : Fj := (got (Oe s b h)).choose
theorem Tb (s : Fj) (b : Bool) (h : s.ended.length <= 1000000) : PP 154 [] [s.g, .lb b] [] (.agg ((Li s b h).a false)) := (got (Oe s b h)).choose_spec.1
theorem Te (s : Fj) (b : Bool) (h : s.ended.length <= 1000000) : (Li s b h).ended = s.ended := (got (Oe s b h)).choose_spec.2
theorem Ak0 (c : Mm) (h : c.lights.length <= 1000000) : Ct 221 [c.g] (fun d : Int => .li d) (fun d => True) := by
 refine Ek Tryz.func221 ?_
 refine Bq ?_
 refine Bq <| .seq ?_
 refine Bq <| .block ?_
 refine Bs c.lights.length (fun i1 (y1 : Int) => ⟨[(3, .li y1), (7, .mLight c.lights), (8, .li c.lights.length), (9, .li i1)], []⟩) (fun i1 y1 => True) (0) (wk ok0 []) (trivial) fun i1 y1 hi1 hy1 => ?_
 refine Bq <| .seq ?_
 refine Br ?_ ?_ <;> intro h10
 ·refine Bp <| .seq <| .block ?_
  have H1 : c.lights[i1]? = some c.lights[i1] := Aa (by omega)
  generalize c.lights[i1] = e1 at H1
  refine Bu H1 ?_
  refine Bu H1 ?_
  refine Br ?_ ?_ <;> intro h16
  ·refine B0 H1 ?_
   refine B0 H1 ?_
   exact ⟨by omega, (Eu .or .i64 y1 (IntKind.i64.wrap (1 * 2 ^ min (Int.toNat i1) 64))), trivial, wk (cj2 (Dt ((i1 : Int) + 1)) H1) []⟩
  refine Bp <| .H1 H1 ?_
  exact ⟨by omega, (y1), trivial, wk (cj2 (Dt ((i1 : Int) + 1)) H1) []⟩
 refine Bt <| .R ?_
 exact .ret (fin ok0 y1 trivial)
theorem Wd (s : Ie) (n : Int) : Ct 159 [s.g, .li n] (fun d : Int × Bool => .tup [.li d.1, .lb d.2]) (fun d => True) := by
 refine Ek Tryz.func159 ?_
 refine Bq <| .seq ?_
 refine Bq ?_
 refine Br ?_ ?_ <;> intro h10
 ·refine VX.D ?_
  exact .ret (fin ok0 (0, ((n : Int) == s.fix)) trivial)
 refine Bp <| .R <| .seq ?_
 refine Bu ok0 ?_
 refine Br ?_ ?_ <;> intro h27
 ·refine Bq ?_
  exact .ret (fin ok0 (0, false) trivial)
 refine Bp <| .H ok0 ?_
 refine VX.D ?_
 refine Bz (Ex ?_); simp [go_sem]
 exact ⟨(_, _), by first | rfl | simp [go_sem], trivial⟩
mutual
def AV.sel1 (id : Nat) (ts : List T) : AV -> AV
 | .ptr i off => bif i == id then .iptr false ts off else .ptr i off
 | .agg cs => .agg (Pt id ts cs)
 | .tup cs => .tup (Pt id ts cs)
 | .fn f cs => .fn f (Pt id ts cs)
 | .gd t v => .gd t (v.sel1 id ts)
 | .any => .any
 | .lit v => .lit v
 | .nil k => .nil k
 | .imm fr k es => .imm fr k es
 | .own i n => .own i n
 | .sub i n lo m => .sub i n lo m
 | .rptr i n j off => .rptr i n j off
 | .bsl i n => bif i == id then .any else .bsl i n
 | .iptr fr cs off => .iptr fr cs off
def Pt (id : Nat) (ts : List T) : List AV -> List AV
 | [] => []
 | c :: cs => c.sel1 id ts :: Pt id ts cs
end
section
variable {id : Nat} {ts : List T}
theorem Yy : ∀ (cs : List AV) (i : Nat), (Pt id ts cs)[i]? = (cs[i]?).map (AV.sel1 id ts)
 | [], i => by simp [Pt]
 | c :: cs, 0 => by simp [Pt]
 | c :: cs, i + 1 => by simp [Pt, Yy cs i]
theorem Md : ∀ (cs : List AV), (Pt id ts cs).length = cs.length
 | [] => rfl
 | c :: cs => by simp [Pt, Md cs]
end
def Ob.sel1 (id : Nat) (ts : List T) : Ob -> Ob
 | .box ty cs => .box ty (Pt id ts cs)
 | x => x
def Afj (id : Nat) (ts : List T) : List (Nat × AV) -> List (Nat × AV)
 | [] => []
 | p :: l => (p.1, p.2.sel1 id ts) :: Afj id ts l
theorem Ac8 (id : Nat) (ts : List T) : ∀ (l : List (Nat × AV)) (t : Nat), El (Afj id ts l) t = (El l t).sel1 id ts
 | [], t => rfl
 | p :: l, t => by
  simp only [Afj, El]
  cases p.1 == t
  ·exact Ac8 id ts l t
  rfl
def Z0 (id : Nat) (ts : List T) : List Ob -> List Ob
 | [] => []
 | x :: l => x.sel1 id ts :: Z0 id ts l
theorem Afk (id : Nat) (ts : List T) : ∀ (l : List Ob) (i : Nat), (Z0 id ts l).getD i .gone = (l.getD i .gone).sel1 id ts
 | [], i => by simp [Z0, Ob.sel1]
 | x :: l, 0 => by simp [Z0]
 | x :: l, i + 1 => by have := Afk id ts l i; simp [Z0] at this ⊢; exact this
def St.sel1 (st : St) (id : Nat) (ts : List T) : St := ⟨Afj id ts st.sl, Nw (Z0 id ts st.ob) id .gone⟩
theorem Uj (st : St) (id : Nat) (ts : List T) (i : Nat) : (st.sel1 id ts).o i = if i = id then .gone else (st.o i).sel1 id ts := by
 show (Nw (Z0 id ts st.ob) id .gone).getD i .gone = _
 rw [Uh, Afk]
 rfl
theorem Rel.sel1 {E : Ent} {β : Nat -> Option Nat} {st : St} {a : Act} {w : World} (r : Rel E β st a w) {id : Nat} {ty : TypeId} {cs : List AV} {ts : List T} (ho : st.o id = .box ty cs) (ht : ttL cs = some ts) (hE : E.o0 id = .gone) : Rel E β (st.sel1 id ts) a w := by
 have hlv : ∀ b, (E.C β (st.sel1 id ts) w).lives b -> (E.C β st w).lives b := by
  rintro b ⟨i, h1, h2⟩
  have h2 : ((st.sel1 id ts).o i).live := h2
  rw [Uj] at h2
  by_cases e : i = id
  ·rw [if_pos e] at h2; exact h2.elim
  rw [if_neg e] at h2
  refine ⟨i, h1, ?_⟩
  show (st.o i).live
  cases hq : st.o i <;> rw [hq] at h2 <;> exact h2
 have hS : ∀ fr b, (E.C β st w).S fr b -> (E.C β (st.sel1 id ts) w).S fr b := fun fr b ⟨h1, h2, h3⟩ => ⟨h1, fun h => h2 (hlv b h), h3⟩
 have hT : ∀ fr t u, F3 w.heap ((E.C β st w).S fr) t u -> F3 w.heap ((E.C β (st.sel1 id ts) w).S fr) t u := fun fr t u h => h.keep (fun _ _ => rfl) (hS fr)
 obtain ⟨b, cur, q1, q2, q3, q4⟩ : Jo (E.C β st w) id (.box ty cs) := by have := r.ob id; rwa [ho] at this
 have q1 : β id = some b := q1
 have hSb : (E.C β (st.sel1 id ts) w).S false b := by
  obtain ⟨g1, g2⟩ := r.rng id b (by rw [ho]; simp) q1
  refine ⟨g1, ?_, g2.elim .inl fun h => .inr (.inl h)⟩
  rintro ⟨i, h1, h2⟩
  have h1 : β i = some b := h1
  have h2 : ((st.sel1 id ts).o i).live := h2
  rw [Uj] at h2
  by_cases e : i = id
  ·rw [if_pos e] at h2; exact h2
  rw [if_neg e] at h2
  refine e (r.inj i id b (fun hg => ?_) (by rw [ho]; simp) h1 q1)
  rw [hg] at h2
  exact h2
 have hrow : ∀ i ty' k fr fz es, st.o i = .row ty' k fr fz es -> (st.sel1 id ts).o i = .row ty' k fr fz es := fun i ty' k fr fz es h => by
  rw [Uj, if_neg (fun e => by subst e; rw [ho] at h; cases h), h]
  rfl
 have hV : ∀ (c : AV) (u : Value), Dv (E.C β st w) c u -> Dv (E.C β (st.sel1 id ts) w) (c.sel1 id ts) u := by
  intro c u h
  have hL : ∀ (cs : List AV) (us : Array Value), (∀ (i : Nat) (c : AV) (u : Value), cs[i]? = some c -> us[i]? = some u -> Dv (E.C β (st.sel1 id ts) w) (c.sel1 id ts) u) -> ∀ (i : Nat) (c : AV) (u : Value), (Pt id ts cs)[i]? = some c -> us[i]? = some u -> Dv (E.C β (st.sel1 id ts) w) c u := fun cs us ih i c u hc hu => by
   rw [Yy] at hc
   cases hx : cs[i]? with
   | none => rw [hx] at hc; cases hc
   | some x =>
    rw [hx] at hc
    simp only [Ai, Option.some.injEq] at hc
    subst hc
    exact ih i x u hx hu
  induction h with
  | any u => exact .any u
  | lit v => exact .lit v
  | nil k A => exact .nil k A
  | imm fr k es u h => exact .imm _ _ _ _ (hT fr _ _ h)
  | own i n u h =>
   obtain ⟨h1, ty', k, fr, fz, es, h2, h3⟩ := h
   exact .own i n u ⟨h1, ty', k, fr, fz, es, hrow _ _ _ _ _ _ h2, h3⟩
  | sub i n lo m u h =>
   obtain ⟨h1, ty', k, fr, fz, es, h2, h3⟩ := h
   exact .sub i n lo m u ⟨h1, ty', k, fr, fz, es, hrow _ _ _ _ _ _ h2, h3⟩
  | rptr i n j off u h =>
   obtain ⟨h1, ty', k, fr, fz, es, h2, h3⟩ := h
   exact .rptr i n j off u ⟨h1, ty', k, fr, fz, es, hrow _ _ _ _ _ _ h2, h3⟩
  | ptr i off u h =>
   obtain ⟨ty', cs', b', h1, h2, rfl⟩ := h
   have h1 : st.o i = _ := h1
   have h2 : β i = some b' := h2
   by_cases e : i = id
   ·subst e
    rw [q1] at h2
    injection h2 with h2
    subst h2
    have hcell : ∀ (j : Nat) (x : T), ts[j]? = some x -> cur[0 + j]? = some ((cur[j]?).getD undef) /\ F3 w.heap ((E.C β (st.sel1 i ts) w).S false) x ((cur[j]?).getD undef) := fun j x hx => by
     obtain ⟨c, g1, g2⟩ := Abh ht j x hx
     have hj : j < cur.size := Nat.lt_of_lt_of_le (Ab.1 g1).1 q3
     have g3 : cur[j]? = some cur[j] := Al hj
     obtain ⟨g4, g5⟩ := q4 j c _ g1 g3
     rw [Bm, g3]
     refine ⟨rfl, ?_⟩
     simp only [Bh]
     generalize cur[j] = u at g4 g5
     cases g4 with
     | lit v => simp only [Wo, Option.some.injEq] at g2; subst g2; exact .lit _ g5
     | nil k A => simp only [Wo, Option.some.injEq] at g2; subst g2; exact .nil _ _ _
     | imm fr k es u h => simp only [Wo, Option.some.injEq] at g2; subst g2; exact VC.T_weak (C := E.C β (st.sel1 i ts) w) (g := false) (hT fr _ _ h) fun e => by cases e
     | fn f cs us k1 k2 =>
      obtain ⟨fr, ts', off', rfl, rfl⟩ := Ag0 g2
      exact VC.T_weak (C := E.C β (st.sel1 i ts) w) (g := false) (hT fr _ _ (Dv.fn1 (.fn f _ us k1 k2))) fun e => by cases e
     | _ => cases g2
    have := Dv.iptr (C := E.C β (st.sel1 i ts) w) false ts off b 0 cur ty (0, 0) (fun j => (cur[j]?).getD undef) q2 hSb hcell
    rw [Bm] at this
    simp only [AV.sel1, beq_self_eq_true, cond_true]
    exact this
   have e' : (i == id) = false := by simpa using e
   simp only [AV.sel1, e', cond_false]
   exact .ptr i off _ ⟨ty', Pt id ts cs', b', by show (st.sel1 id ts).o i = _; rw [Uj, if_neg e, h1]; rfl, h2, rfl⟩
  | bsl i n u h =>
   obtain ⟨ty', cs', b', c', h1, h2, h3⟩ := h
   have h1 : st.o i = _ := h1
   by_cases e : i = id
   ·subst e
    simp only [AV.sel1, beq_self_eq_true, cond_true]
    exact .any _
   have e' : (i == id) = false := by simpa using e
   simp only [AV.sel1, e', cond_false]
   exact .bsl i n _ ⟨ty', Pt id ts cs', b', c', by show (st.sel1 id ts).o i = _; rw [Uj, if_neg e, h1]; rfl, h2, h3⟩
  | iptr fr cs off b o cur ty fz us h1 h2 h3 => exact .iptr fr cs off b o cur ty fz us h1 (hS fr b h2) fun j x hx => ⟨(h3 j x hx).1, hT fr _ _ (h3 j x hx).2⟩
  | agg cs us h1 h2 ih => exact .agg _ _ (by rw [Md]; exact h1) (hL cs us ih)
  | tup cs us h1 h2 ih => exact .tup _ _ (by rw [Md]; exact h1) (hL cs us ih)
  | fn f cs us h1 h2 ih => exact .fn f _ _ (by rw [Md]; exact h1) (hL cs us ih)
  | gd t v u h1 h2 ih => exact .gd t _ u (fun e => ih e) h2
 have hng : ∀ i, (st.sel1 id ts).o i ≠ .gone -> st.o i ≠ .gone := fun i h e => h (by rw [Uj, e]; split <;> rfl)
 refine ⟨r.sz, fun t => ?_, r.df, fun i => ?_, fun i j b hi hj => r.inj i j b (hng i hi) (hng j hj), fun i b hi => r.rng i b (hng i hi), r.kp, ⟨fun i ty' cs' h => ?_, fun i ty' k fr fz es h => ?_⟩, r.kb, r.dk⟩
 ·show Dv _ (El (Afj id ts st.sl) t) _
  rw [Ac8]
  exact hV _ _ (r.sl t)
 ·rw [Uj]
  by_cases e : i = id
  ·rw [if_pos e]; trivial
  rw [if_neg e]
  have := r.ob i
  cases hq : st.o i with
  | gone => trivial
  | row ty' k fr fz es =>
   rw [hq] at this
   obtain ⟨h1, h2⟩ := this
   refine ⟨h1, ?_⟩
   cases hb : (E.C β (st.sel1 id ts) w).β i with
   | none =>
    have hb : β i = none := hb
    have h2 : (match β i with | none => es = [] | some b => _) := h2
    rw [hb] at h2; exact h2
   | some b =>
    have hb : β i = some b := hb
    have h2 : (match β i with | none => es = [] | some b => _) := h2
    rw [hb] at h2
    obtain ⟨cur, c, g1, g2, g3, g4, g5⟩ := h2
    exact ⟨cur, c, g1, g2, g3, g4, fun i e j x he hx => let ⟨u, p1, p2⟩ := g5 i e j x he hx; ⟨u, p1, hT _ _ _ p2⟩⟩
  | box ty' cs' =>
   rw [hq] at this
   obtain ⟨b, cur, g1, g2, g3, g4⟩ := this
   refine ⟨b, cur, g1, g2, by rw [Md]; exact g3, fun j c u hc hu => ?_⟩
   rw [Yy] at hc
   cases hx : cs'[j]? with
   | none => rw [hx] at hc; cases hc
   | some x =>
    rw [hx] at hc
    simp only [Ai, Option.some.injEq] at hc
    subst hc
    exact ⟨hV _ _ (g4 j x u hx hu).1, (g4 j x u hx hu).2⟩
 ·obtain ⟨⟨cs2, h1⟩, h2⟩ := r.ct.box i ty' cs' h
  have e : i ≠ id := fun e => by subst e; rw [hE] at h; cases h
  have h1 : st.o i = _ := h1
  exact ⟨⟨_, by show (st.sel1 id ts).o i = _; rw [Uj, if_neg e, h1]; rfl⟩, h2⟩
 obtain ⟨fr', fz', es', h1, h2⟩ := r.ct.row i ty' k fr fz es h
 exact ⟨fr', fz', es', hrow _ _ _ _ _ _ h1, h2⟩
section
variable {P : Program} {n m : Nat} {st : St} {K : Exit -> St -> Prop} {c : Code}
theorem VW.sel1 (id : Nat) {ty : TypeId} {cs : List AV} (ho : st.o id = .box ty cs) {ts : List T} (ht : ttL cs = some ts) (hm : m <= id) (hv : VW P n m c (st.sel1 id ts) K) : VW P n m c st K := fun E F hE hF β a w r =>
 hv E F hE hF β a w (r.sel1 ho ht (hE.2 id hm))
theorem VX.sel1 (id : Nat) {ty : TypeId} {cs : List AV} (ho : st.o id = .box ty cs) {ts : List T} (ht : ttL cs = some ts) (hm : m <= id) (hv : VX P n m c (st.sel1 id ts) K) : VX P n m c st K := by
 obtain ⟨e, s, h1, h2⟩ := hv
 exact ⟨e, s, .sel1 id ho ht hm h1, h2⟩
end
attribute [go_sem] St.sel1 Afj Z0 Pt AV.sel1 Ob.sel1
theorem Uf (x : T) : Ya [.iptr false [x] 0] := by
 constructor <;> intros <;> first | rfl | exact ⟨trivial, trivial⟩
theorem Rx : Ya [] := by
 constructor <;> intros <;> first | rfl | exact trivial
end Go.Proofs.YtkkimgjinbaemaaGreat
