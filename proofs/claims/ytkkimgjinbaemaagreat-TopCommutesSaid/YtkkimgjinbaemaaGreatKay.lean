/- The walk. -/
import Derived.Test.YtkkimgjinbaemaaGreatKax
namespace Go.Proofs.YtkkimgjinbaemaaGreat
open Go.RowKit
set_option linter.unusedVariables false
set_option linter.unusedSimpArgs false
set_option maxRecDepth 100000
set_option maxHeartbeats 4000000
def Gg (k : Int) (n : Int) : List Int := [90, 165, 1, IntKind.u8.wrap k, IntKind.u8.wrap (n.fdiv (2 ^ min 8 64)), IntKind.u8.wrap n]
def Ll (s : Int) : List Int := [IntKind.u8.wrap (s.fdiv (2 ^ min 24 32)), IntKind.u8.wrap (s.fdiv (2 ^ min 16 32)), IntKind.u8.wrap (s.fdiv (2 ^ min 8 32)), IntKind.u8.wrap (s.fdiv (2 ^ min 0 32))]
def Y9 (k : Int) (p : List Int) : List Int := Gg k p.length ++ p ++ Ll (Aat ((Gg k p.length).drop 2 ++ p))
def Q8 (k : Int) (p : List Int) : List Int × Int := if k < 0 \/ 255 < k then ([], 8) else if 200 < p.length then ([], 7) else (Y9 k p, 0)
theorem Asp {α : Type} (z : α) (n : Nat) : List.replicate (n + 10) z = z :: z :: z :: z :: z :: z :: List.replicate (n + 4) z := rfl
theorem Z2 {α : Type} (a : List α) : ∀ (b c : List α), c.length <= b.length -> Hm (a ++ b) a.length c = a ++ c ++ b.drop c.length
 | b, [], _ => by simp [Hm]
 | [], c :: cs, h => by simp at h
 | b :: bs, c :: cs, h => by
  have ih := Z2 (a ++ [c]) bs cs (by simpa using h)
  have e : (a ++ b :: bs).set a.length c = (a ++ [c]) ++ bs := by
   rw [List.set_append_right _ _ (Aj _)]; simp
  rw [Hm, e, show a.length + 1 = (a ++ [c]).length by simp, ih]
  simp
theorem Asn {α β : Type} {g : β -> α} (p : List β) (a b c d e f z : α) {m : Nat} (hm : p.length <= m) : Hm (a :: b :: c :: d :: e :: f :: List.replicate (p.length + 4) z) 6 (List.take m (List.map g p)) = a :: b :: c :: d :: e :: f :: (List.map g p ++ [z, z, z, z]) := by
 rw [Bf (by simpa using hm)]
 have := Z2 [a, b, c, d, e, f] (List.replicate (p.length + 4) z) (List.map g p) (by simp)
 simp only [A6, List.length_nil, List.cons_append, List.nil_append] at this
 rw [this, A2, List.drop_replicate, show p.length + 4 - p.length = 4 by omega]
 rfl
theorem Ao8 {A : List Int} {s : Int} {i : Nat} (hi : i < 4) : (A ++ ((Ll s).take i ++ List.replicate (4 - i) 0)).set (A.length + i) ((Ll s).getD i 0) = A ++ ((Ll s).take (i + 1) ++ List.replicate (4 - (i + 1)) 0) := by
 rw [List.set_append_right _ _ (by omega)]
 congr 1
 rw [show A.length + i - A.length = i by omega]
 rcases (by omega : i = 0 \/ i = 1 \/ i = 2 \/ i = 3) with rfl | rfl | rfl | rfl <;> simp [Ll, List.replicate]
theorem Aqm (l : List Int) (i : Nat) (x : Int) : (tY l).set i [.lit (.int .u8 x)] = tY (l.set i x) := by simp [tY, List.map_set]
theorem Aqn {R : List Int} {n : Nat} (h : n < R.length) (v : T) : (tY R).set n (((tY R)[n]?.getD []).set 0 v) = (tY R).set n [v] := by
 simp [tY, Aa h]
theorem Ai3 {s : Int} {i : Nat} (hi : i < 4) : (Ll s).getD i 0 = IntKind.u8.wrap (s.fdiv (2 ^ min (8 * (3 - (i : Int))).toNat 32)) := by
 rcases (by omega : i = 0 \/ i = 1 \/ i = 2 \/ i = 3) with rfl | rfl | rfl | rfl <;> simp [Ll]
theorem Ac8 {n : Nat} (h : n <= 200) : Wr n = n + 10 := by
 have e1 := Bq (6 + (n : Int))
 have e2 := Bq (6 + (n : Int) + 4)
 have hh : ¬ ((n : Int) < 0 \/ 200 < (n : Int)) := by omega
 simp only [Wr, if_neg hh, e1, e2]
 omega
theorem Zv (k : Int) (p : List Int) (hl : p.length <= 1000000) : PP 137 [] [.li k, .mY p] [] (.tup [.imm false 1 (tY (Q8 k p).1), .lit (.int .i64 (Q8 k p).2)]) := by
 refine B0 Tryz.func137 ?_
 refine VW.R <| .seq ?_
 refine VW.R ?_
 refine VW.C ?_ ?_ <;> intro h15 <;> simp [go_sem] at h15
 ·refine VW.R ?_
  refine VW.ret (B2 (by simp [go_sem]) ?_)
  simp [go_sem]
  simp [Q8, h15]
 refine VW.skip <| .seq <| .R ?_
 refine VW.C ?_ ?_ <;> intro h18 <;> simp [go_sem] at h18
 ·refine VW.R ?_
  refine VW.ret (B2 (by simp [go_sem]) ?_)
  simp [go_sem]
  have hh : ¬ (k < 0 \/ 255 < k) := by omega
  have hh2 : 200 < p.length := by omega
  simp [Q8, hh, hh2]
 have hsz := Ac8 (n := p.length) (by omega)
 have hn : ((p.length : Int) + 10).toNat = p.length + 10 := by omega
 have h6 := Bq (6 + (p.length : Int))
 have h7 : (6 + (p.length : Int)).toNat - 2 = p.length + 4 := by omega
 refine VW.skip <| .R ?_
 refine VW.L hsz (Uw p.length) ?_
 refine VW.wkE (s' := ⟨[(0, .li k), (1, .mY p), (6, .li p.length), (7, .own 0 (p.length + 10))], [.row 5 1 true false (tY (0 :: 0 :: 0 :: 0 :: 0 :: 0 :: List.replicate (p.length + 4) 0))]⟩) ⟨[0], Bp (by decide) ?_ ?_, by simp⟩ ?_
 ·simp [go_sem, hn, Asp]
 ·simp [go_sem, hn, Asp]
 refine VW.H ok0 ?_
 refine VW.H ok0 ?_
 refine VW.H ok0 ?_
 have hcp := fun a b c d e f z => Asn (g := fun x => [T.lit (Value.int IntKind.u8 x)]) p a b c d e f z (m := ((p.length : Int) + 10).toNat - 6) (by omega)
 refine VW.wkE (s' := ⟨[(0, .li k), (1, .mY p), (6, .li p.length), (7, .own 0 (p.length + 10))], [.row 5 1 false false (tY ((Gg k p.length) ++ p ++ List.replicate 4 0))]⟩) ⟨[0], Bp (by decide) ?_ ?_, by simp⟩ ?_
 ·simp [go_sem, hcp]
 ·simp [go_sem, hcp, Gg, tY]
 refine VW.region_seq (by rfl) fun K1 hK1 => ?_
 simp [go_sem, h6, h7]
 repeat' with_reducible refine Ax ?_ ?_
 all_goals try (intros; (repeat' refine Ax ?_ ?_) <;> omega)
 all_goals try (simp [Gg]; omega)
 refine .lo (Aci ((Gg k p.length).drop 2 ++ p) (by simp [Gg]; omega)) (by simp [go_sem, Gg, h7]) (by simp [AV.cln, Cp]) ?_
 simp [go_sem, h6, h7]
 refine hK1 _ ?_; clear hK1
 refine VW.seq <| .R <| .block ?_
 refine VW.range 4 (fun i1 => ⟨[(6, .li p.length), (7, .own 0 (p.length + 10)), (8, .lit (.int .u32 (Aat ((Gg k p.length).drop 2 ++ p)))), (52, .li i1)], [.row 5 1 false false (tY ((Gg k p.length) ++ p ++ ((Ll (Aat ((Gg k p.length).drop 2 ++ p))).take i1 ++ List.replicate (4 - i1) 0)))]⟩) ⟨[0], Bp (by decide) ?_ ?_, by simp⟩ fun i1 hi1 => ?_
 ·simp [go_sem]
 ·simp [go_sem]
 refine VW.R <| .seq ?_
 refine VW.C ?_ ?_ <;> intro h53 <;> simp [go_sem] at h53
 ·have hw1 := Bq (6 + (p.length : Int) + i1)
  have hw2 := Bq (3 - (i1 : Int))
  have hw3 := Bq (8 * (3 - (i1 : Int))) (by omega) (by omega)
  have he : (6 + (p.length : Int) + i1).toNat = (Gg k p.length ++ p).length + i1 := by simp [Gg]; omega
  have hset := congrArg tY (Ao8 (A := Gg k p.length ++ p) (s := Aat ((Gg k p.length).drop 2 ++ p)) (i := i1) (by omega))
  rw [Ai3 (by omega), <- Aqm, <- Aqn (by simp [Gg, Ll]; omega), <- he] at hset
  simp [tY] at hset
  refine VW.skip <| .seq <| .block <| .R ?_
  refine VW.region1 (by rfl) fun K1 hK1 => ?_
  simp [go_sem, h6, hw1, hw2, hw3]
  repeat' with_reducible refine Ax ?_ ?_
  all_goals try (intros; (repeat' refine Ax ?_ ?_) <;> omega)
  all_goals try (simp [Gg, Ll]; omega)
  refine hK1 _ ?_; clear hK1
  refine VW.R1 ?_
  refine ⟨by omega, [0], Bp (by decide) ?_ ?_, by simp⟩
  ·simp [go_sem, Bq ((i1 : Int) + 1), hset, h15, h18, h53]
  simp [go_sem, hset, h15, h18, h53]
 refine VW.exit <| .R ?_
 have he : i1 = 4 := by omega
 subst he
 refine VW.freeze 0 (by simp [go_sem, Db]) ?_
 simp [go_sem]
 refine VW.ret (B2 (by simp [go_sem]) ?_)
 simp [go_sem]
 have hh : ¬ (k < 0 \/ 255 < k) := by omega
 have hh2 : ¬ 200 < p.length := by omega
 have hc : p.length + 10 = (Gg k p.length).length + (p.length + 4) := by simp [Gg]; omega
 simp [Q8, Y9, hh, hh2, tY, Ll, if_pos hc, go_sem]
theorem Ao9 {α β : Type} {g : β -> α} (r : List β) {n : Nat} {z : α} (h : n <= r.length) : Hm (List.replicate n z) 0 (List.take n (List.take n (List.map g r))) = List.map g (List.take n r) := by
 have := Z2 [] (List.replicate n z) (List.map g (List.take n r)) (by simp; omega)
 simp only [List.nil_append, List.length_nil] at this
 rw [List.take_take, Nat.min_self, <- List.map_take, this, List.drop_of_length_le (by simp; omega)]
 simp
theorem Ai4 {n : Int} (h0 : 0 <= n) (h : n <= 200) : Wr n = n + 10 := by
 obtain ⟨m, rfl⟩ := Int.eq_ofNat_of_zero_le h0
 exact Ac8 (by omega)
def By (l : List Int) : Prop := ∀ x, x ∈ l -> 0 <= x /\ x < 256
theorem Anj {a b : Int} (ha : 0 <= a) (ha' : a < 4611686018427387904) (hb : 0 <= b) (hb' : b < 4611686018427387904) : Cm .or .i64 a b = ((a.toNat ||| b.toNat : Nat) : Int) := by
 obtain ⟨m, rfl⟩ := Int.eq_ofNat_of_zero_le ha
 obtain ⟨n, rfl⟩ := Int.eq_ofNat_of_zero_le hb
 have hm : m < 2 ^ 62 := by omega
 have hn : n < 2 ^ 62 := by omega
 have h := Nat.or_lt_two_pow hm hn
 have e : (BitVec.ofInt 64 (m : Int) ||| BitVec.ofInt 64 (n : Int)).toNat = m ||| n := by
  rw [BitVec.ofInt_natCast, BitVec.ofInt_natCast, BitVec.toNat_or, BitVec.toNat_ofNat, BitVec.toNat_ofNat, Nat.mod_eq_of_lt (by omega), Nat.mod_eq_of_lt (by omega)]
 show IntKind.i64.wrap (((BitVec.ofInt 64 (m : Int) ||| BitVec.ofInt 64 (n : Int)).toNat : Nat) : Int) = _
 rw [e, Bq _]
 simp
theorem Asr {x y : Int} (hx : 0 <= x /\ x < 256) (hy : 0 <= y /\ y < 256) : Cm .or .i64 (IntKind.i64.wrap (IntKind.i64.wrap x * 256)) (IntKind.i64.wrap y) = x * 256 + y := by
 rw [Bq x, Bq (x * 256), Bq y, Anj (by omega) (by omega) (by omega) (by omega)]
 obtain ⟨m, rfl⟩ := Int.eq_ofNat_of_zero_le hx.1
 obtain ⟨n, rfl⟩ := Int.eq_ofNat_of_zero_le hy.1
 have := Nat.shiftLeft_add_eq_or_of_lt (i := 8) (b := n) (by omega) m
 rw [Nat.shiftLeft_eq] at this
 rw [show ((m : Int) * 256).toNat = m * 2 ^ 8 by omega, Int.toNat_natCast, <- this]
 omega
def Cq : List Int -> Gc × Int × Bool
 | [] => (⟨0, 0, []⟩, 0, false)
 | [b0] => if b0 ≠ 90 then (⟨2, 0, []⟩, 1, true) else (⟨0, 0, []⟩, 0, false)
 | b0 :: b1 :: r => if b0 ≠ 90 \/ b1 ≠ 165 then (⟨2, 0, []⟩, 1, true) else match r with
  | b2 :: b3 :: b4 :: b5 :: r =>
   let n := b4 * 256 + b5
   if 200 < n then (⟨7, 0, []⟩, 1, true)
   else if (r.length : Int) < n + 4 then (⟨0, 0, []⟩, 0, false)
   else if Aat (b2 :: b3 :: b4 :: b5 :: r.take n.toNat) ≠ Aqx ((r.drop n.toNat).take 4) then (⟨4, 0, []⟩, 1, true)
   else if b2 ≠ 1 then (⟨3, 0, []⟩, n + 10, true)
   else if b3 < 1 \/ 22 < b3 then (⟨5, 0, []⟩, n + 10, true)
   else (⟨0, b3, r.take n.toNat⟩, n + 10, true)
  | _ => (⟨0, 0, []⟩, 0, false)
theorem Abx (b : List Int) (hl : b.length <= 1000000) (hb : By b) : PP 140 [] [.mY b] [] (.tup [.agg ((Cq b).1.a false), .lit (.int .i64 (Cq b).2.1), .lb ((Cq b).2.2)]) := by
 refine B0 Tryz.func140 ?_
 refine VW.R <| .seq ?_
 refine VW.R ?_
 refine VW.C ?_ ?_ <;> intro h11 <;> simp [go_sem] at h11
 ·refine VW.R ?_
  refine VW.ret (B2 (by simp [go_sem]) ?_)
  simp [go_sem, h11, Cq]
 refine VW.skip <| .seq ?_
 obtain ⟨b0, r, rfl⟩ := List.exists_cons_of_ne_nil h11
 rcases r with _ | ⟨b1, r⟩
 ·refine VW.H ok0 ?_
  refine VW.C ?_ ?_ <;> intro h27 <;> simp [go_sem] at h27
  ·refine VW.R ?_
   refine VW.ret (B2 (by simp [go_sem]) ?_)
   simp [go_sem]
   first | (simp [Cq, h27]; done) | (have e : ¬b0 = 90 \/ ¬b1 = 165 := (by omega); simp [Cq, e])
  refine VW.skip <| .seq <| .R ?_
  refine VW.C ?_ ?_ <;> intro h31 <;> simp [go_sem] at h31
  refine VW.R ?_
  refine VW.ret (B2 (by simp [go_sem]) ?_)
  simp [go_sem]
  first | (simp [Cq, h27]; done) | (have e : ¬(¬b0 = 90 \/ ¬b1 = 165) := (by omega); rcases r with _ | ⟨b2, _ | ⟨b3, _ | ⟨b4, _ | ⟨b5, r⟩⟩⟩⟩ <;> first | (simp [Cq, e]; done) | (exfalso; simp at h31; done) | (exfalso; simp at h31; omega))
 refine VW.H ok0 ?_
 refine VW.C ?_ ?_ <;> intro h27 <;> simp [go_sem] at h27
 ·refine VW.R ?_
  refine VW.ret (B2 (by simp [go_sem]) ?_)
  simp [go_sem]
  first | (simp [Cq, h27]; done) | (have e : ¬b0 = 90 \/ ¬b1 = 165 := (by omega); simp [Cq, e])
 refine VW.skip <| .seq <| .R ?_
 refine VW.C ?_ ?_ <;> intro h31 <;> simp [go_sem] at h31
 ·refine VW.R ?_
  refine VW.ret (B2 (by simp [go_sem]) ?_)
  simp [go_sem]
  first | (simp [Cq, h27]; done) | (have e : ¬(¬b0 = 90 \/ ¬b1 = 165) := (by omega); rcases r with _ | ⟨b2, _ | ⟨b3, _ | ⟨b4, _ | ⟨b5, r⟩⟩⟩⟩ <;> first | (simp [Cq, e]; done) | (exfalso; simp at h31; done) | (exfalso; simp at h31; omega))
 obtain ⟨b2, b3, b4, b5, r, rfl⟩ : ∃ b2 b3 b4 b5 r', r = b2 :: b3 :: b4 :: b5 :: r' := by
  rcases r with _ | ⟨b2, _ | ⟨b3, _ | ⟨b4, _ | ⟨b5, r⟩⟩⟩⟩ <;> first | exact ⟨_, _, _, _, _, rfl⟩ | (exfalso; simp at h31; done) | (exfalso; simp at h31; omega)
 have h4 := hb b4 (by simp)
 have h5 := hb b5 (by simp)
 have hn := Asr h4 h5
 refine VW.skip <| .G hn <| .seq ?_
 refine VW.R ?_
 refine VW.C ?_ ?_ <;> intro h44 <;> simp [go_sem] at h44
 ·refine VW.R ?_
  refine VW.ret (B2 (by simp [go_sem]) ?_)
  simp [go_sem]
  have e27 : ¬(¬b0 = 90 \/ ¬b1 = 165) := (by omega)
  simp [Cq, e27, h44]
 generalize hN : b4 * 256 + b5 = N at *
 have h0 : 0 <= N := by omega
 have hs := Ai4 (n := N) (by omega) (by omega)
 have hw := Bq (6 + N)
 have e1 : (6 + N).toNat = N.toNat + 6 := by omega
 have e2 : (N + 10).toNat = N.toNat + 10 := by omega
 refine VW.skip <| .L hs (Uw N) <| .seq ?_
 refine VW.R ?_
 refine VW.C ?_ ?_ <;> intro h51 <;> simp [go_sem] at h51
 ·refine VW.R ?_
  refine VW.ret (B2 (by simp [go_sem]) ?_)
  simp [go_sem]
  have e27 : ¬(¬b0 = 90 \/ ¬b1 = 165) := (by omega)
  have c44 : ¬ 200 < N := (by omega)
  have c51 : (r.length : Int) < N + 4 := (by omega)
  simp [Cq, e27, hN, c44, c51]
 refine VW.skip <| .seq <| .E (fun K kk => by simp [go_sem, hw, e1, e2]; (repeat refine aK ?_); refine .lo (Aci (b2 :: b3 :: b4 :: b5 :: r.take N.toNat) (by simp; omega)) (by simp [go_sem]) (by simp [AV.cln, Cp]) ?_; simp [go_sem, hw, e1, e2]; (repeat refine aK ?_); refine .lo (Zu ((r.drop N.toNat).take 4) (by simp; omega)) (by simp [go_sem, List.drop_take]) (by simp [AV.cln, Cp]) ?_; simp [go_sem, hw, e1, e2]; exact kk) ?_
 refine VW.C ?_ ?_ <;> intro h64 <;> simp [go_sem] at h64
 ·refine VW.R ?_
  refine VW.ret (B2 (by simp [go_sem]) ?_)
  simp [go_sem]
  have e27 : ¬(¬b0 = 90 \/ ¬b1 = 165) := (by omega)
  have c44 : ¬ 200 < N := (by omega)
  have c51 : ¬ (r.length : Int) < N + 4 := (by omega)
  simp [Cq, e27, hN, c44, c51, h64]
 refine VW.skip <| .seq <| .H ok0 ?_
 refine VW.C ?_ ?_ <;> intro h69 <;> simp [go_sem] at h69
 ·refine VW.R ?_
  refine VW.ret (B2 (by simp [go_sem]) ?_)
  simp [go_sem]
  have e27 : ¬(¬b0 = 90 \/ ¬b1 = 165) := (by omega)
  have c44 : ¬ 200 < N := (by omega)
  have c51 : ¬ (r.length : Int) < N + 4 := (by omega)
  simp [Cq, e27, hN, c44, c51, h64, h69]
 have h3 := hb b3 (by simp)
 have hk := Bq b3
 subst h69
 refine VW.skip <| .H hk <| .seq ?_
 refine VW.R ?_
 refine VW.C ?_ ?_ <;> intro h81 <;> simp [go_sem] at h81
 ·refine VW.R ?_
  refine VW.ret (B2 (by simp [go_sem]) ?_)
  simp [go_sem]
  have e27 : ¬(¬b0 = 90 \/ ¬b1 = 165) := (by omega)
  have c44 : ¬ 200 < N := (by omega)
  have c51 : ¬ (r.length : Int) < N + 4 := (by omega)
  have e81 : b3 < 1 \/ 22 < b3 := (by omega)
  simp [Cq, e27, hN, c44, c51, h64, e81]
 refine VW.skip <| .H ok0 ?_
 refine VW.S (fun K kk => by simp [go_sem, hw, e1]; repeat first | exact kk | refine aK ?_) ?_
 have hrl : N.toNat <= r.length := (by first | omega | (simp at h51; omega))
 have hm : min N.toNat r.length = N.toNat := Nat.min_eq_left hrl
 have hcp := Ao9 (g := fun x => [T.lit (Value.int IntKind.u8 x)]) r (z := [T.lit (Value.int IntKind.u8 0)]) hrl
 simp only [hcp]
 refine VW.freeze 1 (by simp [go_sem, Db]) ?_
 simp [go_sem, hm]
 refine VW.R ?_
 refine VW.ret (B2 (by simp [go_sem]) ?_)
 simp [go_sem]
 have e27 : ¬(¬b0 = 90 \/ ¬b1 = 165) := (by omega)
 have c44 : ¬ 200 < N := (by omega)
 have c51 : ¬ (r.length : Int) < N + 4 := (by omega)
 have e81 : ¬ (b3 < 1 \/ 22 < b3) := (by omega)
 simp [Cq, e27, hN, c44, c51, h64, e81, hm, go_sem]
theorem Ao5 (v : Int) {n : Int} (h : 1 <= n) : -n < v.tmod n /\ v.tmod n < n := by
 have h1 := Int.tmod_lt_of_pos v (show 0 < n by omega)
 have h2 := Int.tmod_lt_of_pos (-v) (show 0 < n by omega)
 rw [Int.neg_tmod] at h2
 omega
def J1 {α : Type} (f : α -> List T) (n : Nat) (X : List (List T)) : Prop := ∃ R : List α, X = R.map f /\ R.length = n
section
variable {α : Type} {f : α -> List T} {n k : Nat} {X Y : List (List T)}
theorem Ii {l : List α} : J1 f l.length (l.map f) := ⟨l, rfl, rfl⟩
theorem Ih : J1 f 0 [] := ⟨[], rfl, rfl⟩
theorem Ig {x : α} {z : List T} (h : z = f x) : J1 f n (List.replicate n z) := ⟨List.replicate n x, by simp [h], by simp⟩
theorem G6 {x : α} {z : List T} (h : z = f x) (h2 : J1 f n X) : J1 f (n + 1) (z :: X) := by
 obtain ⟨R, rfl, rfl⟩ := h2
 exact ⟨x :: R, by simp [h], by simp⟩
theorem G3 (h : J1 f n X) : J1 f (min k n) (List.take k X) := by
 obtain ⟨R, rfl, rfl⟩ := h
 exact ⟨R.take k, by simp, by simp⟩
theorem G5 (h : J1 f n X) : J1 f (n - k) (List.drop k X) := by
 obtain ⟨R, rfl, rfl⟩ := h
 exact ⟨R.drop k, by simp, by simp⟩
theorem Ij (h : J1 f n X) (h2 : J1 f k Y) : J1 f (n + k) (X ++ Y) := by
 obtain ⟨R, rfl, rfl⟩ := h
 obtain ⟨S, rfl, rfl⟩ := h2
 exact ⟨R ++ S, by simp, by simp⟩
theorem Ie {i : Nat} {x : α} {z : List T} (h : J1 f n X) (hz : z = f x) : J1 f n (X.set i z) := by
 obtain ⟨R, rfl, rfl⟩ := h
 exact ⟨R.set i x, by simp [hz, List.map_set], by simp⟩
theorem Ams (R S : List α) (i : Nat) : ∃ R' : List α, Hm (R.map f) i (S.map f) = R'.map f /\ R'.length = R.length := by
 induction S generalizing R i with
 | nil => exact ⟨R, rfl, rfl⟩
 | cons x S ih =>
  obtain ⟨R', h1, h2⟩ := ih (R.set i x) (i + 1)
  refine ⟨R', ?_, by simpa using h2⟩
  rw [List.map_cons, Hm, <- List.map_set, h1]
theorem G4 {i : Nat} (h : J1 f n X) (h2 : J1 f k Y) : J1 f n (Hm X i Y) := by
 obtain ⟨R, rfl, rfl⟩ := h
 obtain ⟨S, rfl, rfl⟩ := h2
 exact Ams R S i
theorem G7 (h : J1 f n X) (e : n = k) : J1 f k X := e ▸ h
end
theorem Aco : ∀ (l : List Ob) (n : Nat), n < l.length -> Ly l n (l.getD n .gone) = l
 | [], _, h => by simp at h
 | _ :: _, 0, _ => rfl
 | _ :: l, n + 1, h => by simp only [Ly, List.getD_cons_succ]; rw [Aco l n (by simpa using h)]
theorem VX.gen {P : Program} {n m : Nat} {c : Code} {st : St} {K : Exit -> St -> Prop} {α : Type} (id : Nat) {ty k : Nat} {g fr : Bool} {X : List (List T)} (ho : st.o id = .row ty k g fr X) (hl : id < st.ob.length) (f : α -> List T) (N : Nat) (h : J1 f N X) (hv : ∀ R : List α, R.length = N -> VX P n m c (st.set id (.row ty k g fr (R.map f))) K) : VX P n m c st K := by
 obtain ⟨R, rfl, h2⟩ := h
 have := hv R h2
 rw [<- ho] at this
 rwa [show st.set id (st.o id) = st by show St.mk _ _ = _; rw [show st.o id = st.ob.getD id .gone from rfl, Aco _ _ hl]] at this
def As1 (P : Program) {D : Type} (rs : List ResultVar) (F : D -> AV) (S : D -> List Ob) (Q : D -> Prop) (e : Exit) (st : St) : Prop := ∃ d, Pu P 0 rs (S d) (F d) e st /\ Q d
theorem Km {P : Program} {f : FuncId} {fn : Func} {c : Code} {args : List AV} {D : Type} {F : D -> AV} {S : D -> List Ob} {Q : D -> Prop} (hf : P.funcs[f]? = some fn) (hb : fn.body = some c) (hn : (fn.name == "runtime.NumGoroutine") = false) {rs : List ResultVar} (hrs : fn.results = rs.toArray) (hk : args.length <= fn.ntmps)
 (h : VX P fn.ntmps 0 c ⟨E8 0 args, []⟩ (As1 P rs F S Q)) : ∃ d, B8 P f [] args (S d) (F d) /\ Q d := by
 obtain ⟨e, s, h1, d, h2, h3⟩ := h
 refine ⟨d, Y0 hf hb hn hrs hk (h1.mono ?_), h3⟩
 rintro e' s' ⟨rfl, rfl⟩
 exact h2
theorem Wz (p : C9) : Ct 114 [p.g] (fun d : Int => .li d) (fun d => True) := by
 refine Cb Tryz.func114 ?_
 iterate 2 refine VX.R ?_
 refine VX.ret (Co ?_); simp [go_sem]
 exact ⟨_, rfl, trivial⟩
theorem Um (p : C9) (l : Cz) : Ct 84 [p.g, l.g] (fun d : Int => .li d) (fun d => True) := by
 refine Cb Tryz.func84 ?_
 refine VX.R <| .seq ?_
 refine VX.R <| .block ?_
 refine VX.R ?_
 refine VX.C ?_ ?_ <;> intro h7 <;> simp [go_sem] at h7
 ·obtain ⟨Y1, cY1, qY1⟩ := got (Wz p)
  refine VX.M ok0 cY1 ?_
  refine VX.ret (Co ?_); simp [go_sem]
  exact ⟨_, rfl, trivial⟩
 refine VX.R ?_
 refine VX.C ?_ ?_ <;> intro h16 <;> simp [go_sem] at h16
 ·refine VX.R ?_
  refine VX.ret (Co ?_); simp [go_sem]
  exact ⟨_, rfl, trivial⟩
 refine VX.R ?_
 refine VX.C ?_ ?_ <;> intro h24 <;> simp [go_sem] at h24
 ·refine VX.R ?_
  refine VX.ret (Co ?_); simp [go_sem]
  exact ⟨_, rfl, trivial⟩
 refine VX.skip <| .R ?_
 refine VX.ret (Co ?_); simp [go_sem]
 exact ⟨_, rfl, trivial⟩
theorem Ri (p : C9) (l : Cz) (b : Bool) : Ct 202 [p.g, l.g, .lb b] (fun d : Cz => d.g) (fun d => True) := by
 refine Cb Tryz.func202 ?_
 refine VX.R <| .seq ?_
 refine VX.R <| .block ?_
 refine VX.R ?_
 refine VX.C ?_ ?_ <;> intro h9 <;> simp [go_sem] at h9
 ·refine VX.seq ?_
  refine VX.draw_seq (by kernel_rfl) (by rfl) (by kernel_rfl) fun K1 hK1 => ?_
  simp [go_sem]
  refine Jq (by simp [go_sem]) (by simp [go_sem]) ?_
  simp [go_sem]
  obtain ⟨Y1, cY1, qY1⟩ := got (Wz p)
  first | refine .lo cY1 rfl (by simp) ?_ | refine .skip ?_
  simp [go_sem]
  refine hK1 _ _ (by kernel_rfl) ?_; clear hK1
  refine VX.C ?_ ?_ <;> intro h19 <;> simp [go_sem] at h19
  ·refine VX.R ?_
   refine VX.ret (Co ?_); simp [go_sem]
   exact ⟨⟨_, _⟩, by first | rfl | simp [go_sem], trivial⟩
  refine VX.skip <| .R ?_
  refine VX.ret (Co ?_); simp [go_sem]
  exact ⟨⟨_, _⟩, by first | rfl | simp [go_sem], trivial⟩
 refine VX.R ?_
 refine VX.C ?_ ?_ <;> intro h26 <;> simp [go_sem] at h26
 ·refine VX.seq <| .R ?_
  refine VX.C ?_ ?_ <;> intro h33 <;> simp [go_sem] at h33
  ·refine VX.R ?_
   refine VX.ret (Co ?_); simp [go_sem]
   exact ⟨⟨_, _⟩, by first | rfl | simp [go_sem], trivial⟩
  refine VX.skip <| .seq <| .R ?_
  refine VX.C ?_ ?_ <;> intro h40 <;> simp [go_sem] at h40
  ·refine VX.R ?_
   refine VX.ret (Co ?_); simp [go_sem]
   exact ⟨⟨_, _⟩, by first | rfl | simp [go_sem], trivial⟩
  refine VX.skip <| .R ?_
  refine VX.ret (Co ?_); simp [go_sem]
  exact ⟨⟨_, _⟩, by first | rfl | simp [go_sem], trivial⟩
 refine VX.R ?_
 refine VX.C ?_ ?_ <;> intro h43 <;> simp [go_sem] at h43
 ·refine VX.seq <| .R ?_
  refine VX.C ?_ ?_ <;> intro h50 <;> simp [go_sem] at h50
  ·refine VX.R ?_
   refine VX.ret (Co ?_); simp [go_sem]
   exact ⟨⟨_, _⟩, by first | rfl | simp [go_sem], trivial⟩
  refine VX.skip <| .R ?_
  refine VX.ret (Co ?_); simp [go_sem]
  exact ⟨⟨_, _⟩, by first | rfl | simp [go_sem], trivial⟩
 refine VX.skip <| .R ?_
 refine VX.ret (Co ?_); simp [go_sem]
 exact ⟨⟨_, _⟩, by first | rfl | simp [go_sem], trivial⟩
noncomputable def Agr (p : C9) (l : Cz) (b : Bool) : Cz := (got (Ri p l b)).choose
theorem Afx (p : C9) (l : Cz) (b : Bool) : PP 202 [] [p.g, l.g, .lb b] [] (.agg ((Agr p l b).a false)) := (got (Ri p l b)).choose_spec.1
theorem Adn (p : C9) (l : Cz) : Ct 219 [p.g, l.g] (fun d : Bool => .lb d) (fun d => True) := by
 refine Cb Tryz.func219 ?_
 refine VX.R <| .seq ?_
 refine VX.R <| .block ?_
 refine VX.R ?_
 refine VX.C ?_ ?_ <;> intro h7 <;> simp [go_sem] at h7
 ·refine VX.R ?_
  refine VX.ret (Co ?_); simp [go_sem]
  exact ⟨_, rfl, trivial⟩
 refine VX.R ?_
 refine VX.C ?_ ?_ <;> intro h12 <;> simp [go_sem] at h12
 ·refine VX.R ?_
  refine VX.ret (Co ?_); simp [go_sem]
  exact ⟨_, rfl, trivial⟩
 refine VX.R ?_
 refine VX.C ?_ ?_ <;> intro h22 <;> simp [go_sem] at h22
 ·refine VX.R ?_
  refine VX.ret (Co ?_); simp [go_sem]
  exact ⟨_, rfl, trivial⟩
 refine VX.R ?_
 refine VX.C ?_ ?_ <;> intro h34 <;> simp [go_sem] at h34
 ·refine VX.R ?_
  refine VX.ret (Co ?_); simp [go_sem]
  exact ⟨_, rfl, trivial⟩
 refine VX.skip <| .R ?_
 refine VX.ret (Co ?_); simp [go_sem]
 exact ⟨_, rfl, trivial⟩
theorem Pe (n : Int) : Ct 205 [.li n] (fun d : Bool => .lb d) (fun d => True) := by
 refine Cb Tryz.func205 ?_
 iterate 2 refine VX.R ?_
 refine VX.ret (Co ?_); simp [go_sem]
 exact ⟨_, rfl, trivial⟩
theorem Adj (b : Ky) : Ct 255 [b.g] (fun d : Bool => .lb d) (fun d => True) := by
 refine Cb Tryz.func255 ?_
 iterate 2 refine VX.R ?_
 refine VX.ret (Co ?_); simp [go_sem]
 exact ⟨_, rfl, trivial⟩
theorem Qr (a : TAg) (c : Int) : Ct 277 [a.g, .li c] (fun d : Int => .li d) (fun d => True) := by
 refine Cb Tryz.func277 ?_
 refine VX.R <| .seq ?_
 refine VX.R ?_
 refine VX.C ?_ ?_ <;> intro h13 <;> simp [go_sem] at h13
 ·refine VX.R ?_
  refine VX.ret (Co ?_); simp [go_sem]
  exact ⟨_, rfl, trivial⟩
 have hxx : a.lims[c.toNat]? = some a.lims[c.toNat] := Aa (by omega)
 generalize a.lims[c.toNat] = x at hxx
 refine VX.skip <| .H hxx ?_
 refine VX.ret (Co ?_); simp [go_sem]
 exact ⟨_, rfl, trivial⟩
theorem T0 (k : Int) (v : Int) : Ct 191 [.li k, .li v] (fun d : B3 => d.g) (fun d => d.tok = [] /\ d.data = [] /\ d.args.length = 2) := by
 refine Cb Tryz.func191 ?_
 iterate 2 refine VX.R ?_
 refine VX.Z ok0 1 ?_
 refine VX.ret (Co ?_); simp [go_sem]
 exact ⟨⟨_, [], [_, _], []⟩, by first | rfl | simp [go_sem], ⟨rfl, rfl, rfl⟩⟩
noncomputable def Jm (k : Int) (v : Int) : B3 := (got (T0 k v)).choose
theorem P7 (k : Int) (v : Int) : PP 191 [] [.li k, .li v] [] (.agg ((Jm k v).a false)) := (got (T0 k v)).choose_spec.1
theorem Air (k : Int) (v : Int) : (fun d : B3 => d.tok = [] /\ d.data = [] /\ d.args.length = 2) (Jm k v) := (got (T0 k v)).choose_spec.2
theorem Gu (n : Int) : Ct 77 [.li n] (fun d : Bool => .lb d) (fun d => True) := by
 refine Cb Tryz.func77 ?_
 iterate 2 refine VX.R ?_
 refine VX.ret (Co ?_); simp [go_sem]
 exact ⟨_, rfl, trivial⟩
noncomputable def Fa (n : Int) : Bool := (got (Gu n)).choose
theorem Gw (n : Int) : PP 77 [] [.li n] [] (.lb (Fa n)) := (got (Gu n)).choose_spec.1
theorem Fp (v : Int) (n : Int) (h : 1 <= n) (hn : n <= 1000000) : Ct 15 [.li v, .li n] (fun d : Int => .li d) (fun d => 0 <= d /\ d < n) := by
 refine Cb Tryz.func15 ?_
 have hm := Ao5 v h
 have hw := Bq (v.tmod n + n)
 refine VX.R ?_
 refine VX.H ok0 <| .seq ?_
 refine VX.R ?_
 refine VX.C ?_ ?_ <;> intro h10 <;> simp [go_sem] at h10
 ·refine VX.H1 hw ?_
  refine VX.R ?_
  refine VX.ret (Co ?_); simp [go_sem]
  exact ⟨_, rfl, (by omega)⟩
 refine VX.skip <| .R ?_
 refine VX.ret (Co ?_); simp [go_sem]
 exact ⟨_, rfl, (by omega)⟩
noncomputable def Fq (v : Int) (n : Int) (h : 1 <= n) (hn : n <= 1000000) : Int := (got (Fp v n h hn)).choose
theorem G2 (v : Int) (n : Int) (h : 1 <= n) (hn : n <= 1000000) : PP 15 [] [.li v, .li n] [] (.li (Fq v n h hn)) := (got (Fp v n h hn)).choose_spec.1
theorem Es (v : Int) (n : Int) (h : 1 <= n) (hn : n <= 1000000) : (fun d : Int => 0 <= d /\ d < n) (Fq v n h hn) := (got (Fp v n h hn)).choose_spec.2
end Go.Proofs.YtkkimgjinbaemaaGreat
