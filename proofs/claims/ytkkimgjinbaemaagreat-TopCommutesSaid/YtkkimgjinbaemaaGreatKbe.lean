/- The walk. -/
import Derived.Test.YtkkimgjinbaemaaGreatKbd
namespace Go.Proofs.YtkkimgjinbaemaaGreat
open Go.RowKit
set_option linter.unusedVariables false
set_option linter.unusedSimpArgs false
set_option maxRecDepth 100000
set_option maxHeartbeats 4000000
structure Cf where
  l : List Int
  pos : Int
def Cf.a (fr : Bool) (x : Cf) : List AV := [.imm fr 1 (tI x.l), .li x.pos]
abbrev Cf.g (x : Cf) : AV := .agg (x.a false)
attribute [go_sem] Cf.g
attribute [go_sem] Cf.a
def Aqi (P : Program) (m : Nat) {D : Type} (rs : List ResultVar) (F : D -> AV) (S : D -> List Ob) (Q : D -> Prop) (e : Exit) (st : St) : Prop := ∃ d, Pu P m rs (S d) (F d) e st /\ Q d
theorem Y8 {P : Program} {f : FuncId} {fn : Func} {c : Code} {args : List AV} {σa : List Ob} {D : Type} {F : D -> AV} {S : D -> List Ob} {Q : D -> Prop} (hf : P.funcs[f]? = some fn) (hb : fn.body = some c) (hn : (fn.name == "runtime.NumGoroutine") = false) {rs : List ResultVar} (hrs : fn.results = rs.toArray) (hk : args.length <= fn.ntmps)
 (h : VX P fn.ntmps σa.length c ⟨E8 0 args, σa⟩ (Aqi P σa.length rs F S Q)) : ∃ d, B8 P f σa args (S d) (F d) /\ Q d := by
 obtain ⟨e, s, h1, d, h2, h3⟩ := h
 refine ⟨d, Y0 hf hb hn hrs hk (h1.mono ?_), h3⟩
 rintro e' s' ⟨rfl, rfl⟩
 exact h2
def Cx {D : Type} (f : FuncId) (σa : List Ob) (args : List AV) (S : D -> List Ob) (F : D -> AV) (Q : D -> Prop) : Prop := ∃ d, PP f σa args (S d) (F d) /\ Q d
theorem Pr {f : FuncId} {fn : Func} {c : Code} {args : List AV} {σa : List Ob} {D : Type} {F : D -> AV} {S : D -> List Ob} {Q : D -> Prop} {rs : List ResultVar} (hf : Tryz.prog.funcs[f]? = some fn) (h : VX Tryz.prog fn.ntmps σa.length c ⟨E8 0 args, σa⟩ (Aqi Tryz.prog σa.length rs F S Q)) (hb : fn.body = some c := by rfl) (hn : (fn.name == "runtime.NumGoroutine") = false := by rfl) (hrs : fn.results = rs.toArray := by rfl) (hk : args.length <= fn.ntmps := by exact Nat.le_of_ble_eq_true rfl) : Cx f σa args S F Q := Y8 hf hb hn hrs hk h
theorem K0 (k : Cf) (h : k.l.length <= 300) : Cx 34 [.box 84 (k.a false)] [.ptr 0 0] (fun d : Bool × Cf => [.box 84 (d.2.a false)]) (fun d => .lb d.1) (fun d => d.2 = k) := by
 refine Pr Tryz.func34 ?_
 refine VX.R ?_
 refine VX.D ?_
 exact .ret ⟨(decide ((k.pos : Int) < k.l.length), k), rW ok0 [0], rfl⟩
theorem Ds (k : Cf) (n : Int) (h : k.l.length <= 300) (h0 : 0 <= k.pos) (h1 : 1 <= n) (h2 : n <= 1000000) : Cx 26 [.box 84 (k.a false)] [.ptr 0 0, .li n] (fun d : Int × Cf => [.box 84 (d.2.a false)]) (fun d => .li d.1) (fun d => d.2.l = k.l /\ k.pos <= d.2.pos /\ (0 <= d.1 /\ d.1 < n /\ (k.l = [] -> d.1 = 0))) := by
 refine Pr Tryz.func26 ?_
 refine VX.R <| .seq ?_
 refine VX.D ?_
 refine VX.C ?_ ?_ <;> intro h14 <;> simp [go_sem] at h14
 ·refine VX.R ?_
  exact .ret ⟨(0, k), rW ok0 [0], (by first | exact ⟨rfl, by dsimp only; omega, by dsimp only; omega, by dsimp only; omega, fun _ => rfl⟩ | exact ⟨rfl, by dsimp only; omega, (Es _ _ h1 h2).1, (Es _ _ h1 h2).2, fun e => absurd h14 (by rw [e]; simp; omega)⟩)⟩
 have hw0 := Bq k.pos (by omega) (by omega)
 refine VX.skip ?_
 have hw1 := Bq (k.pos + 1 : Int)
 refine VX.H hw1 ?_
 obtain ⟨e2, H2⟩ := gx k.l k.pos.toNat
 refine VX.M (cj3 hw1 H2 hw0) (G2 e2 n (by first | assumption | omega) (by first | assumption | omega)) ?_
 exact .ret ⟨((Fq e2 n (by first | assumption | omega) (by first | assumption | omega)), ⟨k.l, (k.pos + 1)⟩), rW (cj2 hw1 H2) [0], (by first | exact ⟨rfl, by dsimp only; omega, by dsimp only; omega, by dsimp only; omega, fun _ => rfl⟩ | exact ⟨rfl, by dsimp only; omega, (Es _ _ h1 h2).1, (Es _ _ h1 h2).2, fun e => absurd h14 (by rw [e]; simp; omega)⟩)⟩
theorem dN (k : Cf) (n : Int) (h : k.l.length ≤ 300 := by first | assumption | omega) (h0 : 0 ≤ k.pos := by first | assumption | omega) (h1 : 1 ≤ n := by omega) (h2 : n ≤ 1000000 := by omega) : ∃ d : Int × Cf, B8 Tryz.prog 26 [.box 84 (k.a false)] [.ptr 0 0, .lit (.int .i64 n)] [.box 84 (d.2.a false)] (.lit (.int .i64 d.1)) ∧ (d.2.l = k.l ∧ k.pos ≤ d.2.pos ∧ (0 ≤ d.1 ∧ d.1 < n ∧ (k.l = [] → d.1 = 0))) ∧ d.2.l.length ≤ 300 ∧ 0 ≤ d.2.pos := by
 obtain ⟨d, h3, h4⟩ := Ds k n h h0 h1 h2
 exact ⟨d, h3, h4, by rw [h4.1]; exact h, by omega⟩
theorem Aso {es : List (List T)} (h : ∀ e ∈ es, e.length = 4) {i : Nat} (hi : i < es.length) : ∃ a b c d, es[i]? = some [a, b, c, d] := by
 have h1 := Aa hi
 have h2 := h _ (Ac h1)
 match hx : es[i], h2 with
 | [a, b, c, d], _ => exact ⟨a, b, c, d, by rw [h1, hx]⟩
theorem All {es : List (List T)} {l : List B3} {j : Nat} {t : B3} (h : es.drop j = Nw (l.drop j)) (ht : l[j]? = some t) : es[j]? = some t.t := by
 have h1 : (es.drop j)[0]? = some t.t := by
  rw [h, Ap, Bd]
  simp [ht]
 rw [Bd] at h1
 simpa using h1
theorem Aku {α : Type} (es vs : List α) (i : Nat) : (Hm es i vs).take i = es.take i := by
 refine List.ext_getElem? fun j => ?_
 by_cases h : j < i
 ·rw [Ag h, Ag h, Gq, if_neg (by omega)]
 rw [List.getElem?_take_eq_none (by omega), List.getElem?_take_eq_none (by omega)]
structure Ahv (p : B3 -> Bool) (l : List B3) (es : List (List T)) (i j : Nat) : Prop where
  len : es.length = l.length
  ij : i < j
  jl : j <= l.length
  four : ∀ e ∈ es, e.length = 4
  kept : es.take i = Nw ((l.take j).filter fun t => !p t)
  rest : es.drop j = Nw (l.drop j)
theorem Ahv.skip {p : B3 -> Bool} {l : List B3} {es : List (List T)} {i j : Nat} {t : B3} (h : Ahv p l es i j) (ht : l[j]? = some t) (hp : p t = true) : Ahv p l es i (j + 1) := by
 have hj := (Ab.1 ht).1
 refine ⟨h.len, by have := h.ij; omega, hj, h.four, by rw [Wn ht, if_pos hp, List.append_nil]; exact h.kept, ?_⟩
 have := congrArg (List.drop 1) h.rest
 rw [List.drop_drop, <- List.map_drop, List.drop_drop] at this
 simpa [Ba] using this
theorem Ahv.keep {p : B3 -> Bool} {l : List B3} {es : List (List T)} {i j : Nat} {t : B3} (h : Ahv p l es i j) (ht : l[j]? = some t) (hp : p t = false) : Ahv p l (es.set i t.t) (i + 1) (j + 1) := by
 have hj := (Ab.1 ht).1
 have hij := h.ij
 have hl := h.len
 refine ⟨by rw [List.length_set]; exact h.len, by omega, hj, fun e he => ?_, ?_, ?_⟩
 ·rcases Bi he with h1 | h1
  ·exact h.four e h1
  rw [h1]; rfl
 ·rw [Wn ht, hp]
  simp only [Bl, if_false, List.map_append, List.map_cons, List.map_nil]
  rw [show List.map B3.t (List.filter (fun t => !p t) (List.take j l)) = es.take i from h.kept.symm, List.take_add_one, List.take_set_of_le (Aj _), Bg (by omega)]
  rfl
 rw [List.drop_set_of_lt (by omega)]
 have := congrArg (List.drop 1) h.rest
 rw [List.drop_drop, <- List.map_drop, List.drop_drop] at this
 simpa [Ba] using this
theorem Ru (l : List B3) (fid : FuncId) (caps : List AV) (p : B3 -> Bool) (hl : l.length <= 1000000) (hc : Vp caps) (hp : ∀ t, t ∈ l -> PP fid [] (t.g :: caps) [] (.lb (p t))) :
 ∃ R : List (List T), PP 132 [.row 56 4 false false (Nw l)] [.own 0 l.length, .fn fid caps] [.row 56 4 false true R] (.mMsg (l.filter fun t => !p t)) /\ True := by
 refine Y8 (D := List (List T)) (F := fun d => .mMsg (l.filter fun t => !p t)) (S := fun d => [.row 56 4 false true d]) (Q := fun d => True) Tryz.func132 rfl rfl rfl (by simp [Tryz.ntmps132]) ?_
 refine VX.R ?_
 refine VX.S (fun K kk => by simp [go_sem, hc.pass, hc.passC, hc.bor, hc.low]; refine .lo (Yc l fid caps p hl hc hp) (by simp [go_sem, hc.low]) (by simp [AV.cln, Cp]) ?_; simp [go_sem, hc.pass, hc.passC, hc.bor, hc.low]; exact kk) <| .seq ?_
 refine VX.R ?_
 rcases Ts p l 0 with ⟨h1, h2⟩ | ⟨k, t0, h1, h2, h3, h4⟩
 ·have hi : Fd p l = -1 := h1
  have hf := Xo h2
  simp only [hi]
  refine VX.C ?_ ?_ <;> intro h12 <;> simp [go_sem] at h12
  refine VX.R ?_
  refine VX.Z ok0 0 ?_
  refine VX.ret ⟨Nw l, Nx [0] (by simp [go_sem]) (by decide) (by simp) (by simp [go_sem, hf]) ?_, trivial⟩
  repeat' (first | exact .nil | refine .cons (by simp [go_sem]) ?_)
 have hi : Fd p l = (k : Int) := by unfold Fd; rw [h1]; simp
 have hkl := (Ab.1 h2).1
 simp only [hi]
 refine VX.C ?_ ?_ <;> intro h12 <;> simp [go_sem] at h12
 refine VX.skip ?_
 have hw := Bq ((k : Int) + 1)
 refine VX.seq <| .H hw <| .block ?_
 have hI0 : Ahv p l (Nw l) k (k + 1) := ⟨by simp, by omega, by omega, fun e he => by obtain ⟨m, _, rfl⟩ := A4.1 he; rfl, by rw [Wn h2, if_pos h3, List.append_nil, Xo h4]; exact List.map_take.symm, List.map_drop.symm⟩
 refine VX.whileE (fun (y : List (List T) × Nat × Nat) => ⟨[(0, .own 0 y.1.length), (1, .fn fid caps), (5, .li (y.2.1 : Int)), (6, .li (y.2.2 : Int))], [.row 56 4 false false y.1]⟩) (fun y => Ahv p l y.1 y.2.1 y.2.2) (fun y => l.length - y.2.2) (Nw l, k, k + 1) ⟨[0], Bp (by decide) ?_ ?_, by simp⟩ hI0 fun y hy => ?_
 ·simp [go_sem, hc.ren]
 ·simp [go_sem]
 have hy1 := hy.len
 have hy2 := hy.ij
 have hy3 := hy.jl
 refine VX.seq <| .R ?_
 refine VX.C ?_ ?_ <;> intro h19 <;> simp [go_sem] at h19
 ·refine VX.skip <| .seq <| .block ?_
  obtain ⟨t, ht⟩ : ∃ t, l[y.2.2]? = some t := ⟨_, Aa (by omega)⟩
  have hxj := All hy.rest ht
  obtain ⟨a, b, c, d, hxi⟩ := Aso hy.four (i := y.2.1) (by omega)
  refine VX.H hxj ?_
  refine VX.S (fun K kk => by simp [go_sem, hc.pass, hc.passC, hc.bor, hc.low]; refine .lo (hp t (Ac ht)) (by simp [go_sem, hc.low]) (by simp) ?_; simp [go_sem, hc.pass, hc.passC, hc.bor, hc.low]; exact kk) ?_
  have hwj := Bq ((y.2.2 : Int) + 1)
  have hwi := Bq ((y.2.1 : Int) + 1)
  refine VX.C ?_ ?_ <;> intro h29 <;> simp [go_sem] at h29
  ·refine VX.S (fun K kk => by simp [go_sem, hxi, Hm]; repeat first | exact kk | refine aK ?_) ?_
   refine VX.H1 hwi ?_
   refine VX.H1 hwj ?_
   refine ⟨(y.1.set y.2.1 t.t, y.2.1 + 1, y.2.2 + 1), by dsimp only; omega, hy.keep ht h29, [0], Bp (by decide) ?_ ?_, by simp⟩
   ·simp [go_sem, hc.ren]
   simp [go_sem]
  refine VX.skip <| .H1 hwj ?_
  refine ⟨(y.1, y.2.1, y.2.2 + 1), by dsimp only; omega, hy.skip ht h29, [0], Bp (by decide) ?_ ?_, by simp⟩
  ·simp [go_sem, hc.ren]
  simp [go_sem]
 refine VX.exit ?_
 have hj : y.2.2 = l.length := by omega
 have hk := hy.kept
 rw [hj, List.take_length] at hk
 refine VX.S (fun K kk => by simp [go_sem, Cv]; repeat first | exact kk | refine aK ?_) ?_
 refine VX.S (fun K kk => by simp [go_sem, Cv]; repeat first | exact kk | refine aK ?_) ?_
 refine VX.F 0 ?_
 simp [go_sem, -Prod.exists, Cv]
 refine VX.ret ⟨Hm y.1 y.2.1 (List.replicate (y.1.length - y.2.1) [.li 0, .sl 1 [], .sl 1 [], .sl 1 []]), Nx [0] (by simp [go_sem]) (by decide) (by simp) (by simp [go_sem, hk, Cv, Aku]) ?_, trivial⟩
 repeat' (first | exact .nil | refine .cons (by simp [go_sem, Cv]) ?_)
theorem Ku (k : Cf) (lo : Int) (hi : Int) (h : k.l.length <= 300) (h0 : 0 <= k.pos) (h1 : 0 <= lo) (h2 : lo <= hi) (h3 : hi <= 1000) : Cx 25 [.box 84 (k.a false)] [.ptr 0 0, .li lo, .li hi] (fun d : Int × Cf => [.box 84 (d.2.a false)]) (fun d => .li d.1) (fun d => d.2.l = k.l /\ k.pos <= d.2.pos /\ lo <= d.1 /\ d.1 <= hi /\ (k.l = [] -> d.1 = lo)) := by
 refine Pr Tryz.func25 ?_
 obtain ⟨N1, hN1, hq1⟩ := Ds k (hi - lo + 1) h h0 (by omega) (by omega)
 have hw3 := Bq (lo + N1.1)
 refine VX.H hw3 ?_
 have hw1 := Bq (hi - lo : Int)
 have hw2 := Bq ((hi - lo) + 1 : Int)
 refine VX.S (fun K kk => by simp [go_sem, hw3, hw1, hw2]; refine .o [0] (hN1) ?_; simp [go_sem, hw3, hw1, hw2]; exact kk) ?_
 exact .ret ⟨((lo + N1.1), N1.2), rW (cj3 hw3 hw1 hw2) [0], ⟨hq1.1, hq1.2.1, by dsimp only; omega, by dsimp only; omega, fun e => by have := hq1.2.2.2.2 e; dsimp only; omega⟩⟩
theorem dR (k : Cf) (lo hi : Int) (h : k.l.length ≤ 300 := by first | assumption | omega) (h0 : 0 ≤ k.pos := by first | assumption | omega) (h1 : 0 ≤ lo := by omega) (h2 : lo ≤ hi := by omega) (h3 : hi ≤ 1000 := by omega) : ∃ d : Int × Cf, B8 Tryz.prog 25 [.box 84 (k.a false)] [.ptr 0 0, .lit (.int .i64 lo), .lit (.int .i64 hi)] [.box 84 (d.2.a false)] (.lit (.int .i64 d.1)) ∧ (d.2.l = k.l ∧ k.pos ≤ d.2.pos ∧ lo ≤ d.1 ∧ d.1 ≤ hi ∧ (k.l = [] → d.1 = lo)) ∧ d.2.l.length ≤ 300 ∧ 0 ≤ d.2.pos := by
 obtain ⟨d, h4, h5⟩ := Ku k lo hi h h0 h1 h2 h3
 exact ⟨d, h4, h5, by rw [h5.1]; exact h, by omega⟩
theorem Kt : By [] := fun x h => by cases h
theorem Acg (x : Int) : 0 <= IntKind.u8.wrap x /\ IntKind.u8.wrap x < 256 := by
 have e : IntKind.u8.wrap x = x % 256 := by simp [IntKind.wrap, show IntKind.u8.signed = false from rfl, show IntKind.u8.bits = 8 from rfl]
 omega
theorem By.app {l m : List Int} (h : By l) (h' : By m) : By (l ++ m) := fun x hx => (A0.1 hx).elim (h x) (h' x)
theorem Oj (x : Int) : By [IntKind.u8.wrap x] := fun y hy => by simp at hy; subst hy; exact Acg x
theorem As5 (a b : Int) : By [Cm .xor .u8 a b] := Oj _
theorem As4 (x y : Int) : By [IntKind.u8.wrap x, IntKind.u8.wrap y] := fun z hz => by simp at hz; rcases hz with rfl | rfl <;> exact Acg _
theorem Ey (n : Int) : Ct 32 [.li n] (fun d : List Int => .mY d) (fun d => d.length = 8 /\ By d) := by
 refine Cb Tryz.func32 ?_
 refine VX.R ?_
 refine VX.R <| .seq ?_
 refine VX.R <| .block ?_
 refine VX.own0 3 5 1 (by decide) (k' := 1) (by simp [go_sem]) ?_
 simp [go_sem, -Prod.exists]
 refine VX.rangeE 8 (fun i1 (y1 : (List Int)) => ⟨[(0, .li n), (3, .own 0 y1.length), (5, .li i1)], [.row 5 1 false false (tY y1)]⟩) (fun i1 y1 => y1.length = i1 /\ By y1) ([]) (wk ok0 [0]) (⟨rfl, Kt⟩) fun i1 y1 hi1 hy1 => ?_
 refine VX.R <| .seq ?_
 refine VX.C ?_ ?_ <;> intro h6 <;> simp [go_sem] at h6
 ·refine VX.skip <| .seq <| .block <| .R ?_
  refine VX.H1 ok0 ?_
  refine VX.R1 ?_
  exact ⟨by omega, (y1 ++ ([Cm .xor .u8 (IntKind.u8.wrap (Int.fdiv (IntKind.u64.wrap n) (2 ^ min (Int.toNat (IntKind.u64.wrap (8 * (IntKind.u64.wrap i1)))) 64))) (IntKind.u8.wrap (IntKind.i64.wrap (IntKind.i64.wrap (29 * i1) + 7)))])), ⟨by simp; omega, hy1.2.app (As5 _ _)⟩, wk (Bq ((i1 : Int) + 1)) [0]⟩
 refine VX.exit <| .R ?_
 refine VX.Z ok0 0 ?_
 exact .ret (fin ok0 y1 ⟨by omega, hy1.2⟩)
noncomputable def Bt (n : Int) : List Int := (got (Ey n)).choose
theorem De (n : Int) : PP 32 [] [.li n] [] (.mY (Bt n)) := (got (Ey n)).choose_spec.1
theorem F6 (n : Int) : (Bt n).length = 8 /\ By (Bt n) := (got (Ey n)).choose_spec.2
theorem F4 (a : Int) (s : Int) (b : List Int) (h : b.length <= 1000) : Ct 20 [.li a, .li s, .mY b] (fun d : List Int => .mY d) (fun d => d.length = b.length + 2 /\ (By b -> By d)) := by
 refine Cb Tryz.func20 ?_
 have e2 : 2 + b.length = b.length + 1 + 1 := by omega
 refine VX.R ?_
 refine VX.H ok0 ?_
 refine VX.Z ok0 0 ?_
 refine VX.ret (Co ?_); simp [go_sem, e2]
 exact ⟨([IntKind.u8.wrap a, IntKind.u8.wrap s]) ++ b, by first | rfl | simp [go_sem], ⟨by simp, fun h => by first | exact (Oj _).app ((Oj _).app h) | exact ((Oj _).app (Oj _)).app h | exact (As4 _ _).app h⟩⟩
noncomputable def Ca (a : Int) (s : Int) (b : List Int) (h : b.length <= 1000) : List Int := (got (F4 a s b h)).choose
theorem Ez (a : Int) (s : Int) (b : List Int) (h : b.length <= 1000) : PP 20 [] [.li a, .li s, .mY b] [] (.mY (Ca a s b h)) := (got (F4 a s b h)).choose_spec.1
theorem Ny (a : Int) (s : Int) (b : List Int) (h : b.length <= 1000) : (Ca a s b h).length = b.length + 2 /\ (By b -> By (Ca a s b h)) := (got (F4 a s b h)).choose_spec.2
theorem J6 (k : Cf) (num : Int) (ri : Int) (h : k.l.length <= 300) (h0 : 0 <= k.pos) : Cx 28 [.box 84 (k.a false)] [.ptr 0 0, .li num, .li ri] (fun d : TAg × Cf => [.box 84 (d.2.a false)]) (fun d => d.1.g) (fun d => d.2.l = k.l /\ (0 <= d.2.pos /\ (k.l = [] -> d.1.se = 1)) /\ d.1.sec.length = 8 /\ d.1.lims.length = 4 /\ (∀ x ∈ d.1.lims, 0 <= x /\ x <= 3) /\ d.1.ri = ri /\ d.1.cls = 3 /\ (1 <= d.1.rq /\ d.1.rq <= 3) /\ (1 <= d.1.se /\ d.1.se <= 2) /\ (1 <= d.1.ra /\ d.1.ra <= 3) /\ d.1.ra <= d.1.bu /\ d.1.bu <= 7) := by
 refine Pr Tryz.func28 ?_
 refine VX.R ?_
 obtain ⟨D1, hD1, hd1, hl1, hp1⟩ := dR k 1 3
 obtain ⟨D2, hD2, hd2, hl2, hp2⟩ := dR D1.2 1 3
 obtain ⟨D3, hD3, hd3, hl3, hp3⟩ := dN D2.2 3
 obtain ⟨D4, hD4, hd4, hl4, hp4⟩ := dN D3.2 3
 obtain ⟨D5, hD5, hd5, hl5, hp5⟩ := dR D4.2 1 3
 obtain ⟨D6, hD6, hd6, hl6, hp6⟩ := dR D5.2 1 2
 obtain ⟨D7, hD7, hd7, hl7, hp7⟩ := dR D6.2 1 3
 refine VX.region_fz_seq 13 2 (by rfl) fun K1 hK1 => ?_
 simp [go_sem]
 obtain ⟨Y1, cY1, qY1⟩ := got (Ey (IntKind.i64.wrap (1000 + num)))
 refine .l cY1 ?_
 simp [go_sem]
 refine .o [0] (hD1) ?_
 simp [go_sem]
 refine .o [0] (hD2) ?_
 simp [go_sem]
 refine .o [0] (hD3) ?_
 simp [go_sem]
 refine .o [0] (hD4) ?_
 simp [go_sem]
 refine .o [0] (hD5) ?_
 simp [go_sem]
 refine .o [0] (hD6) ?_
 simp [go_sem]
 refine .o [0] (hD7) ?_
 simp [go_sem]
 refine hK1 _ ?_; clear hK1
 obtain ⟨D8, hD8, hd8, hl8, hp8⟩ := dN D7.2 5
 have hw9 := Bq (D7.1 + D8.1)
 refine VX.E (fun K kk => by simp [go_sem, hw9]; refine .o [0] (hD8) ?_; simp [go_sem, hw9]; exact kk) ?_
 refine VX.R ?_
 exact .ret ⟨(⟨Y1, ri, 3, [D1.1, D2.1, D3.1, D4.1], D5.1, D6.1, D7.1, (D7.1 + D8.1)⟩, D8.2), rW ok0 [0], ⟨by simp only [hd1.1, hd2.1, hd3.1, hd4.1, hd5.1, hd6.1, hd7.1, hd8.1], ⟨hp8, fun e => hd6.2.2.2.2 (by simp only [hd1.1, hd2.1, hd3.1, hd4.1, hd5.1, e])⟩, qY1.1, rfl, by simp; omega, rfl, rfl, by dsimp only; omega, by dsimp only; omega, by dsimp only; omega, by dsimp only; omega, by dsimp only; omega⟩⟩
theorem M5 (s : Int) (b : List Int) (h : b.length <= 1000000) : Ct 138 [.lit (.int .u32 s), .mY b] (fun d : Int => .lit (.int .u32 d)) (fun d => True) := by
 refine Cb Tryz.func138 ?_
 refine VX.S (fun K kk => by simp [go_sem, Ff]; exact kk) ?_
 refine VX.S (fun K kk => by simp [go_sem, Ff]; exact kk) <| .seq ?_
 refine VX.S (fun K kk => by simp [go_sem, Ff]; exact kk) <| .block ?_
 refine VX.rangeE b.length (fun i1 (y1 : Int) => ⟨[(5, .lit (.int .u32 y1)), (11, .mY b), (12, .li b.length), (13, .li i1)], []⟩) (fun i1 y1 => True) (Cm .xor .u32 IntKind.u32.max s) (wk ok0 []) (trivial) fun i1 y1 hi1 hy1 => ?_
 refine VX.S (fun K kk => by simp [go_sem, Ff]; exact kk) <| .seq ?_
 refine VX.C ?_ ?_ <;> intro h14 <;> simp [go_sem] at h14
 ·refine VX.skip <| .seq <| .block ?_
  obtain ⟨e1, H1⟩ := gx b i1
  refine VX.S (fun K kk => by simp [go_sem, Ff, H1]; repeat first | exact kk | refine aK ?_) ?_
  refine VX.S (fun K kk => by simp [go_sem, Ff, H1]; exact kk) ?_
  refine VX.S (fun K kk => by simp [go_sem, Ff, H1]; exact kk) <| .block ?_
  refine VX.rangeE 8 (fun i2 (y2 : Int) => ⟨[(5, .lit (.int .u32 y2)), (11, .mY b), (12, .li b.length), (13, .li i1), (21, .li i2)], []⟩) (fun i2 y2 => True) (Cm .xor .u32 y1 (IntKind.u32.wrap e1)) (wk H1 []) (trivial) fun i2 y2 hi2 hy2 => ?_
  refine VX.S (fun K kk => by simp [go_sem, Ff, H1]; exact kk) <| .seq ?_
  refine VX.C ?_ ?_ <;> intro h22 <;> simp [go_sem] at h22
  ·refine VX.skip <| .seq <| .block <| .S (fun K kk => by simp [go_sem, Ff, H1]; exact kk) ?_
   refine VX.S (fun K kk => by simp [go_sem, Ff, H1]; repeat first | exact kk | refine aK ?_) ?_
   refine VX.S (fun K kk => by simp [go_sem, Ff, H1]; exact kk) ?_
   refine VX.C ?_ ?_ <;> intro h28 <;> simp [go_sem] at h28
   ·refine VX.S1 (fun K kk => by simp [go_sem, Ff, H1]; exact kk) ?_
    refine VX.S1 (fun K kk => by simp [go_sem, Ff, H1]; exact kk) ?_
    exact ⟨by omega, (Cm .xor .u32 (Int.fdiv y2 (2 ^ min (Int.toNat 1) 32)) 3988292384), trivial, wk (cj2 (Bq ((i2 : Int) + 1)) H1) []⟩
   refine VX.skip <| .S1 (fun K kk => by simp [go_sem, Ff, H1]; exact kk) ?_
   exact ⟨by omega, (Int.fdiv y2 (2 ^ min (Int.toNat 1) 32)), trivial, wk (cj2 (Bq ((i2 : Int) + 1)) H1) []⟩
  refine VX.exit <| .S1 (fun K kk => by simp [go_sem, Ff, H1]; exact kk) ?_
  exact ⟨by omega, (y2), trivial, wk (cj2 (Bq ((i1 : Int) + 1)) H1) []⟩
 refine VX.exit <| .S (fun K kk => by simp [go_sem, Ff]; exact kk) ?_
 refine VX.ret (Co ?_); simp [go_sem, Ff]
 exact ⟨Cm .xor .u32 IntKind.u32.max y1, by first | rfl | simp [go_sem], trivial⟩
theorem Pa (b : List Int) (h : b.length <= 1000000) : Ct 103 [.mY b] (fun d : Int => .lit (.int .u32 d)) (fun d => True) := by
 refine Cb Tryz.func103 ?_
 refine VX.R ?_
 obtain ⟨Y1, cY1, qY1⟩ := got (M5 0 b (by first | assumption | omega))
 refine VX.L ok0 cY1 ?_
 exact .ret (fin ok0 Y1 trivial)
theorem On (n : Int) : Ct 141 [.li n] (fun d : Int => .li d) (fun d => d ≠ 0 -> 0 <= n /\ n <= 4294967295) := by
 refine Cb Tryz.func141 ?_
 refine VX.R <| .seq ?_
 refine VX.R ?_
 refine VX.C ?_ ?_ <;> intro h9 <;> simp [go_sem] at h9
 ·refine VX.R ?_
  exact .ret (fin ok0 0 (by first | exact fun h => absurd rfl h | (intro _; omega)))
 refine VX.skip <| .R <| .seq <| .block ?_
 refine VX.whileE (fun (y1 : Int × Int) => ⟨[(0, .li y1.1), (3, .li y1.2)], []⟩) (fun y1 => 0 <= y1.1 /\ y1.1 <= 4294967295) (fun y1 => y1.1.toNat) (n, 1) (wk ok0 []) (by dsimp only; omega) fun y1 hy1 => ?_
 refine VX.seq <| .R ?_
 refine VX.C ?_ ?_ <;> intro h11 <;> simp [go_sem] at h11
 ·refine VX.skip <| .block ?_
  have hd : Int.tdiv y1.1 128 = y1.1 / 128 := Int.tdiv_eq_ediv_of_nonneg (by omega)
  have hq := Bq (y1.1 / 128)
  refine VX.H (cj2 hd hq) ?_
  refine VX.R1 ?_
  refine ⟨((y1.1 / 128), IntKind.i64.wrap (y1.2 + 1)), ?_, ?_, [], Bp (by decide) ?_ ?_, by simp⟩
  ·dsimp only; omega
  ·dsimp only; omega
  all_goals simp [go_sem]
 refine VX.exit <| .R ?_
 exact .ret (fin ok0 y1.2 (by first | exact fun h => absurd rfl h | (intro _; omega)))
theorem En (n : Int) : Ct 106 [.li n] (fun d : List Int × Int => .tup [.mY d.1, .li d.2]) (fun d => d.1.length <= 5 /\ By d.1) := by
 refine Cb Tryz.func106 ?_
 obtain ⟨Y1, cY1, qY1⟩ := got (On n)
 have hs := qY1
 refine VX.R <| .seq ?_
 refine VX.L ok0 cY1 ?_
 refine VX.C ?_ ?_ <;> intro h7 <;> simp [go_sem] at h7
 ·refine VX.R ?_
  exact .ret (fin ok0 ([], 8) (by first | exact ⟨Ae _, Kt⟩ | exact ⟨by simp only [Bo, A6, List.length_nil]; omega, hy1.2.app (Oj _)⟩))
 have hn := hs h7
 refine VX.skip <| .R <| .seq <| .block ?_
 refine VX.own0 4 5 1 (by decide) (k' := 1) (by simp [go_sem]) ?_
 simp [go_sem, -Prod.exists]
 refine VX.whileE (fun (y1 : (List Int) × Int) => ⟨[(0, .li y1.2), (4, .own 0 y1.1.length)], [.row 5 1 false false (tY y1.1)]⟩) (fun y1 => (0 <= y1.2 /\ ((y1.1.length = 0 /\ y1.2 <= 4294967295) \/ (y1.1.length = 1 /\ y1.2 <= 33554431) \/ (y1.1.length = 2 /\ y1.2 <= 262143) \/ (y1.1.length = 3 /\ y1.2 <= 2047) \/ (y1.1.length = 4 /\ y1.2 <= 15))) /\ By y1.1) (fun y1 => y1.2.toNat) ([], n) (wk ok0 [0]) (⟨by simp; omega, Kt⟩) fun y1 hy1 => ?_
 refine VX.seq <| .R ?_
 refine VX.C ?_ ?_ <;> intro h9 <;> simp [go_sem] at h9
 ·refine VX.skip <| .block <| .H ok0 ?_
  have hd : Int.tdiv y1.2 128 = y1.2 / 128 := Int.tdiv_eq_ediv_of_nonneg (by omega)
  have hq := Bq (y1.2 / 128)
  refine VX.H1 (cj2 hd hq) ?_
  refine ⟨(y1.1 ++ ([IntKind.u8.wrap (IntKind.i64.wrap (Int.tmod y1.2 128 + 128))]), (y1.2 / 128)), ?_, ?_, [0], Bp (by decide) ?_ ?_, by simp⟩
  ·dsimp only; omega
  ·exact ⟨by simp only [Bo, A6, List.length_nil]; omega, hy1.2.app (Oj _)⟩
  all_goals simp [go_sem]
 refine VX.exit <| .H ok0 ?_
 refine VX.Z ok0 0 ?_
 exact .ret (fin ok0 (y1.1 ++ ([IntKind.u8.wrap y1.2]), 0) (by first | exact ⟨Ae _, Kt⟩ | exact ⟨by simp only [Bo, A6, List.length_nil]; omega, hy1.2.app (Oj _)⟩))
noncomputable def Hu (n : Int) : List Int × Int := (got (En n)).choose
theorem Bx (n : Int) : (Hu n).1.length <= 5 /\ By (Hu n).1 := (got (En n)).choose_spec.2
theorem Fo (k : Int) : Ct 76 [.li k] (fun d : Kq => d.g) (fun d => 0 <= d.fix /\ d.fix <= 4 /\ 0 <= d.grp /\ d.grp <= 4 /\ 0 <= d.lea /\ d.lea <= 1 /\ 0 <= d.mos /\ d.mos <= 100 /\ -1 <= d.dat /\ d.dat <= 10) := by
 refine Cb Tryz.func76 ?_
 refine VX.R <| .seq ?_
 refine VX.R <| .block ?_
 refine VX.R ?_
 refine VX.C ?_ ?_ <;> intro h4 <;> simp [go_sem] at h4
 ·refine VX.R ?_
  exact .ret (fin ok0 ⟨3, 0, 0, 0, 0⟩ (by decide))
 refine VX.orcases2 (by rfl) fun K1 hK1 => ?_
 simp [go_sem]
 refine hK1 _ ⟨_, _, _, _, _, _, _, _, rfl, .more (by decide) rfl rfl (.more (by decide) rfl rfl (.more (by decide) rfl rfl (.more (by decide) rfl rfl (.one (by decide) rfl rfl)))), by decide, rfl, by simp [go_sem]; rfl, by simp [go_sem]; rfl, by simp [go_sem], ?_⟩; clear hK1
 refine VX.C ?_ ?_ <;> intro h7 <;> simp [go_sem] at h7
 ·refine VX.R ?_
  exact .ret (fin ok0 ⟨1, 0, 0, 0, 0⟩ (by decide))
 refine VX.orcases2 (by rfl) fun K1 hK1 => ?_
 simp [go_sem]
 refine hK1 _ ⟨_, _, _, _, _, _, _, _, rfl, .more (by decide) rfl rfl (.more (by decide) rfl rfl (.one (by decide) rfl rfl)), by decide, rfl, by simp [go_sem]; rfl, by simp [go_sem]; rfl, by simp [go_sem], ?_⟩; clear hK1
 refine VX.C ?_ ?_ <;> intro h15 <;> simp [go_sem] at h15
 ·refine VX.R ?_
  exact .ret (fin ok0 ⟨2, 0, 0, 0, 0⟩ (by decide))
 refine VX.R ?_
 refine VX.C ?_ ?_ <;> intro h21 <;> simp [go_sem] at h21
 ·refine VX.R ?_
  exact .ret (fin ok0 ⟨3, 4, 1, 3, 0⟩ (by decide))
 refine VX.R ?_
 refine VX.C ?_ ?_ <;> intro h24 <;> simp [go_sem] at h24
 ·refine VX.R ?_
  exact .ret (fin ok0 ⟨1, 2, 1, 3, 0⟩ (by decide))
 refine VX.R ?_
 refine VX.C ?_ ?_ <;> intro h27 <;> simp [go_sem] at h27
 ·refine VX.R ?_
  exact .ret (fin ok0 ⟨1, 0, 0, 0, 10⟩ (by decide))
 refine VX.orcases2 (by rfl) fun K1 hK1 => ?_
 simp [go_sem]
 refine hK1 _ ⟨_, _, _, _, _, _, _, _, rfl, .one (by decide) rfl rfl, by decide, rfl, by simp [go_sem]; rfl, by simp [go_sem]; rfl, by simp [go_sem], ?_⟩; clear hK1
 refine VX.C ?_ ?_ <;> intro h30 <;> simp [go_sem] at h30
 ·refine VX.R ?_
  exact .ret (fin ok0 ⟨1, 0, 0, 0, (-1)⟩ (by decide))
 refine VX.R ?_
 refine VX.C ?_ ?_ <;> intro h34 <;> simp [go_sem] at h34
 ·refine VX.R ?_
  exact .ret (fin ok0 ⟨1, 3, 0, 16, 0⟩ (by decide))
 refine VX.R ?_
 refine VX.C ?_ ?_ <;> intro h37 <;> simp [go_sem] at h37
 ·refine VX.R ?_
  exact .ret (fin ok0 ⟨0, 2, 0, 4, 0⟩ (by decide))
 refine VX.R ?_
 refine VX.C ?_ ?_ <;> intro h40 <;> simp [go_sem] at h40
 ·refine VX.R ?_
  exact .ret (fin ok0 ⟨4, 0, 0, 0, 0⟩ (by decide))
 refine VX.skip <| .R ?_
 exact .ret (fin ok0 ⟨0, 0, 0, 0, 0⟩ (by decide))
noncomputable def B7 (k : Int) : Kq := (got (Fo k)).choose
theorem P5 (k : Int) : PP 76 [] [.li k] [] (.agg ((B7 k).a false)) := (got (Fo k)).choose_spec.1
theorem Qe (k : Int) : 0 <= (B7 k).fix /\ (B7 k).fix <= 4 /\ 0 <= (B7 k).grp /\ (B7 k).grp <= 4 /\ 0 <= (B7 k).lea /\ (B7 k).lea <= 1 /\ 0 <= (B7 k).mos /\ (B7 k).mos <= 100 /\ -1 <= (B7 k).dat /\ (B7 k).dat <= 10 := (got (Fo k)).choose_spec.2
theorem Fm (m : B3) (h1 : m.tok.length <= 10000) (h2 : m.args.length <= 10000) (h3 : m.data.length <= 10000) : Ct 78 [m.g] (fun d : List Int => .mY d) (fun d => By m.tok -> By m.data -> By d) := by
 refine Cb Tryz.func78 ?_
 obtain ⟨Y1, cY1, qY1⟩ := got (Fo m.kind)
 have hv := cY1
 have hq0 := qY1
 generalize Y1 = S at hv hq0
 refine VX.S (fun K kk => by simp [go_sem, Af, Ba, A7]; exact kk) ?_
 refine VX.S (fun K kk => by simp [go_sem, Af, Ba, A7]; refine .l (hv) ?_; simp [go_sem, Af, Ba, A7]; exact kk) ?_
 refine VX.S (fun K kk => by simp [go_sem, Af, Ba, A7]; repeat first | exact kk | refine aK ?_) <| .seq ?_
 refine VX.S (fun K kk => by simp [go_sem, Af, Ba, A7]; exact kk) <| .block ?_
 refine VX.rangeE m.args.length (fun i1 (y1 : (List Int)) => ⟨[(1, .ptr 0 0), (3, .ptr 1 0), (4, .own 2 y1.length), (16, .mI m.args), (17, .li m.args.length), (18, .li i1)], [.box 56 [.li m.kind, .mY m.tok, .mI m.args, .mY m.data], .box 177 [.li S.fix, .li S.grp, .li S.lea, .li S.mos, .li S.dat], .row 5 1 false false (tY y1)]⟩) (fun i1 y1 => y1.length <= m.tok.length + 6 * i1 /\ (By m.tok -> By y1)) (m.tok) (wk ok0 [0, 1, 2]) (⟨by simp, fun h => h⟩) fun i1 y1 hi1 hy1 => ?_
 refine VX.S (fun K kk => by simp [go_sem, Af, Ba, A7]; exact kk) <| .seq ?_
 refine VX.C ?_ ?_ <;> intro h19 <;> simp [go_sem] at h19
 ·refine VX.skip <| .seq <| .block ?_
  obtain ⟨e1, H1⟩ := gx m.args i1
  refine VX.S (fun K kk => by simp [go_sem, Af, Ba, A7, H1]; repeat first | exact kk | refine aK ?_) <| .seq ?_
  refine VX.S (fun K kk => by simp [go_sem, Af, Ba, A7, H1]; exact kk) ?_
  refine VX.C ?_ ?_ <;> intro h31 <;> simp [go_sem] at h31
  ·refine VX.S1 (fun K kk => by simp [go_sem, Af, Ba, A7, H1]; repeat first | exact kk | refine aK ?_) ?_
   have he := fun n => Bx n
   obtain ⟨Y2, cY2, qY2⟩ := got (En e1)
   refine VX.S (fun K kk => by simp [go_sem, Af, Ba, A7, H1]; refine .l cY2 ?_; simp [go_sem, Af, Ba, A7, H1]; exact kk) ?_
   refine VX.region1 (by rfl) fun K1 hK1 => ?_
   simp [go_sem, Af, Ba, A7, H1]
   repeat' with_reducible refine Ax ?_ ?_
   all_goals try (intros; (repeat' refine Ax ?_ ?_) <;> omega)
   all_goals try ((try have q1 := qY2); (try have q2 := Bx e2); (try have q3 := Bx e3); (try have q4 := Bx e4); omega)
   refine hK1 _ ?_; clear hK1
   refine VX.S1 (fun K kk => by simp [go_sem, Af, Ba, A7, H1]; exact kk) ?_
   refine ⟨by omega, ((y1 ++ ([IntKind.u8.wrap (IntKind.i64.wrap (Int.tdiv (IntKind.i64.wrap (m.args.length - S.fix)) S.grp))])) ++ (Y2.1)), ?_, [0, 1, 2], Bp (by decide) ?_ ?_, by simp⟩
   ·refine ⟨?_, fun h => by first | exact hy1.2 h | exact ((hy1.2 h).app (Oj _)).app qY2.2 | exact (hy1.2 h).app qY2.2⟩; simp only [Bo, A6, List.length_nil]; (try have q1 := qY2); (try have q2 := Bx e2); (try have q3 := Bx e3); (try have q4 := Bx e4); omega
   all_goals simp [go_sem, Bq ((i1 : Int) + 1), H1, Af, Ba, A7]
  refine VX.skip ?_
  have he := fun n => Bx n
  obtain ⟨Y3, cY3, qY3⟩ := got (En e1)
  refine VX.S (fun K kk => by simp [go_sem, Af, Ba, A7, H1]; refine .l cY3 ?_; simp [go_sem, Af, Ba, A7, H1]; exact kk) ?_
  refine VX.region1 (by rfl) fun K1 hK1 => ?_
  simp [go_sem, Af, Ba, A7, H1]
  repeat' with_reducible refine Ax ?_ ?_
  all_goals try (intros; (repeat' refine Ax ?_ ?_) <;> omega)
  all_goals try ((try have q1 := qY3); (try have q2 := Bx e2); (try have q3 := Bx e3); (try have q4 := Bx e4); omega)
  refine hK1 _ ?_; clear hK1
  refine VX.S1 (fun K kk => by simp [go_sem, Af, Ba, A7, H1]; exact kk) ?_
  refine ⟨by omega, (y1 ++ (Y3.1)), ?_, [0, 1, 2], Bp (by decide) ?_ ?_, by simp⟩
  ·refine ⟨?_, fun h => by first | exact hy1.2 h | exact ((hy1.2 h).app (Oj _)).app qY3.2 | exact (hy1.2 h).app qY3.2⟩; simp only [Bo, A6, List.length_nil]; (try have q1 := qY3); (try have q2 := Bx e2); (try have q3 := Bx e3); (try have q4 := Bx e4); omega
  all_goals simp [go_sem, Bq ((i1 : Int) + 1), H1, Af, Ba, A7]
 refine VX.exit <| .seq <| .S (fun K kk => by simp [go_sem, Af, Ba, A7]; exact kk) ?_
 refine VX.C ?_ ?_ <;> intro h64 <;> simp [go_sem] at h64
 ·refine VX.S1 (fun K kk => by simp [go_sem, Af, Ba, A7]; repeat first | exact kk | refine aK ?_) ?_
  refine VX.S (fun K kk => by simp [go_sem, Af, Ba, A7]; repeat first | exact kk | refine aK ?_) ?_
  refine VX.Z ok0 2 ?_
  refine VX.ret (Co ?_); simp [go_sem, Af, Ba, A7]
  exact ⟨(y1 ++ ([0])) ++ m.data, by first | rfl | simp [go_sem], (fun h1 h2 => by first | exact ((hy1.2 h1).app (fun x hx => by simp at hx; omega)).app h2 | exact (hy1.2 h1).app h2)⟩
 refine VX.skip <| .S (fun K kk => by simp [go_sem, Af, Ba, A7]; repeat first | exact kk | refine aK ?_) ?_
 refine VX.Z ok0 2 ?_
 refine VX.ret (Co ?_); simp [go_sem, Af, Ba, A7]
 exact ⟨y1 ++ m.data, by first | rfl | simp [go_sem], (fun h1 h2 => by first | exact ((hy1.2 h1).app (fun x hx => by simp at hx; omega)).app h2 | exact (hy1.2 h1).app h2)⟩
noncomputable def Dm (m : B3) (h1 : m.tok.length <= 10000) (h2 : m.args.length <= 10000) (h3 : m.data.length <= 10000) : List Int := (got (Fm m h1 h2 h3)).choose
theorem Hn (m : B3) (h1 : m.tok.length <= 10000) (h2 : m.args.length <= 10000) (h3 : m.data.length <= 10000) : PP 78 [] [m.g] [] (.mY (Dm m h1 h2 h3)) := (got (Fm m h1 h2 h3)).choose_spec.1
theorem Hp (m : B3) (h1 : m.tok.length <= 10000) (h2 : m.args.length <= 10000) (h3 : m.data.length <= 10000) : By m.tok -> By m.data -> By (Dm m h1 h2 h3) := (got (Fm m h1 h2 h3)).choose_spec.2
end Go.Proofs.YtkkimgjinbaemaaGreat
